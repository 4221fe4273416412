/- Part 16 of 17 of a proof: see the last part. -/
import Derived.Test.YtbpgkkoeehopjaaGreatP1
import Derived.Test.YtbpgkkoeehopjaaGreatP4
import Derived.Test.YtbpgkkoeehopjaaGreatP7
import Derived.Test.YtbpgkkoeehopjaaGreatP8
import Derived.Test.YtbpgkkoeehopjaaGreatP10
import Derived.Test.YtbpgkkoeehopjaaGreatP12
import Derived.Test.YtbpgkkoeehopjaaGreatP14
import Derived.Test.YtbpgkkoeehopjaaGreatP15
import Derived.Laws.StructEq
import Derived.Deep.QuietTactic
import Derived.BigQuiet
import Derived.Test.YtbpgkkoeehopjaaGreatRows
import Derived.ChangeArms
import Derived.ProofKit
import Derived.OpenShut
import Derived.Deep.Matrix
import Derived.SizedLaws
set_option linter.unusedVariables false
set_option linter.unusedSimpArgs false
namespace Go.Proofs.YtbpgkkoeehopjaaGreat.hp
open Go.RowKit words enc tree gram lex rd dec dat held ty
set_option maxRecDepth 100000
set_option maxHeartbeats 40000000
attribute [local go_sem ↓] Go.wp_at_zero Go.wp_at_succ
theorem q7e (d:DefD): ∀(l:List DefD) (a:DefD),defN (l.foldl (y3t d) a)≤defN a+y0f l
 |[],a=>by simp [y0f,sumN]
 |x::r,a=>by
  have h1:=q7e d r (y3t d a x)
  have h2:defN (y3t d a x)≤defN a+defN x:=by
   unfold y3t;split
   ·exact z6l a x
   ·omega
  simp only [List.foldl_cons,y0f,sumN] at h1 ⊢;omega
theorem x07 (defs:List DefD): ∀(l out:List DefD),(l.foldl (y19 defs) out).length≤out.length+l.length
 |[],out=>by simp
 |x::r,out=>by
  have h1:=x07 defs r (y19 defs out x)
  have h2:(y19 defs out x).length≤out.length+1:=by
   unfold y19
   split<;>simp
  simp only [List.foldl_cons,List.length_cons];omega
theorem y7z {l:List DefD} {x:Txt} (h:x∈y0a l): ∃i:Nat,y2h l x=i:=by
 unfold y2h
 cases hq:y1f l x with
 |none=>exact absurd h (y5x hq)
 |some i=>exact ⟨i,rfl⟩
theorem y70 {l:List DefD} {x:Txt} (h:x∉y0a l):y2h l x= -1:=by
 unfold y2h;rw [q3t h]
theorem y7a {l:List DefD} {k:Nat} {d:DefD} (h:l[k]?=some d):defN d≤y0f l:=y8d (f:=defN) h
section
variable {w0 w K : World} {M : List Ent}
theorem x9w (defs:List DefD) {n c:Nat} {A:Option Addr} (hl:defs.length=n) (hN:y0f defs≤2900000) (hd:RD K (.list n (y0q defs)) (.slice A n c)) (H:Hp w0 w K M):
  Calls Tryz.prog 69 #[.slice A n c] w fun e w'=>∃K' A' c' vs,e= .returned (.slice A' (y3f defs).length c')∧Sat K' K∧RL K' (y0q (y3f defs)) vs∧Hp w0 w' K' (.row 43 17 (.slice A' (y3f defs).length c') (y3f defs).length vs::M):=by
 have hn:n≤9000000:=by have:=y0p y1x defs;unfold y0f at hN;omega
 have HN:=hide hl;have HD:=hide hN;obtain ⟨R,hR⟩: ∃R,y3f defs=R:=⟨_,rfl⟩;rw [hR];have HR:=hide hR;clear hl hR hN;go_enter Tryz.func69,Tryz.ntmps69
 go_upto_region 3 with (refine (q3r H).mono ?_;clear H;rintro e w ⟨K1,Ag,cg,rfl,hle1,H,hg⟩)
 replace hd:=hd.sat hle1
 go_wp2_with fail
 replace H:=H.nilRow 43 17
 go_loopw [3,5] (fun v i wr=>∃(K':World) (k:Nat) (A':Option Addr) (c':Nat) (vs:List Value) (out:List DefD),k≤n∧i= .int .i64 k∧v= .slice A' out.length c'∧Hid ((defs.take k).foldl (y19 defs) []=out)∧Sat K' K1∧RL K' (y0q out) vs∧Hp w0 wr K' (.row 43 17 (.slice A' out.length c') out.length vs::M)) (fun _ i _=>n - (intOf i).toNat)
 case atStart=>exact ⟨K1,0,none,0,[],[],Qak _,rfl,rfl,rfl,Sat.refl _,RL.z,H⟩
 case round=>
  clear H;obtain ⟨K',k,A',c',vs,out,hk,rfl,rfl,HO,hle,hvs,H⟩:=hrel;replace hd:=hd.sat hle;replace hg:=hg.sat hle
  have hml:out.length≤k:=by have:=x07 defs (defs.take k) [];rw [HO.out] at this;simp only [List.length_nil,Qau] at this;omega
  have hmn:out.length≤9000000:=by omega
  by_cases hlt:k<n
  ·obtain ⟨d,ad,us,hx,rfl,hxl,hat⟩:=el_k (m:=17) (f:=defL) y0x hd (by rw [HN.out];exact hlt) (by decide);obtain ⟨hkI,hwr⟩:=wr_k hlt hn;have hdn:=y7a hx;have htk:=y0k hx;obtain ⟨A6,c6,A7,c7,A8,c8,A9,c9,A10,c10,A11,c11,A12,c12,A14,c14,rfl,-,-,-,-,-,-,-,-⟩:=y0e hxl;have HXN:=hide (show defN d≤2900000 from Qah hdn HD.out);clear hx hdn hml;obtain ⟨ty,hty⟩: ∃b,decide (2≤d.kind∧d.kind≤7)=b:=⟨_,rfl⟩;obtain ⟨p1,hp1⟩: ∃b,y2h out d.name=b:=⟨_,rfl⟩;obtain ⟨p2,hp2⟩: ∃b,y2h givenT d.name=b:=⟨_,rfl⟩
   cases ty with
   |false=>
    have hno:=of_decide_eq_false hty
    have HS:Hid ((defs.take (k+1)).foldl (y19 defs) []=out):=by
     show _=_
     rw [htk,List.foldl_append,HO.out];simp only [List.foldl_cons,List.foldl_nil,y19];rw [if_neg (fun h=>hno ⟨h.1.1,h.1.2.1⟩)]
    go_wp2_with (first|(refine oL H ?_)|(refine oA 6 H ?_;clear H;intro w g6 H)|(refine oP H ?_;clear H;intro w _ H)|((with_reducible refine (y97 H hty).mono ?_);clear H;rintro e w ⟨rfl,H⟩)|((with_reducible refine (y1l d.name rfl hmn (rowR H (i:=1) rfl hvs) hp1).mono ?_);rintro e w9 ⟨rfl,hw9⟩;subst w9)|((with_reducible refine (y1l d.name rfl (by decide) (hg.sat H.sat) hp2).mono ?_);rintro e w9 ⟨rfl,hw9⟩;subst w9))
    go_roundw
    case rel=>exact ⟨K',k+1,A',c',vs,out,by omega,by go_num,rfl,HS,hle,hvs,H.fin⟩
    case measure=>simp [intOf];omega
   |true=>
    have hyes:=Qa6 hty;by_cases hext:d.ext=true
    ·have hex2:=hext
     have HS:Hid ((defs.take (k+1)).foldl (y19 defs) []=out):=by
      show _=_
      rw [htk,List.foldl_append,HO.out];simp only [List.foldl_cons,List.foldl_nil,y19];rw [if_neg (fun h=>by have:=h.1.2.2;rw [hext] at this;cases this)]
     go_wp2_with (first|(refine oL H ?_)|(refine oA 6 H ?_;clear H;intro w g6 H)|(refine oP H ?_;clear H;intro w _ H)|((with_reducible refine (y97 H hty).mono ?_);clear H;rintro e w ⟨rfl,H⟩)|((with_reducible refine (y1l d.name rfl hmn (rowR H (i:=1) rfl hvs) hp1).mono ?_);rintro e w9 ⟨rfl,hw9⟩;subst w9)|((with_reducible refine (y1l d.name rfl (by decide) (hg.sat H.sat) hp2).mono ?_);rintro e w9 ⟨rfl,hw9⟩;subst w9))
     go_roundw
     case rel=>exact ⟨K',k+1,A',c',vs,out,by omega,by go_num,rfl,HS,hle,hvs,H.fin⟩
     case measure=>simp [intOf];omega
    ·replace hext:d.ext=false:=by simpa using hext
     by_cases h1:d.name∈y0a out
     ·obtain ⟨i,hi⟩:=y7z h1;obtain rfl:p1=(i:Int):=hp1.symm.trans hi
      have hi0:(0:Int)≤(i:Int):=by omega
      clear hi
      have HS:Hid ((defs.take (k+1)).foldl (y19 defs) []=out):=by
       show _=_
       rw [htk,List.foldl_append,HO.out];simp only [List.foldl_cons,List.foldl_nil,y19];rw [if_neg (fun h=>h.2.1 h1)]
      go_wp2_with (first|(refine oL H ?_)|(refine oA 6 H ?_;clear H;intro w g6 H)|(refine oP H ?_;clear H;intro w _ H)|((with_reducible refine (y97 H hty).mono ?_);clear H;rintro e w ⟨rfl,H⟩)|((with_reducible refine (y1l d.name rfl hmn (rowR H (i:=1) rfl hvs) hp1).mono ?_);rintro e w9 ⟨rfl,hw9⟩;subst w9)|((with_reducible refine (y1l d.name rfl (by decide) (hg.sat H.sat) hp2).mono ?_);rintro e w9 ⟨rfl,hw9⟩;subst w9))
      go_roundw
      case rel=>exact ⟨K',k+1,A',c',vs,out,by omega,by go_num,rfl,HS,hle,hvs,H.fin⟩
      case measure=>simp [intOf];omega
     ·obtain rfl:p1= -1:=hp1.symm.trans (y70 h1);by_cases h2:d.name∈y0a givenT
      ·obtain ⟨i,hi⟩:=y7z h2;obtain rfl:p2=(i:Int):=hp2.symm.trans hi
       have hi0:(0:Int)≤(i:Int):=by omega
       clear hi
       have HS:Hid ((defs.take (k+1)).foldl (y19 defs) []=out):=by
        show _=_
        rw [htk,List.foldl_append,HO.out];simp only [List.foldl_cons,List.foldl_nil,y19];rw [if_neg (fun h=>h.2.2 h2)]
       go_wp2_with (first|(refine oL H ?_)|(refine oA 6 H ?_;clear H;intro w g6 H)|(refine oP H ?_;clear H;intro w _ H)|((with_reducible refine (y97 H hty).mono ?_);clear H;rintro e w ⟨rfl,H⟩)|((with_reducible refine (y1l d.name rfl hmn (rowR H (i:=1) rfl hvs) hp1).mono ?_);rintro e w9 ⟨rfl,hw9⟩;subst w9)|((with_reducible refine (y1l d.name rfl (by decide) (hg.sat H.sat) hp2).mono ?_);rintro e w9 ⟨rfl,hw9⟩;subst w9))
       go_roundw
       case rel=>exact ⟨K',k+1,A',c',vs,out,by omega,by go_num,rfl,HS,hle,hvs,H.fin⟩
       case measure=>simp [intOf];omega
      ·obtain rfl:p2= -1:=hp2.symm.trans (y70 h2)
       have HS:Hid ((defs.take (k+1)).foldl (y19 defs) []=out++[x01 defs d]):=by
        show _=_
        rw [htk,List.foldl_append,HO.out];simp only [List.foldl_cons,List.foldl_nil,y19];rw [if_pos ⟨⟨hyes.1,hyes.2,hext⟩,h1,h2⟩]
       clear h1 h2 hyes htk
       go_upto_region 8 with (first|(refine oL H ?_)|(refine oA 6 H ?_;clear H;intro w g6 H)|(refine oP H ?_;clear H;intro w _ H)|((with_reducible refine (y97 H hty).mono ?_);clear H;rintro e w ⟨rfl,H⟩)|((with_reducible refine (y1l d.name rfl hmn (rowR H (i:=1) rfl hvs) hp1).mono ?_);rintro e w9 ⟨rfl,hw9⟩;subst w9)|((with_reducible refine (y1l d.name rfl (by decide) (hg.sat H.sat) hp2).mono ?_);rintro e w9 ⟨rfl,hw9⟩;subst w9))
       clear hp1 hp2 hty;clear hg;clear hext
       have hd9:defN d≤9000000:=by have:=HXN.out;omega
       go_upto_region 9 with (first|(refine oL H ?_)|(go_at_call 86;(refine (y69 d _ H hd9 hxl).mono ?_);clear H;rintro e w ⟨K2,V,he,hle2,H,hV⟩;obtain rfl:e= .returned (.agg #[.int .i64 d.kind,.bool d.ext,.bool d.note.has,.bool d.note.block,.string (str d.note.text),.string (str d.name),V.v6,V.v7,V.v8,V.v9,V.v10,V.v11,V.v12,.bool d.rep,V.v14,.int .i64 d.line,.int .i64 d.col]):=he;have ho:=hide (y8f H);replace H:Hp _ _ _ (.row 52 10 V.v8 d.fields.length V.x8:: .row 133 7 V.v11 d.values.length V.x11:: .row 113 3 V.v6 d.ifaces.length V.x6:: .row 113 3 V.v10 d.members.length V.x10:: .row 113 3 V.v14 d.places.length V.x14:: .row 100 4 V.v12 d.roots.length V.x12:: .row 123 17 V.v9 d.inputs.length V.x9:: .row 181 4 V.v7 d.dirs.length V.x7::_):=H)|(refine oA 7 H ?_;clear H;intro w g7 H)|(refine oP H ?_;clear H;intro w _ H))
       clear hat hxl hd9;replace hd:=hd.sat hle2;replace hvs:=hvs.sat hle2
       go_wp2_with fail
       go_loopw [8] (fun i wr=>∃(K3:World) (j:Nat) (V:DV) (W:DefD),j≤n∧i= .int .i64 j∧Hid ((defs.take j).foldl (y3t d) d=W)∧Sat K3 K2∧V.ok K3 W∧Hp w0 wr K3 (.box g7 [.int .i64 W.kind,.bool W.ext,.bool W.note.has,.bool W.note.block,.string (str W.note.text),.string (str W.name),V.v6,V.v7,V.v8,V.v9,V.v10,V.v11,V.v12,.bool W.rep,V.v14,.int .i64 W.line,.int .i64 W.col] 43:: .box g6 [.int .i64 d.kind,.bool d.ext,.bool d.note.has,.bool d.note.block,.string (str d.note.text),.string (str d.name),.slice A6 d.ifaces.length c6,.slice A7 d.dirs.length c7,.slice A8 d.fields.length c8,.slice A9 d.inputs.length c9,.slice A10 d.members.length c10,.slice A11 d.values.length c11,.slice A12 d.roots.length c12,.bool d.rep,.slice A14 d.places.length c14,.int .i64 d.line,.int .i64 d.col] 43:: .row 52 10 V.v8 W.fields.length V.x8:: .row 133 7 V.v11 W.values.length V.x11:: .row 113 3 V.v6 W.ifaces.length V.x6:: .row 113 3 V.v10 W.members.length V.x10:: .row 113 3 V.v14 W.places.length V.x14:: .row 100 4 V.v12 W.roots.length V.x12:: .row 123 17 V.v9 W.inputs.length V.x9:: .row 181 4 V.v7 W.dirs.length V.x7:: .row 43 17 (.slice A' out.length c') out.length vs::M)) (fun i _=>n - (intOf i).toNat)
       case atStart=>exact ⟨K2,0,V,d,Qak _,rfl,rfl,Sat.refl _,hV,H.fin⟩
       case round=>
        clear H hV ho;obtain ⟨K3,j,V,W,hj,rfl,HW,hle3,hV,H⟩:=hrel;replace hd:=hd.sat hle3;by_cases hlt2:j<n
        ·obtain ⟨x,ad2,us,hx2,e2,hyl,hat2⟩:=el_k (m:=17) (f:=defL) y0x hd (by rw [HN.out];exact hlt2) (by decide);injection e2 with e2;subst e2;obtain ⟨hjI,hwj⟩:=wr_k hlt2 hn;have hxn:=y7a hx2;have htk2:=y0k hx2;obtain ⟨B6,b6,B7,b7,B8,b8,B9,b9,B10,b10,B11,b11,B12,b12,B14,b14,rfl,-,-,-,-,-,-,-,-⟩:=y0e hyl
         have hWn:defN W+defN x≤9000000:=by
          have h1:=q7e d (defs.take j) d;have h2:=y91 (f:=defN) defs j;have h3:=HXN.out;have h4:=HD.out;rw [HW.out] at h1;unfold y0f at*;omega
         have HS2:Hid ((defs.take (j+1)).foldl (y3t d) d=if x.ext=true∧x.kind=d.kind∧x.name=d.name then y0y W x else W):=by
          show _=_
          rw [htk2,List.foldl_append,HW.out];rfl
         clear hx2 hxn htk2;by_cases ce:x.ext=true
         ·by_cases ck:x.kind=d.kind
          ·have ek:(x.kind==d.kind)=true:=Qa7.2 ck;by_cases cn:x.name=d.name
           ·have en:((str x.name).toList==(str d.name).toList)=true:=by rw [Go.Proofs.YtbpgkkoeehopjaaGreat.gram.str_eq];exact Qa5 cn
            have HS2:=HS2.out;rw [if_pos ⟨ce,ck,cn⟩] at HS2;obtain ⟨W2,hW2⟩: ∃W2,y0y W x=W2:=⟨_,rfl⟩;rw [ce] at hyl;have ht:=fun {w} {M} (H:Hp w0 w K3 (DV.rows W V++M))=>z30 W x V #[_,_,_,_,_,_,_,_,_,_,_,_,_,_,_,_,_] H hV hWn hyl;simp only [hW2] at ht;rw [hW2] at HS2;replace HS2:=hide HS2;clear hW2 ck cn hWn hyl
            go_wp2_with (first|(refine oL H ?_)|(go_at_call 120;(refine (ht (M:=.box g9 _ _:: .box g7 _ _:: .box g6 _ _:: .row 43 17 _ _ _::M) H.fin).mono ?_);clear H;rintro e w ⟨K4,V2,he,hle4,H,hV2⟩;obtain rfl:e= .returned (.agg #[.int .i64 W2.kind,.bool W2.ext,.bool W2.note.has,.bool W2.note.block,.string (str W2.note.text),.string (str W2.name),V2.v6,V2.v7,V2.v8,V2.v9,V2.v10,V2.v11,V2.v12,.bool W2.rep,V2.v14,.int .i64 W2.line,.int .i64 W2.col]):=he;have ho:=hide (y8f H);replace H:Hp _ _ _ (.row 52 10 V2.v8 W2.fields.length V2.x8:: .row 133 7 V2.v11 W2.values.length V2.x11:: .row 113 3 V2.v6 W2.ifaces.length V2.x6:: .row 113 3 V2.v10 W2.members.length V2.x10:: .row 113 3 V2.v14 W2.places.length V2.x14:: .row 100 4 V2.v12 W2.roots.length V2.x12:: .row 123 17 V2.v9 W2.inputs.length V2.x9:: .row 181 4 V2.v7 W2.dirs.length V2.x7::_):=H)|(refine oA 9 H ?_;clear H;intro w g9 H)|(refine oP H ?_;clear H;intro w _ H))
            go_roundw
            case rel=>exact ⟨K4,j+1,V2,W2,by omega,by go_num,HS2,hle4.trans hle3,hV2,H.fin⟩
            case measure=>simp [intOf];omega
           ·have en:((str x.name).toList==(str d.name).toList)=false:=by rw [Go.Proofs.YtbpgkkoeehopjaaGreat.gram.str_eq];exact Qa4 cn
            have HS2:=HS2.out;rw [if_neg (fun h=>cn h.2.2)] at HS2;replace HS2:=hide HS2;clear hWn hyl
            go_wp2_with (first|(refine oL H ?_)|(refine oA 9 H ?_;clear H;intro w g9 H)|(refine oP H ?_;clear H;intro w _ H))
            go_roundw
            case rel=>exact ⟨K3,j+1,V,W,by omega,by go_num,HS2,hle3,hV,H.fin⟩
            case measure=>simp [intOf];omega
          ·have ek:(x.kind==d.kind)=false:=Qa3.2 ck;have HS2:=HS2.out;rw [if_neg (fun h=>ck h.2.1)] at HS2;replace HS2:=hide HS2;clear hWn hyl
           go_wp2_with (first|(refine oL H ?_)|(refine oA 9 H ?_;clear H;intro w g9 H)|(refine oP H ?_;clear H;intro w _ H))
           go_roundw
           case rel=>exact ⟨K3,j+1,V,W,by omega,by go_num,HS2,hle3,hV,H.fin⟩
           case measure=>simp [intOf];omega
         ·have HS2:=HS2.out;rw [if_neg (fun h=>ce h.1)] at HS2
          replace ce:x.ext=false:=by simpa using ce
          replace HS2:=hide HS2;clear hWn hyl
          go_wp2_with (first|(refine oL H ?_)|(refine oA 9 H ?_;clear H;intro w g9 H)|(refine oP H ?_;clear H;intro w _ H))
          go_roundw
          case rel=>exact ⟨K3,j+1,V,W,by omega,by go_num,HS2,hle3,hV,H.fin⟩
          case measure=>simp [intOf];omega
        ·obtain rfl:j=n:=by omega
         have hW:=HW.out;rw [Qaj (by rw [HN.out];exact Qab _)] at hW;have ho:=y8f (show Hp w0 _ K3 (DV.rows W V++(.row 43 17 _ _ _::M)) from H.tail.tail)
         go_wp2_with (first|(refine oL H ?_)|(refine oP H ?_;clear H;intro w _ H)|(refine oQ H ?_;clear H;intro A' c' w _ _ H;dsimp only [List.set] at H))
         replace H:Hp _ _ _ (DV.rows W V++(.row 43 17 _ _ _::M)):=H.fin;obtain ⟨K4,hle4,H,hdl⟩:=DV.freeze H hV;have hle5:=hle4.trans hle3;go_roundw
         case rel=>exact ⟨K4,k+1,_,_,_,out++[W],by omega,by go_num,by rw [Qae];rfl,by rw [←hW];exact HS,hle5.trans (hle2.trans hle),y2r (hvs.sat hle5) hdl,by rw [Qae];exact H⟩
         case measure=>simp [intOf];omega
  ·obtain rfl:k=n:=by omega
   have hO:=HO.out;rw [Qaj (by rw [HN.out];exact Qab _)] at hO;obtain rfl:out=R:=hO.symm.trans HR.out;clear hO
   go_wp2_with fail
   go_ret;exact ⟨K',_,_,vs,rfl,hle.trans hle1,hvs,H⟩
end
theorem z6u: ∀(l out:List DefD),(l.foldl y1p out).length≤out.length+l.length
 |[],out=>by simp
 |x::r,out=>by
  have h1:=z6u r (y1p out x)
  have h2:(y1p out x).length≤out.length+1:=by
   unfold y1p
   split<;>simp
  simp only [List.foldl_cons,List.length_cons];omega
section
variable {w0 w K : World} {M : List Ent}
theorem x9x (defs:List DefD) {n c:Nat} {A:Option Addr} (hl:defs.length=n) (hN:y0f defs≤2900000) (hd:RD K (.list n (y0q defs)) (.slice A n c)) (H:Hp w0 w K M):
  Calls Tryz.prog 70 #[.slice A n c] w fun e w'=>∃K' A' c' vs,e= .returned (.slice A' (y5g defs).length c')∧Sat K' K∧RL K' (y0q (y5g defs)) vs∧Hp w0 w' K' (.row 43 17 (.slice A' (y5g defs).length c') (y5g defs).length vs::M):=by
 have hn:n≤9000000:=by have:=y0p y1x defs;unfold y0f at hN;omega
 have HN:=hide hl;have HD:=hide hN;obtain ⟨R,hR⟩: ∃R,y5g defs=R:=⟨_,rfl⟩;rw [hR];have HR:=hide hR;clear hl hR hN;go_enter Tryz.func70,Tryz.ntmps70
 go_upto_region 3 with (refine (q3s H).mono ?_;clear H;rintro e w ⟨K1,Ag,cg,rfl,hle1,H,hg⟩)
 replace hd:=hd.sat hle1
 go_wp2_with fail
 replace H:=H.nilRow 43 17
 go_loopw [3,5] (fun v i wr=>∃(K':World) (k:Nat) (A':Option Addr) (c':Nat) (vs:List Value) (out:List DefD),k≤n∧i= .int .i64 k∧v= .slice A' out.length c'∧Hid ((defs.take k).foldl y1p []=out)∧Sat K' K1∧RL K' (y0q out) vs∧Hp w0 wr K' (.row 43 17 (.slice A' out.length c') out.length vs::M)) (fun _ i _=>n - (intOf i).toNat)
 case atStart=>exact ⟨K1,0,none,0,[],[],Qak _,rfl,rfl,rfl,Sat.refl _,RL.z,H⟩
 case round=>
  clear H;obtain ⟨K',k,A',c',vs,out,hk,rfl,rfl,HO,hle,hvs,H⟩:=hrel;replace hd:=hd.sat hle;replace hg:=hg.sat hle
  have hml:out.length≤k:=by have:=z6u (defs.take k) [];rw [HO.out] at this;simp only [List.length_nil,Qau] at this;omega
  have hmn:out.length≤9000000:=by omega
  by_cases hlt:k<n
  ·obtain ⟨d,ad,us,hx,rfl,hxl,hat⟩:=el_k (m:=17) (f:=defL) y0x hd (by rw [HN.out];exact hlt) (by decide);obtain ⟨hkI,hwr⟩:=wr_k hlt hn;have hdn:=y7a hx;have htk:=y0k hx;obtain ⟨A6,c6,A7,c7,A8,c8,A9,c9,A10,c10,A11,c11,A12,c12,A14,c14,rfl,-,-,-,-,-,-,-,-⟩:=y0e hxl
   have hd9:defN d≤9000000:=by have:=HD.out;omega
   have hat8:=hat;clear hx hdn hml;obtain ⟨p1,hp1⟩: ∃b,y2h out d.name=b:=⟨_,rfl⟩;obtain ⟨p2,hp2⟩: ∃b,y2h givenDirsD d.name=b:=⟨_,rfl⟩;by_cases h8:d.kind=8
   ·have e8:(d.kind==8)=true:=Qa7.2 h8;by_cases h1:d.name∈y0a out
    ·obtain ⟨i,hi⟩:=y7z h1;obtain rfl:p1=(i:Int):=hp1.symm.trans hi
     have hi0: ¬((i:Int)<0):=by omega
     clear hi h8
     have HS:Hid ((defs.take (k+1)).foldl y1p []=out):=by
      show _=_
      rw [htk,List.foldl_append,HO.out];simp only [List.foldl_cons,List.foldl_nil,y1p];rw [if_neg (fun h=>h.2.1 h1)]
     clear hat8
     go_wp2_with (first|(refine oL H ?_)|(refine oA 6 H ?_;clear H;intro w g6 H)|(refine oP H ?_;clear H;intro w _ H)|((with_reducible refine (y1l d.name rfl hmn (rowR H (i:=1) rfl hvs) hp1).mono ?_);rintro e w9 ⟨rfl,hw9⟩;subst w9)|((with_reducible refine (y1l (l:=givenDirsD) (n:=4) d.name rfl (by decide) (hg.sat H.sat) hp2).mono ?_);rintro e w9 ⟨rfl,hw9⟩;subst w9))
     go_roundw
     case rel=>exact ⟨K',k+1,A',c',vs,out,by omega,by go_num,rfl,HS,hle,hvs,H.fin⟩
     case measure=>simp [intOf];omega
    ·obtain rfl:p1= -1:=hp1.symm.trans (y70 h1);by_cases h2:d.name∈y0a givenDirsD
     ·obtain ⟨i,hi⟩:=y7z h2;obtain rfl:p2=(i:Int):=hp2.symm.trans hi
      have hi0: ¬((i:Int)<0):=by omega
      clear hi h8
      have HS:Hid ((defs.take (k+1)).foldl y1p []=out):=by
       show _=_
       rw [htk,List.foldl_append,HO.out];simp only [List.foldl_cons,List.foldl_nil,y1p];rw [if_neg (fun h=>h.2.2 h2)]
      clear hat8
      go_wp2_with (first|(refine oL H ?_)|(refine oA 6 H ?_;clear H;intro w g6 H)|(refine oP H ?_;clear H;intro w _ H)|((with_reducible refine (y1l d.name rfl hmn (rowR H (i:=1) rfl hvs) hp1).mono ?_);rintro e w9 ⟨rfl,hw9⟩;subst w9)|((with_reducible refine (y1l (l:=givenDirsD) (n:=4) d.name rfl (by decide) (hg.sat H.sat) hp2).mono ?_);rintro e w9 ⟨rfl,hw9⟩;subst w9))
      go_roundw
      case rel=>exact ⟨K',k+1,A',c',vs,out,by omega,by go_num,rfl,HS,hle,hvs,H.fin⟩
      case measure=>simp [intOf];omega
     ·obtain rfl:p2= -1:=hp2.symm.trans (y70 h2)
      have HS:Hid ((defs.take (k+1)).foldl y1p []=out++[d]):=by
       show _=_
       rw [htk,List.foldl_append,HO.out];simp only [List.foldl_cons,List.foldl_nil,y1p];rw [if_pos ⟨h8,h1,h2⟩]
      clear h1 h2 htk h8 hat8
      go_upto_region 8 with (first|(refine oL H ?_)|(refine oA 6 H ?_;clear H;intro w g6 H)|(refine oP H ?_;clear H;intro w _ H)|((with_reducible refine (y1l d.name rfl hmn (rowR H (i:=1) rfl hvs) hp1).mono ?_);rintro e w9 ⟨rfl,hw9⟩;subst w9)|((with_reducible refine (y1l (l:=givenDirsD) (n:=4) d.name rfl (by decide) (hg.sat H.sat) hp2).mono ?_);rintro e w9 ⟨rfl,hw9⟩;subst w9))
      clear hp1 hp2 hg e8
      go_upto_region 9 with (first|(refine oL H ?_)|(go_at_call 86;refine (x5t d _ H hd9 hxl).mono ?_;clear H;rintro e w ⟨K2,cs,rfl,hle2,H,hdl⟩;have ho:=hide hdl.one;obtain ⟨B6,b6,B7,b7,B8,b8,B9,b9,B10,b10,B11,b11,B12,b12,B14,b14,hcs,-⟩:=y0e hdl;obtain rfl:cs= #[_,_,_,_,_,_,_,_,_,_,_,_,_,_,_,_,_]:=Qal.1 hcs;clear hcs)|(refine oA 7 H ?_;clear H;intro w g7 H)|(refine oP H ?_;clear H;intro w _ H))
      replace hvs:=hvs.sat hle2
      go_wp2_with (first|(refine oL H ?_)|(refine oP H ?_;clear H;intro w _ H)|(refine oQ H ?_;clear H;intro A' c' w _ _ H;dsimp only [List.set] at H))
      go_roundw
      case rel=>exact ⟨K2,k+1,_,_,_,out++[d],by omega,by go_num,by rw [Qae];rfl,HS,hle2.trans hle,y2r hvs hdl,by rw [Qae];exact H.fin⟩
      case measure=>simp [intOf];omega
   ·have e8:(d.kind==8)=false:=Qa3.2 h8
    have HS:Hid ((defs.take (k+1)).foldl y1p []=out):=by
     show _=_
     rw [htk,List.foldl_append,HO.out];simp only [List.foldl_cons,List.foldl_nil,y1p];rw [if_neg (fun h=>h8 h.1)]
    clear hat8
    go_wp2_with (first|(refine oL H ?_)|(refine oA 6 H ?_;clear H;intro w g6 H)|(refine oP H ?_;clear H;intro w _ H)|((with_reducible refine (y1l d.name rfl hmn (rowR H (i:=1) rfl hvs) hp1).mono ?_);rintro e w9 ⟨rfl,hw9⟩;subst w9)|((with_reducible refine (y1l (l:=givenDirsD) (n:=4) d.name rfl (by decide) (hg.sat H.sat) hp2).mono ?_);rintro e w9 ⟨rfl,hw9⟩;subst w9))
    go_roundw
    case rel=>exact ⟨K',k+1,A',c',vs,out,by omega,by go_num,rfl,HS,hle,hvs,H.fin⟩
    case measure=>simp [intOf];omega
  ·obtain rfl:k=n:=by omega
   have hO:=HO.out;rw [Qaj (by rw [HN.out];exact Qab _)] at hO;obtain rfl:out=R:=hO.symm.trans HR.out;clear hO
   go_wp2_with fail
   go_ret;exact ⟨K',_,_,vs,rfl,hle.trans hle1,hvs,H⟩
end
theorem q7f: ∀(l:List DefD) (a:DefD),defN (l.foldl y68 a)≤defN a+y0f l
 |[],a=>by simp [y0f,sumN]
 |x::r,a=>by
  have h1:=q7f r (y68 a x)
  have h2:defN (y68 a x)≤defN a+defN x:=by
   unfold y68;split
   ·exact z6l a x
   ·omega
  simp only [List.foldl_cons,y0f,sumN] at h1 ⊢;omega
def y5n (own:List DefD) (k:Nat):List RootD:=((rootN.zipIdx.take k).filter fun p=>y0c own p.1==3).map fun p=>⟨1+(p.2:Int),p.1,0,0⟩
theorem x9y {l:List DefD} {x:Txt} {i:Nat} {d:DefD} (h:y1f l x=some i) (hd:l[i]?=some d):y0c l x=d.kind:=by unfold y0c;rw [h];simp [hd]
theorem z6v {l:List DefD} {x:Txt} (h:y1f l x=none):y0c l x=0:=by unfold y0c;rw [h];rfl
theorem x9z {own:List DefD} {k:Nat} {x:Txt} (hx:rootN[k]?=some x) (h:y0c own x=3):y5n own (k+1)=y5n own k++[⟨1+(k:Int),x,0,0⟩]:=by
 have e:rootN.zipIdx[k]?=some (x,k):=by rw [List.getElem?_zipIdx,hx];simp
 unfold y5n;rw [y0k e,List.filter_append,Qas];simp [h]
theorem x23 {own:List DefD} {k:Nat} {x:Txt} (hx:rootN[k]?=some x) (h:y0c own x≠3):y5n own (k+1)=y5n own k:=by
 have e:rootN.zipIdx[k]?=some (x,k):=by rw [List.getElem?_zipIdx,hx];simp
 unfold y5n;rw [y0k e,List.filter_append,Qas];simp [h]
theorem q24 (own:List DefD) (k:Nat):(y5n own k).length≤k:=by
 unfold y5n;rw [Qay];exact Qah (Qb4 _ _) (by rw [Qau];exact Nat.min_le_left _ _)
instance sc30:Sc Tryz.prog 30:=⟨⟨_,Tryz.underlying30,rfl⟩⟩
section
variable {w0 w K : World} {M : List Ent}
theorem x5w (defs own:List DefD) {n c no co:Nat} {A Ao:Option Addr} {vo:List Value} (hl:defs.length=n) (hN:y0f defs≤2900000) (hd:RD K (.list n (y0q defs)) (.slice A n c)) (hlo:own.length=no) (hno:no≤9000000) (hO:RL K (y0q own) vo) (H:Hp w0 w K (.row 43 17 (.slice Ao no co) no vo::M)):
  Calls Tryz.prog 71 #[.slice A n c,.slice Ao no co] w fun e w'=>∃K' cs,e= .returned (.agg cs)∧Sat K' K∧RL K' (defL (y43 defs own)) cs.toList∧Hp w0 w' K' (.row 43 17 (.slice Ao no co) no vo::M):=by
 have hn:n≤9000000:=by have:=y0p y1x defs;unfold y0f at hN;omega
 have HN:=hide hl;have HD:=hide hN;have HLO:=hide hlo;obtain ⟨R,hR⟩: ∃R,y43 defs own=R:=⟨_,rfl⟩;rw [hR];have HR:=hide hR;clear hl hR hN hlo;go_enter Tryz.func71,Tryz.ntmps71
 go_upto_region 1 with (refine oA 4 H ?_;clear H;intro w g4 H)
 go_wp2_with fail
 go_loopw [5] (fun i wr=>∃k:Nat,k≤n∧i= .int .i64 k∧Hid ((defs.take k).find? y1c=none)∧Hp w0 wr K (.box g4 [.int .i64 0,.bool false,.bool false,.bool false,.string ⟨#[]⟩,.string ⟨#[]⟩,.slice none 0 0,.slice none 0 0,.slice none 0 0,.slice none 0 0,.slice none 0 0,.slice none 0 0,.slice none 0 0,.bool false,.slice none 0 0,.int .i64 0,.int .i64 0] 43:: .row 43 17 (.slice Ao no co) no vo::M)) (fun i _=>n - (intOf i).toNat)
 case atStart=>exact ⟨0,Qak _,rfl,rfl,H⟩
 case round=>
  clear H;obtain ⟨k,hk,rfl,HF,H⟩:=hrel;by_cases hlt:k<n
  ·obtain ⟨d,ad,us,hx,rfl,hxl,hat⟩:=el_k (m:=17) (f:=defL) y0x hd (by rw [HN.out];exact hlt) (by decide);obtain ⟨hkI,hwr⟩:=wr_k hlt hn;have hdn:=y7a hx;have htk:=y0k hx;obtain ⟨A6,c6,A7,c7,A8,c8,A9,c9,A10,c10,A11,c11,A12,c12,A14,c14,rfl,-,-,-,-,-,-,-,-⟩:=y0e hxl;have hat2:At K ⟨(ad.add (k*17)).block,(ad.add (k*17)).off+1,none⟩ [.bool d.ext]:=z86 (us:=[_]) (vs:=[_]) (ws:=_) (k:=0) hat rfl;have HXN:=hide (show defN d≤2900000 from Qah hdn HD.out);clear hdn;by_cases h1:d.kind=1
   ·have e1:(d.kind !=1)=false:=by simp [h1]
    by_cases hext:d.ext=true
    ·clear h1
     have HS:Hid ((defs.take (k+1)).find? y1c=none):=by
      show _=_
      rw [htk,Qby,HF.out]
      have:y1c d=false:=by unfold y1c;rw [hext];simp
      simp [this]
     clear htk
     go_wp2_with (first|(refine oL H ?_)|(refine oP H ?_;clear H;intro w _ H))
     go_roundw
     case rel=>exact ⟨k+1,by omega,by go_num,HS,H⟩
     case measure=>simp [intOf];omega
    ·replace hext:d.ext=false:=by simpa using hext
     have hsd:y1c d=true:=by unfold y1c;rw [hext,h1];rfl
     have HR2:Hid (defs.foldl y68 d=R):=by
      have hf:defs.find? y1c=some d:=by
       rw [←List.take_append_drop (k+1) defs,Qby,htk,Qby,HF.out];simp [hsd]
      have:=HR.out;unfold y43 at this;rw [hf] at this;exact this
     clear h1 hsd htk HF HR hx
     go_upto_region 5 with (refine oL H ?_)
     clear hext hat2
     have hd9:defN d≤9000000:=by have:=HXN.out;omega
     go_upto_region 6 with (first|(refine oL H ?_)|(go_at_call 86;refine (y69 d _ H hd9 hxl).mono ?_;clear H;rintro e w ⟨K2,V,he,hle2,H,hV⟩;obtain rfl:e= .returned (.agg #[.int .i64 d.kind,.bool d.ext,.bool d.note.has,.bool d.note.block,.string (str d.note.text),.string (str d.name),V.v6,V.v7,V.v8,V.v9,V.v10,V.v11,V.v12,.bool d.rep,V.v14,.int .i64 d.line,.int .i64 d.col]):=he;have ho:=hide (y8f H);replace H:Hp _ _ _ (.row 52 10 V.v8 d.fields.length V.x8:: .row 133 7 V.v11 d.values.length V.x11:: .row 113 3 V.v6 d.ifaces.length V.x6:: .row 113 3 V.v10 d.members.length V.x10:: .row 113 3 V.v14 d.places.length V.x14:: .row 100 4 V.v12 d.roots.length V.x12:: .row 123 17 V.v9 d.inputs.length V.x9:: .row 181 4 V.v7 d.dirs.length V.x7::_):=H)|(refine oA 6 H ?_;clear H;intro w g6 H)|(refine oP H ?_;clear H;intro w _ H))
     clear hat hxl hd9;replace hd:=hd.sat hle2;replace hO:=hO.sat hle2
     go_wp2_with fail
     go_loopw [7] (fun i wr=>∃(K3:World) (j:Nat) (V:DV) (W:DefD),j≤n∧i= .int .i64 j∧Hid ((defs.take j).foldl y68 d=W)∧Sat K3 K2∧V.ok K3 W∧Hp w0 wr K3 (.box g6 [.int .i64 W.kind,.bool W.ext,.bool W.note.has,.bool W.note.block,.string (str W.note.text),.string (str W.name),V.v6,V.v7,V.v8,V.v9,V.v10,V.v11,V.v12,.bool W.rep,V.v14,.int .i64 W.line,.int .i64 W.col] 43:: .box g4 [.int .i64 0,.bool false,.bool false,.bool false,.string ⟨#[]⟩,.string ⟨#[]⟩,.slice none 0 0,.slice none 0 0,.slice none 0 0,.slice none 0 0,.slice none 0 0,.slice none 0 0,.slice none 0 0,.bool false,.slice none 0 0,.int .i64 0,.int .i64 0] 43:: .row 52 10 V.v8 W.fields.length V.x8:: .row 133 7 V.v11 W.values.length V.x11:: .row 113 3 V.v6 W.ifaces.length V.x6:: .row 113 3 V.v10 W.members.length V.x10:: .row 113 3 V.v14 W.places.length V.x14:: .row 100 4 V.v12 W.roots.length V.x12:: .row 123 17 V.v9 W.inputs.length V.x9:: .row 181 4 V.v7 W.dirs.length V.x7:: .row 43 17 (.slice Ao no co) no vo::M)) (fun i _=>n - (intOf i).toNat)
     case atStart=>exact ⟨K2,0,V,d,Qak _,rfl,rfl,Sat.refl _,hV,H.fin⟩
     case round=>
      clear H hV ho;obtain ⟨K3,j,V,W,hj,rfl,HW,hle3,hV,H⟩:=hrel;replace hd:=hd.sat hle3;by_cases hlt2:j<n
      ·obtain ⟨x,ad2,us,hx2,e2,hyl,hat2⟩:=el_k (m:=17) (f:=defL) y0x hd (by rw [HN.out];exact hlt2) (by decide);injection e2 with e2;subst e2;obtain ⟨hjI,hwj⟩:=wr_k hlt2 hn;have hxn:=y7a hx2;have htk2:=y0k hx2;obtain ⟨B6,b6,B7,b7,B8,b8,B9,b9,B10,b10,B11,b11,B12,b12,B14,b14,rfl,-,-,-,-,-,-,-,-⟩:=y0e hyl;have hat3:At K3 ⟨(ad.add (j*17)).block,(ad.add (j*17)).off+1,none⟩ [.bool x.ext]:=z86 (us:=[_]) (vs:=[_]) (ws:=_) (k:=0) hat2 rfl
       have hWn:defN W+defN x≤9000000:=by
        have h1:=q7f (defs.take j) d;have h2:=y91 (f:=defN) defs j;have h3:=HXN.out;have h4:=HD.out;rw [HW.out] at h1;unfold y0f at*;omega
       have HS2:Hid ((defs.take (j+1)).foldl y68 d=if x.kind=1∧x.ext=true then y0y W x else W):=by
        show _=_
        rw [htk2,List.foldl_append,HW.out];rfl
       clear hx2 hxn htk2;by_cases ck:x.kind=1
       ·have ek:(x.kind==1)=true:=Qa7.2 ck;by_cases ce:x.ext=true
        ·have HS2:=HS2.out;rw [if_pos ⟨ck,ce⟩] at HS2;obtain ⟨W2,hW2⟩: ∃W2,y0y W x=W2:=⟨_,rfl⟩;have ht:=fun (w:World) (M:List Ent) (H:Hp w0 w K3 (DV.rows W V++M))=>z30 W x V #[_,_,_,_,_,_,_,_,_,_,_,_,_,_,_,_,_] H hV hWn hyl;simp only [hW2] at ht;rw [hW2] at HS2;replace HS2:=hide HS2;have HT:=hide ht;clear hW2 ck hWn hyl ht
         go_upto_region 10 with (refine oL H ?_)
         clear ce ek hat3;refine rN [.box g6 _ _] [6] H ?_;clear H;intro w H;refine rT 0 H ?_;refine rT 1 H ?_;refine rT 2 H ?_;refine rT 3 H ?_;refine rT 4 H ?_;refine rC 5 (HT.out _ (.box g6 _ _:: .box g4 _ _:: .row 43 17 (.slice Ao no co) no vo::M) H.fin) ?_;clear H;rintro e w ⟨K4,V2,he,hle4,H,hV2⟩;obtain rfl:e= .returned (.agg #[.int .i64 W2.kind,.bool W2.ext,.bool W2.note.has,.bool W2.note.block,.string (str W2.note.text),.string (str W2.name),V2.v6,V2.v7,V2.v8,V2.v9,V2.v10,V2.v11,V2.v12,.bool W2.rep,V2.v14,.int .i64 W2.line,.int .i64 W2.col]):=he;have ho:=y8f H;replace H:Hp _ _ _ (.row 52 10 V2.v8 W2.fields.length V2.x8:: .row 133 7 V2.v11 W2.values.length V2.x11:: .row 113 3 V2.v6 W2.ifaces.length V2.x6:: .row 113 3 V2.v10 W2.members.length V2.x10:: .row 113 3 V2.v14 W2.places.length V2.x14:: .row 100 4 V2.v12 W2.roots.length V2.x12:: .row 123 17 V2.v9 W2.inputs.length V2.x9:: .row 181 4 V2.v7 W2.dirs.length V2.x7::_):=H;refine rX H ?_;refine rL 6 H ?_;clear H;intro w _ H;refine rE ?_
         go_wp2_with (first|(refine oL H ?_)|(refine oP H ?_;clear H;intro w _ H))
         go_roundw
         case rel=>exact ⟨K4,j+1,V2,W2,by omega,by go_num,HS2,hle4.trans hle3,hV2,H.fin⟩
         case measure=>simp [intOf];omega
        ·have HS2:=HS2.out;rw [if_neg (fun h=>ce h.2)] at HS2
         replace ce:x.ext=false:=by simpa using ce
         clear ck;replace HS2:=hide HS2;clear hWn hyl
         go_wp2_with (first|(refine oL H ?_)|(refine oP H ?_;clear H;intro w _ H))
         go_roundw
         case rel=>exact ⟨K3,j+1,V,W,by omega,by go_num,HS2,hle3,hV,H⟩
         case measure=>simp [intOf];omega
       ·have ek:(x.kind==1)=false:=Qa3.2 ck;have HS2:=HS2.out;rw [if_neg (fun h=>ck h.1)] at HS2;replace HS2:=hide HS2;clear hWn hyl
        go_wp2_with (first|(refine oL H ?_)|(refine oP H ?_;clear H;intro w _ H))
        go_roundw
        case rel=>exact ⟨K3,j+1,V,W,by omega,by go_num,HS2,hle3,hV,H⟩
        case measure=>simp [intOf];omega
      ·obtain rfl:j=n:=by omega
       have hW:=HW.out;rw [Qaj (by rw [HN.out];exact Qab _)] at hW;obtain rfl:W=R:=hW.symm.trans HR2.out;have ho:=hide (y8f (show Hp w0 _ K3 (DV.rows W V++(.row 43 17 (.slice Ao no co) no vo::M)) from H.tail.tail))
       go_wp2_with (first|(refine oL H ?_)|(refine oP H ?_;clear H;intro w _ H))
       refine oB H ?_;replace H:Hp _ _ _ (DV.rows W V++(.row 43 17 (.slice Ao no co) no vo::M)):=H.fin;obtain ⟨K4,hle4,H,hdl⟩:=DV.freeze H hV;exact ⟨K4,_,rfl,(hle4.trans hle3).trans hle2,hdl,H⟩
   ·have e1:(d.kind !=1)=true:=by rw [Qa8];exact h1
    have HS:Hid ((defs.take (k+1)).find? y1c=none):=by
     show _=_
     rw [htk,Qby,HF.out]
     have:y1c d=false:=by unfold y1c;simp [h1]
     simp [this]
    clear htk
    go_wp2_with (first|(refine oL H ?_)|(refine oP H ?_;clear H;intro w _ H))
    go_roundw
    case rel=>exact ⟨k+1,by omega,by go_num,HS,H⟩
    case measure=>simp [intOf];omega
  ·obtain rfl:k=n:=by omega
   have hF:=HF.out;rw [Qaj (by rw [HN.out];exact Qab _)] at hF;have hR:=HR.out;unfold y43 at hR;rw [hF] at hR;have HR2:Hid ({y3p with roots:=y5n own 3}=R):=hR;clear hF hR HR
   go_upto_region 13 with (first|(refine oA 8 H ?_;clear H;intro w g8 H)|(refine oP H ?_;clear H;intro w _ H))
   go_upto_region 14 with (refine oA 64 H ?_ (hd:=dbS (cs:=rootN.map fun x=>.string (str x)) (hcs:=by kernel_rfl));clear H;intro w g9 H)
   obtain ⟨K5,hle5,H,hs9⟩:=H.freezeBox (n:=3) (ls:=y0t rootN) (y96 rootN) (by simp [maxLen])
   go_upto_region 15 with (refine oA 65 H ?_ (hd:=dbS (cs:=[.int .i64 1,.int .i64 2,.int .i64 3]) (hcs:=by kernel_rfl));clear H;intro w g10 H)
   obtain ⟨K6,hle6,H,hs10⟩:=H.freezeBox (n:=3) (ls:=[(1:Int),2,3].flatMap fun i=>[int' i]) (.lit (.lit (.lit RL.z))) (by simp [maxLen]);replace hs9:=hs9.sat hle6;replace hO:=hO.sat (hle6.trans hle5);clear hd;obtain ⟨A9,hA9⟩: ∃A:Option Addr,some ⟨g9,0,none⟩=A:=⟨_,rfl⟩;obtain ⟨A10,hA10⟩: ∃A:Option Addr,some ⟨g10,0,none⟩=A:=⟨_,rfl⟩;rw [hA9] at hs9 ⊢;rw [hA10] at hs10 ⊢;clear hA9 hA10
   go_wp2_with fail
   replace H:=H.nilRow 100 4
   go_loopw [11] (fun i wr=>∃(k:Nat) (A':Option Addr) (c':Nat) (vs:List Value) (rs:List RootD),k≤3∧i= .int .i64 k∧Hid (y5n own k=rs)∧RL K6 (y2a rs) vs∧Hp w0 wr K6 (.row 100 4 (.slice A' rs.length c') rs.length vs:: .box g8 [.int .i64 1,.bool false,.bool false,.bool false,.string ⟨#[]⟩,.string ⟨#[]⟩,.slice none 0 0,.slice none 0 0,.slice none 0 0,.slice none 0 0,.slice none 0 0,.slice none 0 0,.slice A' rs.length c',.bool false,.slice none 0 0,.int .i64 0,.int .i64 0] 43:: .box g4 [.int .i64 0,.bool false,.bool false,.bool false,.string ⟨#[]⟩,.string ⟨#[]⟩,.slice none 0 0,.slice none 0 0,.slice none 0 0,.slice none 0 0,.slice none 0 0,.slice none 0 0,.slice none 0 0,.bool false,.slice none 0 0,.int .i64 0,.int .i64 0] 43:: .row 43 17 (.slice Ao no co) no vo::M)) (fun i _=>3 - (intOf i).toNat)
   case atStart=>exact ⟨0,none,0,[],[],Qak _,rfl,rfl,RL.z,H⟩
   case round=>
    clear H;obtain ⟨j,A',c',vs,rs,hj,rfl,HRS,hvs,H⟩:=hrel
    have hrl:rs.length≤3:=by have:=q24 own j;rw [HRS.out] at this;omega
    by_cases hlt:j<3
    ·obtain ⟨ad9,x,e9,hx,hat9⟩:=y44 hs9 (k:=j) (by rw [show rootN.length=3 from rfl];exact hlt);subst e9;obtain ⟨v,ad10,us,hv,e10,hvl,hat10⟩:=el_k (m:=1) (f:=fun i:Int=>[int' i]) (fun _=>rfl) hs10 hlt (by decide);subst e10
     have hv2:v=1+(j:Int):=by
      rcases (show j=0∨j=1∨j=2 by omega) with rfl|rfl|rfl<;>simp at hv<;>omega
     subst hv2;obtain ⟨r0,rfl,h0⟩:=hvl.lit_inv;obtain rfl:=h0.nil_inv;rw [Nat.mul_one] at hat10
     have hjI:(j:Int)<3:=by omega
     have hjJ:(j:Int)<((3:Nat):Int):=by omega
     have hwj:IntKind.i64.wrap ((j:Int)+1)=j+1:=IntWalk.i64_in _ (by omega);have hro:=rowR H (i:=3) rfl hO;clear h0 hv hvl
     cases hq:y1f own x with
     |none=>
      have hp:y2h own x= -1:=by unfold y2h;rw [hq]
      have HS:=hide ((x23 hx (by rw [z6v hq];decide)).trans HRS.out);clear hq hx
      go_wp2_with (first|(refine oL H ?_)|((with_reducible refine (y1l x HLO.out hno hro hp).mono ?_);rintro e w9 ⟨rfl,hw9⟩;subst w9))
      go_roundw
      case rel=>exact ⟨j+1,_,_,_,rs,by omega,by go_num,HS,hvs,H⟩
      case measure=>simp [intOf];omega
     |some i=>
      have hp:y2h own x=(i:Int):=by unfold y2h;rw [hq]
      obtain ⟨e,he,hne⟩:=y1d hq;have hio:i<own.length:=(Qac.1 he).1
      have hin:i<no:=by rw [←HLO.out];exact hio
      obtain ⟨e2,ado,us,he2,eA,hel,hato⟩:=el_k (m:=17) (f:=defL) y0x hro hio (by decide)
      obtain rfl:e2=e:=by rw [he] at he2;injection he2 with he2;exact he2.symm
      obtain ⟨A6,c6,A7,c7,A8,c8,A9,c9,A10,c10,A11,c11,A12,c12,A14,c14,rfl,-,-,-,-,-,-,-,-⟩:=y0e hel;subst eA
      have hi0:(0:Int)≤(i:Int):=by omega
      have hiI:(i:Int)<(no:Int):=by omega
      have hkk:=x9y hq he;by_cases h3:e2.kind=3
      ·have e3:(e2.kind==3)=true:=Qa7.2 h3;have HS:=hide ((x9z hx (hkk.trans h3)).trans (congrArg (· ++_) HRS.out));clear hq hx hkk h3 he he2 hel
       go_upto_region 20 with (first|(refine oL H ?_)|(refine oL (Hp.start _) ?_)|((with_reducible refine (y1l x HLO.out hno hro hp).mono ?_);rintro e w9 ⟨rfl,hw9⟩;subst w9))
       refine rN [.box g8 _ _] [14] H ?_;clear H;intro w H;refine rT 0 H ?_;refine rT 1 H ?_;refine rT 2 H ?_;refine rT 3 H ?_;refine rT 4 H ?_;refine rT 5 H ?_;refine rT 6 H ?_;refine rT 7 H ?_;refine rT 8 H ?_;refine rT 9 H ?_;refine rT 10 H ?_;refine rW 11 H ?_;clear H;intro w g11 H;refine rA 12 H ?_;clear H;intro A2 c2 w _ _ H;dsimp only [List.set] at H;refine rT 13 H ?_;refine rL 14 H ?_;clear H;intro w _ H;refine rE ?_
       go_wp2_with (first|(refine oL H ?_)|(refine oP H ?_;clear H;intro w _ H))
       go_roundw
       case rel=>exact ⟨j+1,A2,c2,_,rs++[⟨1+(j:Int),x,0,0⟩],by omega,by go_num,HS,by rw [y21];exact hvs.app (y72 (f:=z58) (y9l (Qab _))),by rw [Qae];exact H.fin⟩
       case measure=>simp [intOf];omega
      ·have e3:(e2.kind==3)=false:=Qa3.2 h3;have HS:=hide ((x23 hx (by rw [hkk];exact h3)).trans HRS.out);clear hq hx hkk h3 he he2 hel
       go_wp2_with (first|(refine oL H ?_)|(refine oL (Hp.start _) ?_)|((with_reducible refine (y1l x HLO.out hno hro hp).mono ?_);rintro e w9 ⟨rfl,hw9⟩;subst w9))
       go_roundw
       case rel=>exact ⟨j+1,_,_,_,rs,by omega,by go_num,HS,hvs,H⟩
       case measure=>simp [intOf];omega
    ·obtain rfl:j=3:=by omega
     have hR3:=HR2.out;rw [HRS.out] at hR3
     go_wp2_with (first|(refine oL H ?_)|(refine oP H ?_;clear H;intro w _ H))
     refine oB H ?_;replace H:Hp _ _ _ (.row 100 4 _ _ _:: .row 43 17 (.slice Ao no co) no vo::M):=H.fin;obtain ⟨K7,hle7,H,hr⟩:=H.freezeRow hvs;exact ⟨K7,_,rfl,hle7.trans (hle6.trans hle5),by rw [←hR3];exact y06 RD.z RD.z RD.z RD.z RD.z RD.z hr RD.z,H⟩
end
def RfK (K:World) (g:Nat) (s:DefD) (ts ds:List DefD):Prop:=
 ∃(o:Value) (AT AD:Option Addr) (cT cD:Nat) (sch:List Value),Kb K g (o:: .slice AT ts.length cT:: .slice AD ds.length cD::sch) 107∧
  RL K (defL s) sch∧RD K (.list ts.length (y0q ts)) (.slice AT ts.length cT)∧RD K (.list ds.length (y0q ds)) (.slice AD ds.length cD)
theorem RfK.sat {K K':World} {g:Nat} {s:DefD} {ts ds:List DefD} (h:RfK K g s ts ds) (hs:Sat K' K):RfK K' g s ts ds:=by
 obtain ⟨o,AT,AD,cT,cD,sch,h1,h2,h3,h4⟩:=h;exact ⟨o,AT,AD,cT,cD,sch,h1.sat hs,h2.sat hs,h3.sat hs,h4.sat hs⟩
theorem z9b (l:List DefD):(y0q l).length=l.length*17:=y7b defL (fun _=>rfl) l
section
variable {w0 w K : World} {M : List Ent}
theorem x5x (defs:List DefD) {n c:Nat} {A:Option Addr} (hl:defs.length=n) (hN:y0f defs≤2900000) (hd:RD K (.list n (y0q defs)) (.slice A n c)) (H:Hp w0 w K M):
  Calls Tryz.prog 28 #[.slice A n c] w fun e w'=>∃K' g,e= .returned (.pointer (some ⟨g,0,none⟩))∧Sat K' K∧Hp w0 w' K' M∧RfK K' g (y43 defs (y3f defs)) (y3f defs++givenT) (y5g defs++givenDirsD):=by
 have hn:n≤2900000:=by have:=y0p y1x defs;unfold y0f at hN;omega
 have h1:=x07 defs defs [];have h2:=z6u defs [];have hrt:=fun {w K M} (H:Hp w0 w K M) (hd:RD K (.list n (y0q defs)) (.slice A n c))=>x9w defs hl hN hd H;have hrm:=fun {w K M} (H:Hp w0 w K M) (hd:RD K (.list n (y0q defs)) (.slice A n c))=>x9x defs hl hN hd H;have hrs:=fun {w K M} (own:List DefD) {no co:Nat} {Ao:Option Addr} {vo:List Value} (hlo:own.length=no) (hno:no≤9000000) (hO:RL K (y0q own) vo) (H:Hp w0 w K (.row 43 17 (.slice Ao no co) no vo::M)) (hd:RD K (.list n (y0q defs)) (.slice A n c))=>x5w defs own hl hN hd hlo hno hO H;obtain ⟨T,hT⟩: ∃T,y3f defs=T:=⟨_,rfl⟩;obtain ⟨D,hD⟩: ∃T,y5g defs=T:=⟨_,rfl⟩;simp only [hT] at hrt ⊢;simp only [hD] at hrm ⊢;rw [show defs.foldl (y19 defs) []=T from hT,List.length_nil,hl] at h1;rw [show defs.foldl y1p []=D from hD,List.length_nil,hl] at h2
 have hT9:T.length≤2900000:=by omega
 have hD9:D.length≤2900000:=by omega
 clear hT hD hl hN h1 h2 hn;have hK:=Sat.refl K;go_enter Tryz.func28,Tryz.ntmps28
 go_upto_region 2 with (first|(go_at_call 69;refine (hrt H hd).mono ?_;clear H hrt;rintro e w ⟨K1,A1,c1,v1,rfl,hle1,hv1,H⟩;replace hd:=hd.sat hle1;replace hK:=hle1.trans hK;clear hle1)|(go_at_call 70;refine (hrm H hd).mono ?_;clear H hrm;rintro e w ⟨K2,A2,c2,v2,rfl,hle2,hv2,H⟩;replace hd:=hd.sat hle2;replace hv1:=hv1.sat hle2;replace hK:=hle2.trans hK;clear hle2)|(refine oA 9 H ?_;clear H;intro w g9 H))
 go_upto_region 3 with (first|(refine oL H ?_)|(refine oP H ?_;clear H;intro w _ H))
 go_upto_region 4 with (first|(refine oL H ?_)|(go_at_call 71;refine (hrs (M:=.box g9 _ _:: .row 43 17 (.slice A2 _ _) _ _::M) T rfl (by omega) hv1 H.fin hd).mono ?_;clear H hrs;rintro e w ⟨K3,cs,rfl,hle3,hsc,H⟩;replace hK:=hle3.trans hK;replace hv1:=hv1.sat hle3;replace hv2:=hv2.sat hle3;clear hle3;obtain ⟨B6,b6,B7,b7,B8,b8,B9,b9,B10,b10,B11,b11,B12,b12,B14,b14,hcs,-⟩:=y0e hsc;obtain rfl:cs= #[_,_,_,_,_,_,_,_,_,_,_,_,_,_,_,_,_]:=Qal.1 hcs;clear hcs)|(refine oP H ?_;clear H;intro w _ H))
 clear hd;replace H:Hp _ _ _ (.box g9 _ _:: .row 43 17 (.slice A1 _ _) _ _:: .row 43 17 (.slice A2 _ _) _ _::M):=H.fin;refine rN [.box g9 _ _] [9] H ?_;clear H;intro w H;refine rT 0 H ?_;refine rT 1 H ?_;refine rT 2 H ?_;refine rT 3 H ?_;refine rT 4 H ?_;refine rC 5 (q3r H) ?_;clear H;rintro e w ⟨K4,A4,c4,rfl,hle4,H,hg⟩;refine rX H ?_;refine rR 6 H ?_ (hlen:=z9b givenT) (hb:=by rw [show givenT.length=13 from rfl];omega);clear H;intro z1 A1 c1 w hz1 _ _ H;dsimp only [List.set] at H;refine rT 7 H ?_;refine rT 8 H ?_;refine rL 9 H ?_;clear H;intro w _ H;refine rE ?_;replace hK:=hle4.trans hK;replace hv1:=(hv1.sat hle4).app hz1;replace hv2:=hv2.sat hle4;replace hsc:=hsc.sat hle4;clear hle4 hz1 hg
 go_wp2_with fail
 refine rN [.box g9 _ _] [9] H ?_;clear H;intro w H;refine rT 0 H ?_;refine rT 1 H ?_;refine rT 2 H ?_;refine rT 3 H ?_;refine rT 4 H ?_;refine rC 5 (q3s H) ?_;clear H;rintro e w ⟨K5,A5,c5,rfl,hle5,H,hg⟩;refine rX H ?_;refine rR 6 H ?_ (hlen:=z9b givenDirsD) (hb:=by rw [show givenDirsD.length=4 from rfl];omega);clear H;intro z2 A2 c2 w hz2 _ _ H;dsimp only [List.set] at H;refine rT 7 H ?_;refine rT 8 H ?_;refine rL 9 H ?_;clear H;intro w _ H;refine rE ?_;replace hK:=hle5.trans hK;replace hv1:=hv1.sat hle5;replace hv2:=(hv2.sat hle5).app hz2;replace hsc:=hsc.sat hle5;clear hle5 hz2 hg
 go_wp2_with fail
 go_ret;rw [←z2l] at hv1 hv2;replace H:Hp _ _ _ (.box g9 _ _:: .row 43 17 (.slice A1 _ _) _ _:: .row 43 17 (.slice A2 _ _) _ _::M):=H.fin;obtain ⟨K6,e6,H,hb⟩:=H.freezeKb;obtain ⟨K7,e7,H,h1⟩:=H.freezeRow (hv1.sat e6);obtain ⟨K8,e8,H,h2⟩:=H.freezeRow (hv2.sat (e7.trans e6));have e86:=e8.trans e7;rw [show T.length+givenT.length=(T++givenT).length from (Qae ..).symm] at h1 hb;rw [show D.length+givenDirsD.length=(D++givenDirsD).length from (Qae ..).symm] at h2 hb;exact ⟨K8,g9,rfl,(e86.trans e6).trans hK,H,_,_,_,_,_,_,hb.sat e86,hsc.sat (e86.trans e6),h1.sat e8,h2⟩
theorem x90 (defs:List DefD) {n c:Nat} {A:Option Addr} (hl:defs.length=n) (hN:y0f defs≤2900000) (hS:q2z defs) (hd:RD K (.list n (y0q defs)) (.slice A n c)) (H:Hp w0 w K M):
  Calls Tryz.prog 28 #[.slice A n c] w fun e w'=>∃K' g,e= .returned (.pointer (some ⟨g,0,none⟩))∧Sat K' K∧Hp w0 w' K' M∧RfK K' g (y12 defs).schema (y12 defs).types (y12 defs).dirs:=by
 have h:=x5x defs hl hN hd H;rw [←x04 hS,←z85,←q20] at h;exact h
end
theorem z9c {ts:List DefD} (h:y0f ts≤9000000):ts.length≤9000000:=Qah (y0p y1x ts) h
theorem z9d {ts:List DefD} {x:Txt} {i:Nat} {d:DefD} (h:y1f ts x=some i) (hd:ts[i]?=some d):z1l ts x=some d:=by unfold z1l;rw [h];simpa using hd
section
variable {w0 w K : World} {M : List Ent} {g : Nat} {s : DefD} {ts ds : List DefD}
theorem y45 (x:Txt) (hT:RfK K g s ts ds) (hN:y0f ts≤9000000) (H:Hp w0 w K M) {k:Int} (hk:y0c ts x=k):
  Calls Tryz.prog 75 #[.pointer (some ⟨g,0,none⟩),.string (str x)] w fun e w'=>e= .returned (.int .i64 k)∧w'=w:=by
 obtain ⟨o,AT,AD,cT,cD,sch,hb,-,hd,-⟩:=hT;have hb:K.heap[g]?=some (.cells _ _ _):=hb;have hl:=z9c hN;have hdw:=hd.sat H.sat;obtain ⟨n,hn⟩: ∃n,ts.length=n:=⟨_,rfl⟩;rw [hn] at hb hd hdw hl;have HN:=hide hn;clear hn hN
 cases hq:y1f ts x with
 |none=>
  have hp:y2h ts x= -1:=by unfold y2h;rw [hq]
  obtain rfl:k=0:=hk.symm.trans (z6v hq);clear hk hq;go_enter Tryz.func75,Tryz.ntmps75
  go_wp2_with (first|(refine oL H ?_)|(go_at_call 77;refine (y1l x HN.out hl hdw hp).mono ?_;rintro e w9 ⟨rfl,hw9⟩;subst w9))
  go_ret;exact ⟨rfl,rfl⟩
 |some i=>
  have hp:y2h ts x=(i:Int):=by unfold y2h;rw [hq]
  obtain ⟨e,he,hne⟩:=y1d hq;obtain rfl:k=e.kind:=hk.symm.trans (x9y hq he);have hio:i<ts.length:=(Qac.1 he).1;obtain ⟨e2,ad,us,he2,rfl,hel,hat⟩:=el_k (m:=17) (f:=defL) y0x hd hio (by decide)
  obtain rfl:e2=e:=by rw [he] at he2;injection he2 with he2;exact he2.symm
  obtain ⟨A6,c6,A7,c7,A8,c8,A9,c9,A10,c10,A11,c11,A12,c12,A14,c14,rfl,-,-,-,-,-,-,-,-⟩:=y0e hel
  have hi0: ¬((i:Int)<0):=by omega
  have hiI:(i:Int)<(n:Int):=by have:=HN.out;omega
  clear hk hq he he2 hio hel;go_enter Tryz.func75,Tryz.ntmps75
  go_wp2_with (first|(refine oL H ?_)|(go_at_call 77;refine (y1l x HN.out hl hdw hp).mono ?_;rintro e w9 ⟨rfl,hw9⟩;subst w9))
  go_ret;exact ⟨rfl,rfl⟩
theorem x91 (hT:RfK K g s ts ds) (hN:y0f ts≤9000000) (H:Hp w0 w K M):
  Calls Tryz.prog 29 #[.pointer (some ⟨g,0,none⟩)] w fun e w'=>∃A' c',e= .returned (.slice A' ts.length c')∧Hp w0 w' K (.row 9 1 (.slice A' ts.length c') ts.length ((ts.map (·.name)).map sv)::M):=by
 obtain ⟨o,AT,AD,cT,cD,sch,hb,-,hd,-⟩:=hT;have hb:K.heap[g]?=some (.cells _ _ _):=hb;have hl:=z9c hN;go_enter Tryz.func29,Tryz.ntmps29
 go_wp2_with (first|(refine oL H ?_)|(go_at_call 74;refine (x5v ts H rfl hd hl).mono ?_;clear H;rintro e w ⟨A',c',rfl,H⟩))
 go_ret;exact ⟨A',c',rfl,H⟩
end
end Go.Proofs.YtbpgkkoeehopjaaGreat.hp
namespace Go.Proofs.YtbpgkkoeehopjaaGreat.hp
open Go.RowKit words enc tree gram lex rd dec dat held
set_option maxRecDepth 100000
set_option maxHeartbeats 40000000
attribute [local go_sem ↓] Go.wp_at_zero Go.wp_at_succ
instance:Sc Tryz.prog 117:=⟨⟨_,Tryz.underlying117,rfl⟩⟩
instance:Sc Tryz.prog 30:=⟨⟨_,Tryz.underlying30,rfl⟩⟩
end Go.Proofs.YtbpgkkoeehopjaaGreat.hp
namespace Go.Proofs.YtbpgkkoeehopjaaGreat.hp
open Go.RowKit words enc tree gram lex rd dec dat held ty
set_option maxRecDepth 100000
attribute [local go_sem ↓] Go.wp_at_zero Go.wp_at_succ
def q7g:FieldD:=⟨y5j,[],[],([],[]),[],0,0⟩
theorem z6w {w:World} {B O:Nat} {vs:List Value} (h:At w ⟨B,O,none⟩ vs):w.rangeAt B O vs:=fun k u hu=>by
 cases k with
 |zero=>exact h.1 u hu
 |succ k=>exact h.2 k u hu
theorem q7h (src:Txt) (defs:List DefD) (hp:z6d src defs) (w0 w K:World) (M:List Ent) (H:Hp w0 w K M):
  Calls Tryz.prog 13 #[.string (str src)] w fun e w'=>∃K' A c,e= .returned (.slice A defs.length c)∧Sat K' K∧Hp w0 w' K' M∧RD K' (.list defs.length (y0q defs)) (.slice A defs.length c):=x7l H hp rfl
theorem q5o {l:List Txt} {x:Txt} (h:l.Perm [x]):l=[x]:=List.perm_singleton.1 h
def z6x:Txt:=List.append [101,120,116,101,110,100,32,116,121,112,101,32,81,117,101,114,121,123,98,58,91,73,110,116,33,93,33,125,32,116,121,112,101,32,81,117,101,114,121] [123,97,58,73,110,116,125,32,116,121,112,101,32,81,117,101,114,121,123,99,58,73,110,116,125,32,117,110,105,111,110,32,85,61,81,117,101,114,121]
def z9e:List TokD:=(y4r z6x).getD []
def y5z:List DefD:=(y30 z9e 100 50 100 0).getD []
theorem z9f:z6d z6x y5z:=
 ⟨Qa6 (by kernel_rfl),z9e,40,40,3000,100,50,by kernel_rfl,Qa6 (by kernel_rfl),by omega,by kernel_rfl,by omega,by kernel_rfl⟩
theorem x92:y0f y5z≤1000:=Qa6 (by kernel_rfl)
def y39:Txt:=[81,117,101,114,121]
def uT:Txt:=[85]
def D0:TysD:=y12 y5z
theorem D0_W:TyW D0:=x2s y5z (by have:=x92;omega)
theorem q5p:x2u D0.schema.roots 1=y39:=by kernel_rfl
def Q0:DefD:=(z1l D0.types y39).getD q5e
def F0:FieldD:=Q0.fields.getD 0 q7g
def F1:FieldD:=Q0.fields.getD 1 q7g
theorem x93:z1l D0.types y39=some Q0:=by kernel_rfl
theorem z9g:Q0.fields=[F0,F1]:=by kernel_rfl
theorem q7i:Q0.fields.length=2:=by rw [z9g];rfl
theorem q7j:(y1o D0.objects uT).map (·.1)=[y39]:=by kernel_rfl
theorem q7z:y67 D0 y39 uT=true:=by kernel_rfl
theorem q7k:y67 D0 uT y39=false:=by kernel_rfl
set_option maxHeartbeats 16000000 in
theorem x94 (w0 w K:World) (M:List Ent) (H:Hp w0 w K M):
  Calls Tryz.prog 24 #[] w fun e w'=>∃K',e= .returned (.bool true)∧Sat K' K∧Hp w0 w' K' M:=by
 have hK:=Sat.refl K
 have hq:((str y39).toList==[81,117,101,114,121])=true:=by kernel_rfl
 have hn0:((str F0.name).toList==[97])=true:=by kernel_rfl
 have hn1:((str F1.ty.2).toList==[33,93,33])=true:=by kernel_rfl
 go_enter Tryz.func24,Tryz.ntmps24
 go_upto_region 4 with (first
  |(go_at_call 13;refine (q7h z6x y5z z9f _ _ _ _ H).mono ?_;clear H;rintro e w1 ⟨K1,Ad,cd,rfl,hle1,H,hd⟩;replace hK:=hle1.trans hK)
  |(go_at_call 14;refine (z6o y5z _ cd Ad _ _ _ _ H rfl hd (by have:=x92;omega)).mono ?_;clear H;rintro e w2 ⟨K2,g,rfl,hle2,H,hT⟩;replace hd:=hd.sat hle2;replace hK:=hle2.trans hK)
  |(go_at_call 17;refine (q7a (.pointer (some ⟨g,0,none⟩)) 1 D0 _ _ _ _ H hT.tp D0_W).mono ?_;clear H;rintro e w3 ⟨K3,rfl,hle3,H⟩;replace hd:=hd.sat hle3;replace hT:=hT.sat hle3;replace hK:=hle3.trans hK;rw [q5p]))
 go_upto_region 5 with (first
  |(go_at_call 19;refine (q69 (.pointer (some ⟨g,0,none⟩)) y39 D0 _ _ _ _ H hT.tp D0_W).mono ?_;clear H;rintro e w4 ⟨K4,v4,rfl,hle4,H,cs4,rfl,hd4⟩;replace hd:=hd.sat hle4;replace hT:=hT.sat hle4;replace hK:=hle4.trans hK;simp only [x93,Option.getD_some] at hd4;rw [x93];obtain ⟨B6,e6,B7,e7,B8,e8,B9,e9,B10,e10,B11,e11,B12,e12,B14,e14,hcs4,-,-,df,-,-,-,-,-⟩:=y0e hd4;rw [q7i] at hcs4 df;rw [z9g] at df;obtain ⟨ad0,xs0,hB8,hx0,-,hat0⟩:=y33 (m:=10) (f:=y20) (k:=0) (fun _=>rfl) df rfl (by omega);subst hB8;obtain ⟨bf,of,hbo⟩:=y6e (m:=10) (f:=y20) (fun _=>rfl) df (by simp) (by omega);subst hbo;obtain ⟨ad1,xs1,hB9,hx1,-,hat1⟩:=y33 (m:=10) (f:=y20) (k:=1) (fun _=>rfl) df rfl (by omega);injection hB9 with hB9;subst hB9;obtain rfl:cs4= #[.int .i64 Q0.kind,.bool Q0.ext,.bool Q0.note.has,.bool Q0.note.block,.string (str Q0.note.text),.string (str Q0.name),.slice B6 Q0.ifaces.length e6,.slice B7 Q0.dirs.length e7,.slice (some ⟨bf,of,none⟩) 2 e8,.slice B9 Q0.inputs.length e9,.slice B10 Q0.members.length e10,.slice B11 Q0.values.length e11,.slice B12 Q0.roots.length e12,.bool Q0.rep,.slice B14 Q0.places.length e14,.int .i64 Q0.line,.int .i64 Q0.col]:=Qal.1 hcs4)
  |((with_reducible refine isL ?_);first
   |(refine al z43 2 H ?_;clear H;intro w5 g2 H)
   |(refine sA 2 0 H ?_;clear H;intro w7 H)))
 obtain ⟨Af0,cf0,Ag0,cg0,hx0e,-,-⟩:=y65 hx0;obtain ⟨Af1,cf1,Ag1,cg1,hx1e,-,-⟩:=y65 hx1;subst hx0e hx1e;rw [y93] at hat0 hat1;have f0:=H.sat.cell ((z6w hat0) 3 _ rfl);have f1:=H.sat.cell ((z6w hat1) 6 _ rfl);simp only [Nat.zero_mul,Nat.add_zero,Nat.one_mul] at f0 f1;clear hd4 hcs4 df hx0 hx1 hat0 hat1;have:=H.c 0 8
 go_upto_region 8 with (first
  |(go_at_call 27;refine (z5d (.pointer (some ⟨g,0,none⟩)) uT D0 _ _ _ _ H hT.tp D0_W).mono ?_;clear H;rintro e w7 ⟨K7,l7,v7,rfl,hle7,H,hl7,hp7,-⟩;replace hd:=hd.sat hle7;replace hT:=hT.sat hle7;replace hK:=hle7.trans hK;rw [q7j] at hp7;obtain rfl:=q5o hp7;replace hl7:RD K7 (.list 1 (y0t [y39])) v7:=hl7;obtain ⟨A7,c7,hv7,-,-⟩:=y5e hl7;subst hv7;obtain ⟨ad7,xs7,hA7,hx7,-,hat7⟩:=y33 (m:=1) (f:=fun x=>[str' x]) (l:=[y39]) (k:=0) (fun _=>rfl) hl7 rfl (by omega);subst hA7;obtain ⟨b7,o7,hbo7⟩:=y6e (m:=1) (f:=fun x=>[str' x]) (l:=[y39]) (fun _=>rfl) hl7 (by simp) (by omega);subst hbo7;have:=H.c 0 8))
 have x7:xs7=[.string (str y39)]:=by
  obtain ⟨r0,e0,h0⟩:=DatL.lit_inv hx7;rw [e0,h0.nil_inv]
 subst x7;rw [y93] at hat7;have f7:=H.sat.cell ((z6w hat7) 0 _ rfl);simp only [Nat.zero_mul,Nat.add_zero] at f7;clear hl7 hx7 hat7 hp7 f0 f1;have mk1:=True.intro
 go_wp2_with (first
  |(go_at_call 37;clear mk1;refine (z6p (.pointer (some ⟨g,0,none⟩)) y39 uT D0 _ _ _ _ H hT.tp D0_W).mono ?_;clear H;rintro e w8 ⟨K8,rfl,hle8,H⟩;replace hT:=hT.sat hle8;replace hK:=hle8.trans hK;rw [q7z])
  |(go_at_call 37;refine (z6p (.pointer (some ⟨g,0,none⟩)) uT y39 D0 _ _ _ _ H hT.tp D0_W).mono ?_;clear H;rintro e w9 ⟨K9,rfl,hle9,H⟩;replace hT:=hT.sat hle9;replace hK:=hle9.trans hK;rw [q7k]))
 go_ret;exact ⟨_,rfl,hK,H.tail⟩
set_option maxHeartbeats 40000000
section
variable {w0 w K : World} {M : List Ent}
theorem x5y (v:Value) (x:Txt) (defs:List DefD) (H:Hp w0 w K M) (hv:Tp K v (y12 defs)) (hW:TyW (y12 defs)) {l:List Txt} (hl:posL (y0h defs) x=l) {n:Nat} (hn:l.length=n):
  Calls Tryz.prog 27 #[v,.string (str x)] w fun e w'=>∃K' A c,e= .returned (.slice A n c)∧Sat K' K∧Hp w0 w' K' M∧RD K' (.list n (l.flatMap fun x=>[str' x])) (.slice A n c):=by
 refine (z5d v x (y12 defs) w0 w K M H hv hW).mono ?_;rintro e w' ⟨K',l',v',rfl,hle,H,hd,hp,hs⟩;have:=q64 (y41 defs) hp hs;rw [hl] at this;subst this;rw [hn,y1s] at hd;obtain ⟨A,c,rfl,-,-⟩:=y5e hd;exact ⟨K',A,c,rfl,hle,H,hd⟩
theorem x24 (ts:List DefD) (t:Txt) (h:y0f ts≤8000000):(posL ts t).length≤9000000:=by
 have hl:=y0p y1x ts;unfold posL;split
 ·simp
 ·split
  ·rw [Qay];have:=Qb4 (y6k t) ts;unfold y0f at h;omega
  ·split
   ·cases hd:x0t ts t with
    |none=>simp [memO]
    |some d=>
     obtain ⟨_,i,hi,_⟩:=q2y hd;have h1:=y3r hi;have h2:=z0q d
     have h3: ∀(ms:List NamedD) (l:List Txt),(ms.foldl (fun l m=>if y0c ts m.name=3 then addN l m.name else l) l).length≤l.length+ms.length:=by
      intro ms
      induction ms with
      |nil=>intro l;simp
      |cons m r ih=>
       intro l;rw [List.foldl_cons];refine Qah (ih _) ?_;unfold addN
       split<;>(try split)<;>simp<;>omega
     have:=h3 d.members [];simp only [List.length_nil] at this;simp only [Option.map_some,Option.getD_some,memO];omega
   ·simp
end
def q25 (k:Int):Bool:=k==3||k==4||k==5
section
variable {w0 w K : World} {M : List Ent} {g : Nat} {s : DefD} {ts ds : List DefD}
theorem q7l (k:Int) (H:Hp w0 w K M):Calls Tryz.prog 80 #[.int .i64 k] w fun e w'=>e= .returned (.bool (q25 k))∧w'=w:=by
 unfold q25;go_enter Tryz.func80,Tryz.ntmps80
 cases h3:k==3<;>cases h4:k==4<;>cases h5:k==5<;>(go_wp2_with fail;go_ret;exact ⟨rfl,rfl⟩)
theorem q26 (x:Txt) (hT:RfK K g s ts ds) (hN:y0f ts≤9000000) (H:Hp w0 w K M) {r:Bool} (hr:inK (y0c ts x)=r):
  Calls Tryz.prog 32 #[.pointer (some ⟨g,0,none⟩),.string (str x)] w fun e w'=>e= .returned (.bool r)∧w'=w:=by
 obtain ⟨k,hk⟩: ∃k,y0c ts x=k:=⟨_,rfl⟩;rw [hk] at hr;subst hr;unfold inK;go_enter Tryz.func32,Tryz.ntmps32
 go_upto_region 2 with (go_at_call 75;refine (y45 x hT hN H hk).mono ?_;rintro e w9 ⟨rfl,hw9⟩;subst w9)
 clear hk
 cases h3:k==2<;>cases h4:k==6<;>cases h5:k==7<;>(go_wp2_with fail;go_ret;exact ⟨by first|rfl|(simp [*];done)|(simp_all;done),rfl⟩)
theorem x95 (x:Txt) (hT:RfK K g s ts ds) (hN:y0f ts≤9000000) (H:Hp w0 w K M) {r:Bool} (hr:outK (y0c ts x)=r):
  Calls Tryz.prog 34 #[.pointer (some ⟨g,0,none⟩),.string (str x)] w fun e w'=>e= .returned (.bool r)∧w'=w:=by
 obtain ⟨k,hk⟩: ∃k,y0c ts x=k:=⟨_,rfl⟩;rw [hk] at hr
 have hr2:r=((k==2)||(k==6)||q25 k):=by rw [←hr];unfold outK q25;simp only [Bool.or_assoc]
 clear hr;subst hr2;go_enter Tryz.func34,Tryz.ntmps34
 go_upto_region 2 with (go_at_call 75;refine (y45 x hT hN H hk).mono ?_;rintro e w9 ⟨rfl,hw9⟩;subst w9)
 clear hk
 cases h3:k==2<;>cases h4:k==6<;>(go_wp2_with (go_at_call 80;refine (q7l k H).mono ?_;rintro e w9 ⟨rfl,hw9⟩;subst w9);go_ret;exact ⟨by first|rfl|(simp [*];done)|(simp_all;done),rfl⟩)
end
theorem x96 {l:List Txt} {x:Txt} (h:x∈l):addN l x=l:=if_pos h
theorem q3u {l:List Txt} {x:Txt} (h:x∉l):addN l x=l++[x]:=if_neg h
theorem x25 (ts:List DefD) {ms:List NamedD} {k:Nat} {m:NamedD} (h:ms[k]?=some m):memO ts (ms.take (k+1))=if y0c ts m.name=3 then addN (memO ts (ms.take k)) m.name else memO ts (ms.take k):=by
 rw [y0k h];unfold memO;rw [List.foldl_append];rfl
theorem x97 (ts:List DefD): ∀(ms:List NamedD) (l:List Txt),(ms.foldl (fun l m=>if y0c ts m.name=3 then addN l m.name else l) l).length≤l.length+ms.length
 |[],l=>by simp
 |m::r,l=>by
  rw [List.foldl_cons];refine Qah (x97 ts r _) ?_;unfold addN
  split<;>(try split)<;>simp<;>omega
section
variable {w0 w K : World} {M : List Ent} {g : Nat} {s : DefD} {ts ds : List DefD}
theorem y5h (x:Txt) (hT:RfK K g s ts ds) (hN:y0f ts≤9000000) (H:Hp w0 w K M) {l:List Txt} (hl:posL ts x=l):
  Calls Tryz.prog 30 #[.pointer (some ⟨g,0,none⟩),.string (str x)] w fun e w'=>∃K' A c,e= .returned (.slice A l.length c)∧Sat K' K∧Hp w0 w' K' M∧RD K' (.list l.length (l.flatMap fun x=>[str' x])) (.slice A l.length c):=by
 obtain ⟨k,hk⟩: ∃k,y0c ts x=k:=⟨_,rfl⟩;have hlen:=z9c hN;have hT0:=hT;obtain ⟨o,AT,AD,cT,cD,sch,hb,-,hd,-⟩:=hT0;have hb:K.heap[g]?=some (.cells _ _ _):=hb;go_enter Tryz.func30,Tryz.ntmps30
 go_upto_region 3 with (go_at_call 75;refine (y45 x hT hN H hk).mono ?_;rintro e w9 ⟨rfl,hw9⟩;subst w9)
 replace H:=H.nilRow 9 1;by_cases h3:k=3
 ·have hl3:[x]=l:=by rw [←hl];unfold posL;rw [if_pos (hk.trans h3)]
  subst hl3;clear hl hk hb hd hlen;have e3:(k==3)=true:=Qa7.2 h3;clear h3
  go_wp2_with (first|(refine oL H ?_)|(refine oP H ?_;clear H;intro w _ H)|(refine oQ H ?_;clear H;intro A' c' w _ _ H;dsimp only [List.set] at H))
  go_ret;obtain ⟨K2,hle2,H,hd⟩:=(show Hp w0 _ K (.row 9 1 (.slice _ 1 _) 1 _::M) from H.fin).freezeRow (ls:=[x].flatMap fun x=>[str' x]) (.lit RL.z);exact ⟨K2,_,_,rfl,hle2,H,hd⟩
 ·have e3:(k==3)=false:=Qa3.2 h3;by_cases h4:k=4
  ·have e4:(k==4)=true:=Qa7.2 h4
   have HL:Hid ((ts.filter (y6k x)).map (·.name)=l):=by show _=_;rw [←hl];unfold posL;rw [hk,if_neg h3,if_pos h4]
   clear hl hk h3 h4;obtain ⟨n,hn⟩: ∃n,ts.length=n:=⟨_,rfl⟩;rw [hn] at hb hd hlen;have HN:=hide hn;have HD:=hide hN;clear hn hN hT
   go_wp2_with fail
   go_loopw [5,6] (fun v i wr=>∃(j:Nat) (A':Option Addr) (c':Nat) (vs:List Value) (out:List Txt),j≤n∧i= .int .i64 j∧v= .slice A' out.length c'∧Hid (((ts.take j).filter (y6k x)).map (·.name)=out)∧RL K (y0t out) vs∧Hp w0 wr K (.row 9 1 (.slice A' out.length c') out.length vs::M)) (fun _ i _=>n - (intOf i).toNat)
   case atStart=>exact ⟨0,none,0,[],[],Qak _,rfl,rfl,rfl,RL.z,H⟩
   case round=>
    clear H;obtain ⟨j,A',c',vs,out,hj,rfl,rfl,HO,hvs,H⟩:=hrel
    have hol:out.length≤j:=by rw [←HO.out,Qay];exact Qah (Qb4 _ _) (by rw [Qau];exact Nat.min_le_left _ _)
    by_cases hlt:j<n
    ·obtain ⟨d,ad,us,hx,rfl,hxl,hat⟩:=el_k (m:=17) (f:=defL) y0x hd (by rw [HN.out];exact hlt) (by decide);obtain ⟨hjI,hwr⟩:=wr_k hlt hlen;obtain ⟨A6,c6,A7,c7,A8,c8,A9,c9,A10,c10,A11,c11,A12,c12,A14,c14,rfl,hif,-,-,-,-,-,-,-⟩:=y0e hxl;have hdn:=Qah (y7a hx) HD.out
     have hin:d.ifaces.length≤9000000:=by unfold defN at hdn;omega
     have htk:=y0k hx;have hiw:=hif.sat H.sat;obtain ⟨b,hbi⟩: ∃b,(d.ifaces.any fun y=>decide (y.name=x))=b:=⟨_,rfl⟩
     have HS:Hid (((ts.take (j+1)).filter (y6k x)).map (·.name)=if (d.kind==3&&b)=true then out++[d.name] else out):=by
      show _=_
      rw [htk,List.filter_append,Qas,HO.out,List.filter_cons];unfold y6k;rw [hbi]
      split<;>simp
     clear hx hxl hdn htk HO hif
     cases hk3:d.kind==3 with
     |false=>
      rw [hk3,Bool.false_and] at HS;have HS2:=hide HS.out;clear HS hbi
      go_wp2_with (refine oL H ?_)
      go_roundw
      case rel=>exact ⟨j+1,A',c',vs,out,by omega,by go_num,rfl,HS2.out,hvs,H⟩
      case measure=>simp [intOf];omega
     |true=>
      rw [hk3,Bool.true_and] at HS
      cases b with
      |false=>
       have HS2:=hide HS.out;clear HS
       go_wp2_with (first|(refine oL H ?_)|(go_at_call 76;refine (z32 x rfl hin hiw hbi).mono ?_;rintro e w9 ⟨rfl,hw9⟩;subst w9))
       go_roundw
       case rel=>exact ⟨j+1,A',c',vs,out,by omega,by go_num,rfl,HS2.out,hvs,H⟩
       case measure=>simp [intOf];omega
      |true=>
       have HS2:=hide HS.out;clear HS
       go_wp2_with (first|(refine oL H ?_)|(refine oP H ?_;clear H;intro w _ H)|(refine oQ H ?_;clear H;intro A' c' w _ _ H;dsimp only [List.set] at H)|(go_at_call 76;refine (z32 x rfl hin hiw hbi).mono ?_;rintro e w9 ⟨rfl,hw9⟩;subst w9))
       go_roundw
       case rel=>exact ⟨j+1,_,_,_,out++[d.name],by omega,by go_num,by rw [Qae];rfl,HS2.out,y4y hvs,by rw [Qae];exact H.fin⟩
       case measure=>simp [intOf];omega
    ·obtain rfl:j=n:=by omega
     have hO:=HO.out;rw [Qaj (by rw [HN.out];exact Qab _)] at hO;obtain rfl:out=l:=hO.symm.trans HL.out;clear hO
     go_wp2_with (refine oL H ?_)
     go_ret;rw [y1s] at hvs;obtain ⟨K2,hle2,H,hd⟩:=H.freezeRow hvs;exact ⟨K2,_,_,rfl,hle2,H,hd⟩
  ·have e4:(k==4)=false:=Qa3.2 h4;by_cases h5:k=5
   ·have e5:(k==5)=true:=Qa7.2 h5
    cases hq:y1f ts x with
    |none=>rw [z6v hq] at hk;omega
    |some i=>
     obtain ⟨d,he,hne⟩:=y1d hq
     have hp:y2h ts x=(i:Int):=by unfold y2h;rw [hq]
     have HL:Hid (memO ts d.members=l):=by
      show _=_
      rw [←hl];unfold posL;rw [hk,if_neg h3,if_neg h4,if_pos h5,←x9s,z9d hq he];rfl
     have hio:i<ts.length:=(Qac.1 he).1;have hdn:defN d≤9000000:=Qah (y7a he) hN;obtain ⟨e2,ad,us,he2,rfl,hel,hat⟩:=el_k (m:=17) (f:=defL) y0x hd hio (by decide)
     obtain rfl:e2=d:=by rw [he] at he2;injection he2 with he2;exact he2.symm
     obtain ⟨A6,c6,A7,c7,A8,c8,A9,c9,A10,c10,A11,c11,A12,c12,A14,c14,rfl,-,-,-,-,hme,-,-,-⟩:=y0e hel
     have hiI:(i:Int)<(ts.length:Int):=by omega
     have hi0:(0:Int)≤(i:Int):=by omega
     have hml:e2.members.length≤9000000:=by unfold defN at hdn;omega
     have hdw:=hd.sat H.sat;clear hl hk h3 h4 h5 hq he he2 hel hne hio hdn;have hpw:=fun {w w0 M} (H:Hp w0 w K M)=>y1l x rfl hlen (hd.sat H.sat) hp;obtain ⟨n,hn⟩: ∃n,e2.members.length=n:=⟨_,rfl⟩;rw [hn] at hme hml hat;have HN:=hide hn;clear hn
     go_upto_region 12 with (refine oL H ?_)
     refine rB [13] H ?_;clear H;intro w H;refine rT 0 H ?_;refine rT 1 H ?_;refine rT 2 H ?_;refine rT 3 H ?_;refine rT 4 H ?_;refine rT 5 H ?_;refine rT 6 H ?_;refine rT 7 H ?_;refine rT 8 H ?_;refine r2 9 12 ?_ ?_
     ·refine aC (hpw H) ?_;rintro e w9 ⟨rfl,hw9⟩;subst w9;refine rX H ?_;refine rT 10 H ?_;refine rT 11 H ?_;refine rW 12 H ?_;clear H;intro w g7 H;refine rL 13 H ?_;clear H;intro w _ H;refine rE ?_;clear hat hpw
      go_wp2_with fail
      go_loopw [5,8] (fun v i wr=>∃(j:Nat) (A':Option Addr) (c':Nat) (vs:List Value) (out:List Txt),j≤n∧i= .int .i64 j∧v= .slice A' out.length c'∧Hid (memO ts (e2.members.take j)=out)∧RL K (y0t out) vs∧Hp w0 wr K (.box g7 [.int .i64 e2.kind,.bool e2.ext,.bool e2.note.has,.bool e2.note.block,.string (str e2.note.text),.string (str e2.name),.slice A6 e2.ifaces.length c6,.slice A7 e2.dirs.length c7,.slice A8 e2.fields.length c8,.slice A9 e2.inputs.length c9,.slice A10 n c10,.slice A11 e2.values.length c11,.slice A12 e2.roots.length c12,.bool e2.rep,.slice A14 e2.places.length c14,.int .i64 e2.line,.int .i64 e2.col] 43:: .row 9 1 (.slice A' out.length c') out.length vs::M)) (fun _ i _=>n - (intOf i).toNat)
      case atStart=>exact ⟨0,none,0,[],[],Qak _,rfl,rfl,rfl,RL.z,H.fin⟩
      case round=>
       clear H;obtain ⟨j,A',c',vs,out,hj,rfl,rfl,HO,hvs,H⟩:=hrel
       have hol:out.length≤j:=by
        have:=x97 ts (e2.members.take j) [];unfold memO at HO;rw [HO.out,Qau,List.length_nil] at this;omega
       by_cases hlt:j<n
       ·obtain ⟨y,ad9,us,hx,rfl,hxl,hat⟩:=el_k (m:=3) (f:=y79) (fun _=>rfl) hme (by rw [HN.out];exact hlt) (by decide);obtain ⟨hjI,hwr⟩:=wr_k hlt hml;obtain ⟨r0,rfl,h0⟩:=hxl.lit_inv;obtain ⟨r1,rfl,h1⟩:=h0.lit_inv;obtain ⟨r2,rfl,h2⟩:=h1.lit_inv;obtain rfl:=h2.nil_inv;have hnx:=x25 ts hx;rw [HO.out] at hnx;obtain ⟨ky,hky⟩: ∃k,y0c ts y.name=k:=⟨_,rfl⟩;rw [hky] at hnx;clear h0 h1 h2 hxl hx HO;by_cases k3:ky=3
        ·have f3:(ky==3)=true:=Qa7.2 k3;rw [if_pos k3] at hnx;clear k3;obtain ⟨b,hbb⟩: ∃b,decide (y.name∈out)=b:=⟨_,rfl⟩
         cases b with
         |true=>
          rw [x96 (Qa6 hbb)] at hnx;have HS:=hide hnx;clear hnx
          go_wp2_with (first|(refine oL H ?_)|(go_at_call 75;refine (y45 y.name hT hN H hky).mono ?_;rintro e w9 ⟨rfl,hw9⟩;subst w9)|(go_at_call 78;refine (x06 y.name rfl (by omega) (rowR H (i:=1) rfl hvs) hbb).mono ?_;rintro e w9 ⟨rfl,hw9⟩;subst w9))
          go_roundw
          case rel=>exact ⟨j+1,A',c',vs,out,by omega,by go_num,rfl,HS,hvs,H⟩
          case measure=>simp [intOf];omega
         |false=>
          rw [q3u (of_decide_eq_false hbb)] at hnx;have HS:=hide hnx;clear hnx
          go_wp2_with (first|(refine oL H ?_)|(refine oP H ?_;clear H;intro w _ H)|(refine oQ H ?_;clear H;intro A' c' w _ _ H;dsimp only [List.set] at H)|(go_at_call 75;refine (y45 y.name hT hN H hky).mono ?_;rintro e w9 ⟨rfl,hw9⟩;subst w9)|(go_at_call 78;refine (x06 y.name rfl (by omega) (rowR H (i:=1) rfl hvs) hbb).mono ?_;rintro e w9 ⟨rfl,hw9⟩;subst w9))
          go_roundw
          case rel=>exact ⟨j+1,_,_,_,out++[y.name],by omega,by go_num,by rw [Qae];rfl,HS,y4y hvs,by rw [Qae];exact H.fin⟩
          case measure=>simp [intOf];omega
        ·have f3:(ky==3)=false:=Qa3.2 k3;rw [if_neg k3] at hnx;have HS:=hide hnx;clear hnx k3
         go_wp2_with (first|(refine oL H ?_)|(go_at_call 75;refine (y45 y.name hT hN H hky).mono ?_;rintro e w9 ⟨rfl,hw9⟩;subst w9))
         go_roundw
         case rel=>exact ⟨j+1,A',c',vs,out,by omega,by go_num,rfl,HS,hvs,H⟩
         case measure=>simp [intOf];omega
       ·obtain rfl:j=n:=by omega
        have hO:=HO.out;rw [Qaj (by rw [HN.out];exact Qab _)] at hO;obtain rfl:out=l:=hO.symm.trans HL.out;clear hO
        go_wp2_with (refine oL H ?_)
        go_ret;rw [y1s] at hvs;replace H:Hp _ _ _ (.row 9 1 _ _ _::M):=H.fin;obtain ⟨K2,hle2,H,hd⟩:=H.freezeRow hvs;exact ⟨K2,_,_,rfl,hle2,H,hd⟩
     ·refine aW H ?_;clear H;intro w g7 H;refine rC 9 (hpw H) ?_;rintro e w9 ⟨rfl,hw9⟩;subst w9;refine rX H ?_;refine rT 10 H ?_;refine rT 11 H ?_;refine rL 13 H ?_;clear H;intro w _ H;refine rE ?_;clear hat hpw
      go_wp2_with fail
      go_loopw [5,8] (fun v i wr=>∃(j:Nat) (A':Option Addr) (c':Nat) (vs:List Value) (out:List Txt),j≤n∧i= .int .i64 j∧v= .slice A' out.length c'∧Hid (memO ts (e2.members.take j)=out)∧RL K (y0t out) vs∧Hp w0 wr K (.box g7 [.int .i64 e2.kind,.bool e2.ext,.bool e2.note.has,.bool e2.note.block,.string (str e2.note.text),.string (str e2.name),.slice A6 e2.ifaces.length c6,.slice A7 e2.dirs.length c7,.slice A8 e2.fields.length c8,.slice A9 e2.inputs.length c9,.slice A10 n c10,.slice A11 e2.values.length c11,.slice A12 e2.roots.length c12,.bool e2.rep,.slice A14 e2.places.length c14,.int .i64 e2.line,.int .i64 e2.col] 43:: .row 9 1 (.slice A' out.length c') out.length vs::M)) (fun _ i _=>n - (intOf i).toNat)
      case atStart=>exact ⟨0,none,0,[],[],Qak _,rfl,rfl,rfl,RL.z,H.fin⟩
      case round=>
       clear H;obtain ⟨j,A',c',vs,out,hj,rfl,rfl,HO,hvs,H⟩:=hrel
       have hol:out.length≤j:=by
        have:=x97 ts (e2.members.take j) [];unfold memO at HO;rw [HO.out,Qau,List.length_nil] at this;omega
       by_cases hlt:j<n
       ·obtain ⟨y,ad9,us,hx,rfl,hxl,hat⟩:=el_k (m:=3) (f:=y79) (fun _=>rfl) hme (by rw [HN.out];exact hlt) (by decide);obtain ⟨hjI,hwr⟩:=wr_k hlt hml;obtain ⟨r0,rfl,h0⟩:=hxl.lit_inv;obtain ⟨r1,rfl,h1⟩:=h0.lit_inv;obtain ⟨r2,rfl,h2⟩:=h1.lit_inv;obtain rfl:=h2.nil_inv;have hnx:=x25 ts hx;rw [HO.out] at hnx;obtain ⟨ky,hky⟩: ∃k,y0c ts y.name=k:=⟨_,rfl⟩;rw [hky] at hnx;clear h0 h1 h2 hxl hx HO;by_cases k3:ky=3
        ·have f3:(ky==3)=true:=Qa7.2 k3;rw [if_pos k3] at hnx;clear k3;obtain ⟨b,hbb⟩: ∃b,decide (y.name∈out)=b:=⟨_,rfl⟩
         cases b with
         |true=>
          rw [x96 (Qa6 hbb)] at hnx;have HS:=hide hnx;clear hnx
          go_wp2_with (first|(refine oL H ?_)|(go_at_call 75;refine (y45 y.name hT hN H hky).mono ?_;rintro e w9 ⟨rfl,hw9⟩;subst w9)|(go_at_call 78;refine (x06 y.name rfl (by omega) (rowR H (i:=1) rfl hvs) hbb).mono ?_;rintro e w9 ⟨rfl,hw9⟩;subst w9))
          go_roundw
          case rel=>exact ⟨j+1,A',c',vs,out,by omega,by go_num,rfl,HS,hvs,H⟩
          case measure=>simp [intOf];omega
         |false=>
          rw [q3u (of_decide_eq_false hbb)] at hnx;have HS:=hide hnx;clear hnx
          go_wp2_with (first|(refine oL H ?_)|(refine oP H ?_;clear H;intro w _ H)|(refine oQ H ?_;clear H;intro A' c' w _ _ H;dsimp only [List.set] at H)|(go_at_call 75;refine (y45 y.name hT hN H hky).mono ?_;rintro e w9 ⟨rfl,hw9⟩;subst w9)|(go_at_call 78;refine (x06 y.name rfl (by omega) (rowR H (i:=1) rfl hvs) hbb).mono ?_;rintro e w9 ⟨rfl,hw9⟩;subst w9))
          go_roundw
          case rel=>exact ⟨j+1,_,_,_,out++[y.name],by omega,by go_num,by rw [Qae];rfl,HS,y4y hvs,by rw [Qae];exact H.fin⟩
          case measure=>simp [intOf];omega
        ·have f3:(ky==3)=false:=Qa3.2 k3;rw [if_neg k3] at hnx;have HS:=hide hnx;clear hnx k3
         go_wp2_with (first|(refine oL H ?_)|(go_at_call 75;refine (y45 y.name hT hN H hky).mono ?_;rintro e w9 ⟨rfl,hw9⟩;subst w9))
         go_roundw
         case rel=>exact ⟨j+1,A',c',vs,out,by omega,by go_num,rfl,HS,hvs,H⟩
         case measure=>simp [intOf];omega
       ·obtain rfl:j=n:=by omega
        have hO:=HO.out;rw [Qaj (by rw [HN.out];exact Qab _)] at hO;obtain rfl:out=l:=hO.symm.trans HL.out;clear hO
        go_wp2_with (refine oL H ?_)
        go_ret;rw [y1s] at hvs;replace H:Hp _ _ _ (.row 9 1 _ _ _::M):=H.fin;obtain ⟨K2,hle2,H,hd⟩:=H.freezeRow hvs;exact ⟨K2,_,_,rfl,hle2,H,hd⟩
   ·have e5:(k==5)=false:=Qa3.2 h5
    have hl0:[]=l:=by rw [←hl];unfold posL;rw [hk,if_neg h3,if_neg h4,if_neg h5]
    subst hl0;clear hl hk hb hd hlen h3 h4 h5
    go_wp2_with fail
    go_ret;obtain ⟨K2,hle2,H,hd⟩:=H.freezeRow (ls:=([]:List Txt).flatMap fun x=>[str' x]) RL.z;exact ⟨K2,_,_,rfl,hle2,H,hd⟩
end
def x08 (ts:List DefD) (a b:Txt):Bool:=
 if y0c ts a=0∨y0c ts b=0 then false
 else if a=b then true
 else if y0c ts b=5 then decide (a∈posL ts b)
 else if y0c ts b=4∧(y0c ts a=3∨y0c ts a=4) then (((z1l ts a).map (·.ifaces)).getD []).any fun n=>decide (n.name=b)
 else false
theorem x98 (defs:List DefD) (a b:Txt):y67 (y12 defs) a b=x08 (y0h defs) a b:=by
 unfold y67 x08;rw [z8z,y8l];by_cases h0:y0c (y0h defs) a=0∨y0c (y0h defs) b=0
 ·rw [if_pos h0,if_pos h0]
 ·rw [if_neg h0,if_neg h0];by_cases hab:a=b
  ·rw [if_pos hab,if_pos hab]
  ·rw [if_neg hab,if_neg hab];by_cases h5:y0c (y0h defs) b=5
   ·rw [if_pos h5,if_pos h5];exact z8y (y41 defs) b a
   ·rw [if_neg h5,if_neg h5];by_cases h4:y0c (y0h defs) b=4∧(y0c (y0h defs) a=3∨y0c (y0h defs) a=4)
    ·rw [if_pos h4,if_neg (by omega)]
    ·rw [if_neg h4,if_pos (by omega)]
def x5z (ts:List DefD) (a b:Txt):Bool:=(posL ts a).any fun x=>decide (x∈posL ts b)
theorem x99 (defs:List DefD) (a b:Txt):z38 (y12 defs) a b=x5z (y0h defs) a b:=by rw [q5m];rfl
section
variable {w0 w K : World} {M : List Ent} {g : Nat} {s : DefD} {ts ds : List DefD}
theorem x26 (a b:Txt) (hT:RfK K g s ts ds) (hN:y0f ts≤8000000) (H:Hp w0 w K M) {r:Bool} (hr:x5z ts a b=r):
  Calls Tryz.prog 36 #[.pointer (some ⟨g,0,none⟩),.string (str a),.string (str b)] w fun e w'=>∃K',e= .returned (.bool r)∧Sat K' K∧Hp w0 w' K' M:=by
 obtain ⟨p,hp⟩: ∃p,posL ts a=p:=⟨_,rfl⟩;obtain ⟨q,hq⟩: ∃p,posL ts b=p:=⟨_,rfl⟩;have hpl:=x24 ts a hN;have hql:=x24 ts b hN;unfold x5z at hr;rw [hp,hq] at hr;rw [hp] at hpl;rw [hq] at hql;have hPa:=fun {w K M} (H:Hp w0 w K M) (hT:RfK K g s ts ds)=>y5h a hT (by omega) H hp;have hPb:=fun {w K M} (H:Hp w0 w K M) (hT:RfK K g s ts ds)=>y5h b hT (by omega) H hq;obtain ⟨n,hn⟩: ∃n,p.length=n:=⟨_,rfl⟩;simp only [hn] at hPa;rw [hn] at hpl;have HN:=hide hn;have HR:=hide hr;clear hn hr hp hq hN;go_enter Tryz.func36,Tryz.ntmps36
 go_upto_region 2 with (go_at_call 30;refine (hPa H hT).mono ?_;clear H hPa;rintro e w ⟨K1,A1,c1,rfl,hle1,H,hd1⟩;replace hT:=hT.sat hle1)
 go_upto_region 3 with (go_at_call 30;refine (hPb H hT).mono ?_;clear H hPb;rintro e w ⟨K2,A2,c2,rfl,hle2,H,hd2⟩;replace hd1:=hd1.sat hle2)
 clear hT;rw [←y1s] at hd1 hd2
 go_wp2_with fail
 go_loopw [9] (fun i wr=>∃j:Nat,j≤n∧i= .int .i64 j∧Hid (((p.take j).any fun x=>decide (x∈q))=false)∧wr=w) (fun i _=>n - (intOf i).toNat)
 case atStart=>exact ⟨0,Qak _,rfl,(by show _=_;simp),rfl⟩
 case round=>
  obtain ⟨j,hj,rfl,hno,rfl⟩:=hrel;by_cases hlt:j<n
  ·obtain ⟨ad,x,rfl,hx,hat⟩:=y44 hd1 (by rw [HN.out];exact hlt);obtain ⟨hjI,hwr⟩:=wr_k hlt hpl;have htk:=y0k hx;obtain ⟨bx,hbx⟩: ∃b,decide (x∈q)=b:=⟨_,rfl⟩;have hdw:=hd2.sat H.sat
   cases bx with
   |true=>
    obtain rfl:r=true:=by rw [←HR.out,Qbh];exact ⟨x,Qaf hx,hbx⟩
    clear hx htk
    go_wp2_with (first|(refine oL H ?_)|(go_at_call 78;refine (x06 x rfl hql hdw hbx).mono ?_;rintro e w9 ⟨rfl,hw9⟩;subst w9))
    go_ret;exact ⟨K2,rfl,hle2.trans hle1,H⟩
   |false=>
    have HNX:Hid (((p.take (j+1)).any fun x=>decide (x∈q))=false):=by
     show _=_
     rw [htk,List.any_append,hno.out];simpa using hbx
    clear hx htk hno
    go_wp2_with (first|(refine oL H ?_)|(go_at_call 78;refine (x06 x rfl hql hdw hbx).mono ?_;rintro e w9 ⟨rfl,hw9⟩;subst w9))
    go_roundw
    case rel=>exact ⟨j+1,by omega,by go_num,HNX,trivial⟩
    case measure=>simp [intOf];omega
  ·obtain rfl:n=j:=by omega
   have hno:=hno.out;rw [Qaj (by rw [HN.out];exact Qab _)] at hno;obtain rfl:r=false:=HR.out.symm.trans hno;clear hno
   go_wp2_with fail
   go_ret;exact ⟨K2,rfl,hle2.trans hle1,H⟩
theorem z5k (a b:Txt) (hT:RfK K g s ts ds) (hN:y0f ts≤8000000) (H:Hp w0 w K M) {r:Bool} (hr:x08 ts a b=r):
  Calls Tryz.prog 38 #[.pointer (some ⟨g,0,none⟩),.string (str a),.string (str b)] w fun e w'=>∃K',e= .returned (.bool r)∧Sat K' K∧Hp w0 w' K' M:=by
 obtain ⟨ka,hka⟩: ∃k,y0c ts a=k:=⟨_,rfl⟩;obtain ⟨kb,hkb⟩: ∃k,y0c ts b=k:=⟨_,rfl⟩
 have hN9:y0f ts≤9000000:=by omega
 unfold x08 at hr;rw [hka,hkb] at hr;go_enter Tryz.func38,Tryz.ntmps38
 go_upto_region 2 with (go_at_call 75;refine (y45 a hT hN9 H hka).mono ?_;rintro e w9 ⟨rfl,hw9⟩;subst w9)
 go_upto_region 3 with (go_at_call 75;refine (y45 b hT hN9 H hkb).mono ?_;rintro e w9 ⟨rfl,hw9⟩;subst w9)
 by_cases h0:ka=0∨kb=0
 ·rw [if_pos h0] at hr;subst hr;by_cases ha0:ka=0
  ·have ea:(ka==0)=true:=Qa7.2 ha0;clear hka hkb h0 ha0
   go_wp2_with fail
   go_ret;exact ⟨K,rfl,Sat.refl _,H⟩
  ·have ea:(ka==0)=false:=Qa3.2 ha0;have eb:(kb==0)=true:=Qa7.2 (h0.resolve_left ha0);clear hka hkb h0 ha0
   go_wp2_with fail
   go_ret;exact ⟨K,rfl,Sat.refl _,H⟩
 ·have ea:(ka==0)=false:=Qa3.2 fun h=>h0 (.inl h);have eb:(kb==0)=false:=Qa3.2 fun h=>h0 (.inr h);rw [if_neg h0] at hr;by_cases hab:a=b
  ·rw [if_pos hab] at hr
   have e1:((str a).toList==(str b).toList)=true:=by rw [Go.Proofs.YtbpgkkoeehopjaaGreat.gram.str_eq];exact Qa5 hab
   subst hr;clear hka hkb h0 hab
   go_wp2_with fail
   go_ret;exact ⟨K,rfl,Sat.refl _,H⟩
  ·have e1:((str a).toList==(str b).toList)=false:=by rw [Go.Proofs.YtbpgkkoeehopjaaGreat.gram.str_eq];exact Qa4 hab
   rw [if_neg hab] at hr;by_cases h5:kb=5
   ·have e5:(kb==5)=true:=Qa7.2 h5;rw [if_pos h5] at hr;have hPb:=y5h b hT hN9 H rfl;have hql:=x24 ts b hN;clear hka hkb h0 hab h5
    go_wp2_with (first|(go_at_call 30;refine hPb.mono ?_;clear H hPb;rintro e w ⟨K2,A2,c2,rfl,hle2,H,hd2⟩)|(go_at_call 78;refine (x06 a rfl hql (by rw [y1s];exact hd2.sat H.sat) hr).mono ?_;rintro e w9 ⟨rfl,hw9⟩;subst w9))
    go_ret;exact ⟨K2,rfl,hle2,H⟩
   ·have e5:(kb==5)=false:=Qa3.2 h5;rw [if_neg h5] at hr;by_cases h4:kb=4
    ·have e4:(kb==4)=true:=Qa7.2 h4;by_cases h34:ka=3∨ka=4
     ·rw [if_pos ⟨h4,h34⟩] at hr;have hlen:=z9c hN9;have hT0:=hT;obtain ⟨o,AT,AD,cT,cD,sch,hb,-,hd,-⟩:=hT0;have hb:K.heap[g]?=some (.cells _ _ _):=hb
      cases hq:y1f ts a with
      |none=>rw [z6v hq] at hka;omega
      |some i=>
       obtain ⟨d,he,hne⟩:=y1d hq
       have hp:y2h ts a=(i:Int):=by unfold y2h;rw [hq]
       rw [z9d hq he] at hr;simp only [Option.map_some,Option.getD_some] at hr;have hio:i<ts.length:=(Qac.1 he).1;have hdn:defN d≤9000000:=Qah (y7a he) hN9;obtain ⟨e2,ad,us,he2,rfl,hel,hat⟩:=el_k (m:=17) (f:=defL) y0x hd hio (by decide)
       obtain rfl:e2=d:=by rw [he] at he2;injection he2 with he2;exact he2.symm
       obtain ⟨A6,c6,A7,c7,A8,c8,A9,c9,A10,c10,A11,c11,A12,c12,A14,c14,rfl,hif,-,-,-,-,-,-,-⟩:=y0e hel
       have hiI:(i:Int)<(ts.length:Int):=by omega
       have hi0:(0:Int)≤(i:Int):=by omega
       have hml:e2.ifaces.length≤9000000:=by unfold defN at hdn;omega
       have hpw:=fun {w w0 M} (H:Hp w0 w K M)=>y1l a rfl hlen (hd.sat H.sat) hp;have hnw:=fun {w w0 M} (H:Hp w0 w K M)=>z32 b rfl hml (hif.sat H.sat) hr
       have e34:((ka==3)=true)∨((ka==3)=false∧(ka==4)=true):=by
        rcases h34 with h|h
        ·exact .inl (Qa7.2 h)
        ·exact .inr ⟨Qa3.2 (by omega),Qa7.2 h⟩
       clear hka hkb h0 hab h5 h4 h34 hq he he2 hel hne hio hdn hr
       rcases e34 with e3|⟨e3,e34⟩<;>(
        go_upto_region 11 with fail
        refine rB [] H ?_;clear H;intro w H;refine rT 0 H ?_;refine rT 1 H ?_;refine rT 2 H ?_;refine rT 3 H ?_;refine rT 4 H ?_;refine rT 5 H ?_;refine rT 6 H ?_;refine rT 7 H ?_;refine rT 8 H ?_;refine rT 13 H ?_;refine rC 9 (hpw H) ?_;rintro e w9 ⟨rfl,hw9⟩;subst w9;refine rX H ?_;refine rT 10 H ?_;refine rT 11 H ?_;refine rT 12 H ?_;refine rC 14 (hnw H) ?_;rintro e w9 ⟨rfl,hw9⟩;subst w9;refine rX H ?_;refine rT 15 H ?_;refine rE ?_
        go_wp2_with fail
        go_ret
        exact ⟨K,rfl,Sat.refl _,H⟩)
     ·rw [if_neg (fun h=>h34 h.2)] at hr;have e3:(ka==3)=false:=Qa3.2 fun h=>h34 (.inl h);have e34:(ka==4)=false:=Qa3.2 fun h=>h34 (.inr h);subst hr;clear hka hkb h0 hab h5 h4 h34
      go_wp2_with fail
      go_ret;exact ⟨K,rfl,Sat.refl _,H⟩
    ·have e4:(kb==4)=false:=Qa3.2 h4;rw [if_neg (fun h=>h4 h.1)] at hr;subst hr;clear hka hkb h0 hab h5 h4
     go_wp2_with fail
     go_ret;exact ⟨K,rfl,Sat.refl _,H⟩
end
section
variable {w0 w K : World} {M : List Ent}
theorem z9h {l:List Txt} {n c1 c2:Nat} {A1 A2:Option Addr} (hl:l.length=n) (hn:n≤9000000) (h1:RD K (.list n (y0t l)) (.slice A1 n c1)) (h2:RD K (.list n (y0t l)) (.slice A2 n c2)) (H:Hp w0 w K M):
  Calls Tryz.prog 26 #[.slice A1 n c1,.slice A2 n c2] w fun e w'=>e= .returned (.bool true)∧Hp w0 w' K M:=by
 have HN:=hide hl;clear hl;go_enter Tryz.func26,Tryz.ntmps26
 go_wp2_with fail
 go_loopw [13] (fun i wr=>∃j:Nat,j≤n∧i= .int .i64 j∧Hp w0 wr K M) (fun i _=>n - (intOf i).toNat)
 case atStart=>exact ⟨0,Qak _,rfl,H⟩
 case round=>
  clear H;obtain ⟨j,hj,rfl,H⟩:=hrel;by_cases hlt:j<n
  ·obtain ⟨ad,x,rfl,hx,hat⟩:=y44 h1 (by rw [HN.out];exact hlt);obtain ⟨ad2,y,rfl,hy,hat2⟩:=y44 h2 (by rw [HN.out];exact hlt)
   obtain rfl:y=x:=by rw [hx] at hy;injection hy with hy;exact hy.symm
   obtain ⟨hjI,hwr⟩:=wr_k hlt hn;clear hx hy
   go_upto_region 6 with fail
   refine rB [] H ?_;clear H;intro w H;refine rT 0 H ?_;refine rT 1 H ?_;refine rT 2 H ?_;refine rT 3 H ?_;refine rT 4 H ?_;refine rT 5 H ?_;refine rT 6 H ?_;refine rT 7 H ?_;refine rT 8 H ?_;refine rE ?_
   go_wp2_with fail
   go_roundw
   case rel=>exact ⟨j+1,by omega,by go_num,H⟩
   case measure=>simp [intOf];omega
  ·obtain rfl:n=j:=by omega
   go_wp2_with fail
   go_ret;exact ⟨rfl,H⟩
theorem in_p (v:Value) (x:Txt) (defs:List DefD) (H:Hp w0 w K M) (hv:Tp K v (y12 defs)) {b:Bool} (hb:inK (y0c (y0h defs) x)=b):
  Calls Tryz.prog 31 #[v,.string (str x)] w fun e w'=>∃K',e= .returned (.bool b)∧Sat K' K∧Hp w0 w' K' M:=by subst hb;exact q5g v x (y12 defs) w0 w K M H hv
theorem q70 (v:Value) (x:Txt) (defs:List DefD) (H:Hp w0 w K M) (hv:Tp K v (y12 defs)) {b:Bool} (hb:outK (y0c (y0h defs) x)=b):
  Calls Tryz.prog 33 #[v,.string (str x)] w fun e w'=>∃K',e= .returned (.bool b)∧Sat K' K∧Hp w0 w' K' M:=by subst hb;exact q2t v x (y12 defs) w0 w K M H hv
theorem q3v (v:Value) (a b:Txt) (defs:List DefD) (H:Hp w0 w K M) (hv:Tp K v (y12 defs)) (hW:TyW (y12 defs)) {r:Bool} (hr:x5z (y0h defs) a b=r):
  Calls Tryz.prog 35 #[v,.string (str a),.string (str b)] w fun e w'=>∃K',e= .returned (.bool r)∧Sat K' K∧Hp w0 w' K' M:=by rw [←x99] at hr;subst hr;exact q7b v a b (y12 defs) w0 w K M H hv hW
theorem x27 (v:Value) (a b:Txt) (defs:List DefD) (H:Hp w0 w K M) (hv:Tp K v (y12 defs)) (hW:TyW (y12 defs)) {r:Bool} (hr:x08 (y0h defs) a b=r):
  Calls Tryz.prog 37 #[v,.string (str a),.string (str b)] w fun e w'=>∃K',e= .returned (.bool r)∧Sat K' K∧Hp w0 w' K' M:=by rw [←x98] at hr;subst hr;exact z6p v a b (y12 defs) w0 w K M H hv hW
theorem Objects_walk (src name:Txt) (wi:World) (hsrc:src.length≤1048576):
  Calls Tryz.prog 5 #[.string (str src),.string (str name)] wi fun e w'=>e= .returned (.bool true)∧Below wi.heap.size wi w':=by
 have H:=Hp.start wi;have hN:=q6t src (by omega);have hS:=q23 src (by omega);have hrd:=fun {w1 K M} (H:Hp wi w1 K M)=>q2e H src (by omega);obtain ⟨defs,hdefs⟩: ∃d,z1k src=d:=⟨_,rfl⟩;rw [hdefs] at hN hrd hS;clear hdefs;have hW:=x2s defs (by omega);have hT8:y0f (y12 defs).types≤8000000:=Qah hW.nT (by omega)
 have hN9:y0f defs≤2900000:=by omega
 have hrb:=fun {w1 K M} {A:Option Addr} {c:Nat} (H:Hp wi w1 K M) (hd:RD K (.list defs.length (y0q defs)) (.slice A defs.length c))=>x90 defs rfl hN9 hS hd H;clear hS;go_enter Tryz.func5,Tryz.ntmps5
 go_upto_region 6 with (first|(go_at_call 24;refine (x94 _ _ _ _ H).mono ?_;clear H;rintro e w1 ⟨K1,rfl,hle1,H⟩)|(go_at_call 13;refine (hrd H).mono ?_;clear H hrd;rintro e w2 ⟨K2,A2,c2,rfl,hle2,H,hd⟩)|(go_at_call 14;refine (z6o defs _ _ _ _ _ _ _ H rfl hd (by omega)).mono ?_;clear H;rintro e w3 ⟨K3,g,rfl,hle3,H,hB⟩;replace hd:=hd.sat hle3;have hv:=hB.tp;clear hB)|(go_at_call 28;refine (hrb H hd).mono ?_;clear H hrb;rintro e w4 ⟨K4,g4,rfl,hle4,H,hT⟩;replace hv:=hv.sat hle4))
 clear hd hle1 hle2 hle3 hle4 hN hN9;have hl:=z9c (Qah hT8 (by omega));have hTl:(y12 defs).types=y0h defs:=rfl;rw [hTl] at hl hT8 hT;obtain ⟨L,hL⟩: ∃L,(y0h defs).map (·.name)++[name,[]]=L:=⟨_,rfl⟩
 have hLn:L.length=(y0h defs).length+2:=by rw [←hL,Qae,Qay];rfl
 have hN8:y0f (y0h defs)≤9000000:=Qah hT8 (by omega);have HL:=hide hL;clear hL
 go_upto_region 7 with (first|(go_at_call 29;refine (x91 hT hN8 H).mono ?_;clear H;rintro e w ⟨A5,c5,rfl,H⟩)|(refine oA 21 H ?_ (hd:=dbS (cs:=[.string (str name),.string ⟨#[]⟩]) (hcs:=by kernel_rfl));clear H;intro w g21 H;have hq9:=H.freezeBox (n:=2) (ls:=y0t [name,[]]) (.lit (.lit RL.z)) (by simp [maxLen]);clear H;obtain ⟨K5,hle5,H,hd5⟩:=hq9;replace hv:=hv.sat hle5;replace hT:=hT.sat hle5)|(refine oR H ?_ (ls:=y0t [name,[]]) (hlen:=rfl);clear H;intro us A6 c6 w hus _ _ _ H;dsimp only [List.set] at H;have hq9:=H.freezeRow (ls:=y0t ((y0h defs).map (·.name)++[name,[]])) (by unfold y0t at hus ⊢;rw [Qas];exact DatL.app (y96 _) hus);clear H;obtain ⟨K6,hle6,H,hdl⟩:=hq9;replace hv:=hv.sat hle6;replace hT:=hT.sat hle6))
 rw [HL.out] at hdl;obtain ⟨nl,hnl⟩: ∃n,(y0h defs).length+2=n:=⟨_,rfl⟩
 have hnlI:((y0h defs).length:Int)+2=(nl:Int):=by omega
 rw [hnl] at hdl hLn ⊢;rw [hnlI]
 have hnl9:nl≤9000000:=by have:=y0p y1x (y0h defs);unfold y0f at hT8;omega
 have HN:=hide hLn;clear hnlI hd5 hle5 hle6 hnl hLn hus HL hl
 go_wp2_with fail
 go_loopw [24] (fun i wr=>∃(k:Nat) (K7:World),k≤nl∧i= .int .i64 k∧Sat K7 K6∧Hp wi wr K7 []) (fun i _=>nl - (intOf i).toNat)
 case atStart=>exact ⟨0,K6,Qak _,rfl,Sat.refl _,H⟩
 case round=>
  clear H;obtain ⟨k,K7,hk,rfl,H0,H⟩:=hrel;replace hv:=hv.sat H0;replace hT:=hT.sat H0;have hdk:=hdl.sat H0;by_cases hlt:k<nl
  ·obtain ⟨ad,x,rfl,hx,hat⟩:=y44 hdk (by rw [HN.out];exact hlt);obtain ⟨hkI,hwr⟩:=wr_k hlt hnl9;obtain ⟨p,hp⟩: ∃p,posL (y0h defs) x=p:=⟨_,rfl⟩;have hpl:=x24 (y0h defs) x hT8;rw [hp] at hpl;obtain ⟨b1,hb1⟩: ∃b,inK (y0c (y0h defs) x)=b:=⟨_,rfl⟩;obtain ⟨b2,hb2⟩: ∃b,outK (y0c (y0h defs) x)=b:=⟨_,rfl⟩;obtain ⟨m1,hm1⟩: ∃b,x5z (y0h defs) x name=b:=⟨_,rfl⟩;obtain ⟨m2,hm2⟩: ∃b,x5z (y0h defs) name x=b:=⟨_,rfl⟩;obtain ⟨r1,hr1⟩: ∃b,x08 (y0h defs) x name=b:=⟨_,rfl⟩;obtain ⟨r2,hr2⟩: ∃b,x08 (y0h defs) name x=b:=⟨_,rfl⟩;have HP:=hide hp;have B1:=hide hb1;have B2:=hide hb2;have M1:=hide hm1;have M2:=hide hm2;have R1:=hide hr1;have R2:=hide hr2;clear hx hdk hp hb1 hb2 hm1 hm2 hr1 hr2
   go_upto_region 11 with (first|(refine oL H ?_)|(go_at_call 27;refine (x5y _ x defs H hv hW HP.out rfl).mono ?_;clear H;rintro e w ⟨K8,A7,c7,rfl,hle7,H,hd7⟩;rw [←y1s] at hd7;replace hv:=hv.sat hle7;replace hT:=hT.sat hle7;replace H0:=hle7.trans H0;clear hle7)|(go_at_call 30;refine (y5h x hT hN8 H HP.out).mono ?_;clear H;rintro e w ⟨K8,A8,c8,rfl,hle7,H,hd8⟩;rw [←y1s] at hd8;replace hd7:=hd7.sat hle7;replace hv:=hv.sat hle7;replace hT:=hT.sat hle7;replace H0:=hle7.trans H0;clear hle7)|(go_at_call 26;refine (z9h rfl hpl hd7 hd8 H).mono ?_;clear H;rintro e w ⟨rfl,H⟩;clear hd7 hd8)|(go_at_call 31;refine (in_p _ x defs H hv B1.out).mono ?_;clear H;rintro e w ⟨K8,rfl,hle7,H⟩;replace hv:=hv.sat hle7;replace hT:=hT.sat hle7;replace H0:=hle7.trans H0;clear hle7)|(go_at_call 32;refine (q26 x hT hN8 H B1.out).mono ?_;rintro e w9 ⟨rfl,hw9⟩;subst w9)|(go_at_call 33;refine (q70 _ x defs H hv B2.out).mono ?_;clear H;rintro e w ⟨K8,rfl,hle7,H⟩;replace hv:=hv.sat hle7;replace hT:=hT.sat hle7;replace H0:=hle7.trans H0;clear hle7)|(go_at_call 34;refine (x95 x hT hN8 H B2.out).mono ?_;rintro e w9 ⟨rfl,hw9⟩;subst w9))
   clear hat
   go_wp2_with (first|(go_at_call 35;(first|(with_reducible refine (q3v _ x name defs H hv hW M1.out).mono ?_)|(with_reducible refine (q3v _ name x defs H hv hW M2.out).mono ?_));clear H;rintro e w ⟨K8,rfl,hle7,H⟩;replace hv:=hv.sat hle7;replace hT:=hT.sat hle7;replace H0:=hle7.trans H0;clear hle7)|(go_at_call 36;(first|(with_reducible refine (x26 x name hT hT8 H M1.out).mono ?_)|(with_reducible refine (x26 name x hT hT8 H M2.out).mono ?_));clear H;rintro e w ⟨K8,rfl,hle7,H⟩;replace hv:=hv.sat hle7;replace hT:=hT.sat hle7;replace H0:=hle7.trans H0;clear hle7)|(go_at_call 37;(first|(with_reducible refine (x27 _ x name defs H hv hW R1.out).mono ?_)|(with_reducible refine (x27 _ name x defs H hv hW R2.out).mono ?_));clear H;rintro e w ⟨K8,rfl,hle7,H⟩;replace hv:=hv.sat hle7;replace hT:=hT.sat hle7;replace H0:=hle7.trans H0;clear hle7)|(go_at_call 38;(first|(with_reducible refine (z5k x name hT hT8 H R1.out).mono ?_)|(with_reducible refine (z5k name x hT hT8 H R2.out).mono ?_));clear H;rintro e w ⟨K8,rfl,hle7,H⟩;replace hv:=hv.sat hle7;replace hT:=hT.sat hle7;replace H0:=hle7.trans H0;clear hle7))
   go_roundw
   case rel=>exact ⟨k+1,_,by omega,by go_num,H0,H⟩
   case measure=>simp [intOf];omega
  ·obtain rfl:k=nl:=by omega
   go_wp2_with fail
   go_ret;exact ⟨rfl,H.bel⟩
end
end Go.Proofs.YtbpgkkoeehopjaaGreat.hp
namespace Go.Proofs.YtbpgkkoeehopjaaGreat.opn
open words tree gram rd dat
set_option maxRecDepth 100000
section
variable {H : Type} {enc : TypeId × Value → H} {w : World} {sp : Nat → Bool} {held : Bool}
abbrev bulk (d:DataW H):Nat:=Rows.uptoBulk d
def Op (enc:TypeId×Value→H) (w:World) (sp:Nat→Bool) (held:Bool) (t:TypeId) {α:Type} (f:α→List Leaf) (N:α→Nat) (Q:α→Prop) (m:Nat):Prop:=
 ∀cs x,DataW.trod enc Tryz.prog w 0 sp held m t cs=some x→bulk x.1≤1048576→ ∃d:α,ReadsL w (Lo w.heap.size) (f d) cs∧N d≤bulk x.1∧Q d
end
end Go.Proofs.YtbpgkkoeehopjaaGreat.opn
namespace Go.Proofs.YtbpgkkoeehopjaaGreat.frame
open Go.ChangeShapes Go.WideShapes Go.ChangeAt Go.RowKit words
section
variable {H : Type} {enc : TypeId × Value → H} {P : Program}
theorem y98 (hl:laidOutB P=true) {W W':World} (hb:Below W.heap.size W W'):
  ∀(ts:List TypeId) (vs:List Value) (ds:List (DataW H)) (ps:List MemPlace),
   (∀t∈ts,P.readableRec t=true∧t<P.types.size)→DataW.TrodAll enc P W 0 (fun _=>true) true ts vs ds ps→(∀x∈ps,x.block<W.heap.size)→
   DataW.TrodAll enc P W' 0 (fun b=>decide (b<W.heap.size)) true ts vs ds ps
 |[],vs,ds,ps,_,h,_=>by obtain ⟨rfl,rfl,rfl⟩:=trodAll_nil h;exact trodAll_mk0
 |t::ts,vs,ds,ps,hr,h,hlt=>by
  obtain ⟨v,vs',d,ds',p,q,rfl,rfl,rfl,h0,h1⟩:=trodAll_cons h
  exact trodAll_cons_mk (Below.trod hl (hr t (by simp)).1 (hr t (by simp)).2 h0 hb (fun x hx=>hlt x (by simp [hx])))
   (y98 hl hb ts vs' ds' q (fun t ht=>hr t (by simp [ht])) h1 (fun x hx=>hlt x (by simp [hx])))
theorem law_post {f:Func} {s:ChangeSpec} {apart handsOn:Bool} {W W':World} {args:Array Value} {ds gs:List (DataW H)} {before:List MemPlace} {bt:TypeId} (hs:s.vars=[])
  (hres:(s.fn H (ds++gs)).results=[.lit (.bool true)]) (hargs:(s.fn H (ds++gs)).args=ds) (hvars:(s.fn H (ds++gs)).vars=[])
  (hl:laidOutB P=true) (hr: ∀t∈f.params.toList,P.readableRec t=true∧t<P.types.size) (hrt:f.resultTypes= #[bt]) (hbt:P.underlying bt=some .bool)
  (hW:DataW.Whole enc P f.params.toList s.vars apart W args.toList ds gs before) (hb:Below W.heap.size W W'):
  s.post enc P f apart true handsOn false W args (.bool true) W':=by
 have hlt: ∀x∈before,x.block<W.heap.size:=fun x hx=>by simpa using hW.lt x hx
 have hW':=hW;obtain ⟨p,q,hA,hV,rfl,_,_⟩:=hW;rw [hs] at hV;obtain ⟨rfl,rfl⟩:=trodVars_none hV;refine ⟨ds,[],p++[],[],p,[],hW',?_,?_,?_,hb.frame _,fun h=>by cases h⟩
 ·rw [hres,hrt];exact trodAll_cons_mk (shut_bool hbt _) trodAll_mk0
 ·rw [hargs];exact y98 hl hb _ _ _ _ hr hA (fun x hx=>hlt x (by simpa using hx))
 ·rw [hvars,hs];rfl
end
end Go.Proofs.YtbpgkkoeehopjaaGreat.frame
