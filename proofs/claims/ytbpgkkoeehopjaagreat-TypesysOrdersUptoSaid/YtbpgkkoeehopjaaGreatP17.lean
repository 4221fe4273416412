/- Proved: it makes no difference where extensions stand among the definitions: all behind, in their order, or all ahead, the same types, fields, schema and roots, but for places (TypesysOrders); conditions: arguments up to the sizes of the Upto form. -/
import Derived.Test.YtbpgkkoeehopjaaGreatP1
import Derived.Test.YtbpgkkoeehopjaaGreatP4
import Derived.Test.YtbpgkkoeehopjaaGreatP5
import Derived.Test.YtbpgkkoeehopjaaGreatP11
import Derived.Test.YtbpgkkoeehopjaaGreatP13
import Derived.Test.YtbpgkkoeehopjaaGreatP14
import Derived.Test.YtbpgkkoeehopjaaGreatP16
import Derived.Test.YtbpgkkoeehopjaaGreatRows
import Derived.ChangeArms
import Derived.ProofKit
import Derived.OpenShut
import Derived.Deep.Matrix
import Derived.SizedLaws
import Derived.WalkKit
import Derived.JoinedCond
set_option linter.unusedVariables false
set_option linter.unusedSimpArgs false
namespace Go.Proofs.YtbpgkkoeehopjaaGreat.lex
open Go.RowKit words enc utf dec ln lines tree gram
theorem q93 {zs w:List Int} {i:Nat} (h:i+1<zs.length):y2v (zs++w) i=y2v zs i:=by
 have h1:ch (zs++w) i=ch zs i:=by unfold ch;rw [List.getD_eq_getElem?_getD,List.getD_eq_getElem?_getD,Qa9 (by omega)]
 have h2:ch (zs++w) (i+1)=ch zs (i+1):=by unfold ch;rw [List.getD_eq_getElem?_getD,List.getD_eq_getElem?_getD,Qa9 h]
 unfold y2v;rw [h1,h2,decide_eq_decide]
 have h3:i+1<(zs++w).length:=by rw [Qae];omega
 constructor
 ·rintro (h4|⟨h4,h5⟩)
  ·exact .inl h4
  ·exact .inr ⟨h4,fun h6=>h5 ⟨h3,h6.2⟩⟩
 ·rintro (h4|⟨h4,h5⟩)
  ·exact .inl h4
  ·exact .inr ⟨h4,fun h6=>h5 ⟨h,h6.2⟩⟩
theorem q7x {zs w:List Int}: ∀{a:Nat},a<zs.length→pl (zs++w) a=pl zs a
 |0,_=>rfl
 |k+1,h=>by
  have ih:=q7x (zs:=zs) (w:=w) (a:=k) (by omega);rw [pl,pl,q93 h,ih]
theorem x5l {zs zs2 u v:List Int} {B B2:Nat} (hB:B≤B2) (hz: ∀a,a<u.length→pl zs2 a=pl zs a) (hl:u.length≤zs2.length) (hu: ∀c∈u,c≠ -2): ∀(f f2 i:Nat) (l:List TokD) (e:TokD) (T2:List TokD),i≤u.length→y6a zs (u++[-2]) B f i=some (l++[e])→e.kind=0→y6a zs2 (u++10::v) B2 f2 i=some T2→ ∃r,T2=l++r
 |0,_,_,_,_,_,_,h,_,_=>by cases h
 |f+1,0,_,_,_,_,_,_,_,h=>by cases h
 |f+1,f2+1,i,l,e,T2,hi,h,he,h2=>by
  have T:=x0w u v;rw [y6a] at h h2
  cases ht:y59 zs (u++[-2]) B i with
  |none=>rw [ht] at h;cases h
  |some t=>
   rw [ht] at h;dsimp only at h
   cases l with
   |nil=>exact ⟨T2,rfl⟩
   |cons x l=>
    by_cases hk:t.kind=0∨t.kind=1
    ·rw [if_pos hk] at h;injection h with h;simp at h
    ·rw [if_neg hk] at h
     obtain ⟨ht2,hst⟩:y59 zs2 (u++10::v) B2 i=some t∧t.stop.toNat≤u.length:=by
      unfold y59 at ht ⊢
      cases ha:behF (u++[-2]) B i with
      |none=>rw [ha] at ht;cases ht
      |some a=>
       rw [ha] at ht;dsimp only at ht;obtain ⟨g1,g2,g3,g4⟩:=z7z T B B2 i a hB hi ha
       cases hr:oneF (u++[-2]) B a with
       |none=>rw [hr] at ht;cases ht
       |some r=>
        rw [hr] at ht;dsimp only at ht;split at ht
        ·rename_i hc;injection ht with ht
         have hkr: ¬(r.2.1=0∨r.2.1=1):=by rw [←ht] at hk;exact hk
         have hlt:a<u.length:=by
          by_cases hlt:a<u.length
          ·exact hlt
          ·exfalso
           have hau:a=u.length:=by omega
           have h3:oneF (u++[-2]) B a=some (a,0,[]):=q2u (by rw [hau];simp);rw [h3] at hr;injection hr with hr;exact hkr (.inl (by rw [←hr]))
         have s1:=q2o (u++[-2]) (k:=a) (by simp;omega) B 0;rw [Nat.add_zero,hr] at s1;obtain ⟨r0,hr0,er⟩:=Option.map_eq_some_iff.1 s1.symm;rw [List.drop_append_of_le_length g1] at hr0
         have hk0:r0.2.1=r.2.1:=by rw [←er]
         obtain ⟨w1,w2⟩:=q2r (u.drop a) v hB hr0 (fun h=>hkr (.inl (by rw [←hk0];exact h))) (fun h=>hkr (.inr (by rw [←hk0];exact h)));rw [Qav] at w1;have s2:=q2o (u++10::v) (k:=a) (by simp;omega) B2 0;rw [Nat.add_zero,List.drop_append_of_le_length g1,w2,Option.map_some,er] at s2
         have hr1:r.1=a+r0.1:=by rw [←er]
         have et:((u++10::v).drop a).take (r.1 - a)=((u++[-2]).drop a).take (r.1 - a):=(T.drop g1).take (by omega);rw [g3 hlt];dsimp only;rw [s2];dsimp only;rw [et,hz a hlt,if_pos ⟨hc.1,by simp;omega,by omega⟩,ht];exact ⟨rfl,by rw [←ht];simp only [Int.toNat_natCast];omega⟩
        ·cases ht
     rw [ht2] at h2;dsimp only at h2;rw [if_neg hk] at h2;split at h
     ·cases h
     ·rename_i hs;rw [if_neg hs] at h2
      cases h3:y6a zs (u++[-2]) B f t.stop.toNat with
      |none=>rw [h3] at h;cases h
      |some l1=>
       rw [h3] at h;dsimp only at h;injection h with h;injection h with h4 h5;subst h4 h5
       cases h6:y6a zs2 (u++10::v) B2 f2 t.stop.toNat with
       |none=>rw [h6] at h2;cases h2
       |some l2=>
        rw [h6] at h2;dsimp only at h2;injection h2 with h2;obtain ⟨r,hr⟩:=x5l hB hz hl hu f f2 t.stop.toNat l e l2 hst h3 he h6;exact ⟨r,by rw [←h2,hr];rfl⟩
theorem x8e {p q:Txt} (hp:(decF p).2=p.length) (hq:(decF q).2=q.length) {tp t:List TokD} {e:TokD} (ep:y1n p=some (tp++[e])) (he:e.kind=0) (et:y1n (p++10::q)=some t): ∃r,t=tp++r:=by
 unfold y1n at ep et;rw [Qa5 hp,z75] at ep;rw [Qa5 (y54 hp hq),z74 hp] at et;dsimp only at et;rw [x47] at et;refine x5l (zs:=(decF p).1) (zs2:=(decF p).1++10::(decF q).1) (u:=(decF p).1.map seen) (v:=y3k (decF q).1 true) (B2:=(p++10::q).length+3) ?_ (fun a ha=>?_) ?_ (fun c hc=>?_) _ _ 0 tp e t (Qak _) ep he et
 ·simp
 ·exact q7x (by rw [Qay] at ha;exact ha)
 ·simp
 ·obtain ⟨x,_,rfl⟩:=Qbe.1 hc;exact x20 x
end Go.Proofs.YtbpgkkoeehopjaaGreat.lex
namespace Go.Proofs.YtbpgkkoeehopjaaGreat.mac
open Go.RowKit lex gram rd tree dat acr tot loc hp
theorem q6y {T:List TokD} {m k:Nat} {t:TokD} (ht:T[k]?=some t) (hr:Runs T m [endT] k 0):t.kind=0:=by
 unfold Runs at hr
 cases m with
 |zero=>cases hr
 |succ m=>
  rw [runF,ht] at hr;dsimp only at hr;rw [if_neg (by decide),show y2a endT=false by decide+kernel,if_neg (by decide)] at hr
  cases hff:y0n endT t with
  |true=>
   have e:(t.kind==0)=true:=hff;simpa using e
  |false=>
   rw [hff,if_pos rfl] at hr;cases hr
abbrev q3k:List Txt:=[[46,115,116,114],[39,115,99,104,101,109,97],[39,115,99,97,108,97,114],[39,116,121,112,101],[39,105,110,116,101,114,102,97,99,101],[39,117,110,105,111,110],[39,101,110,117,109],[39,105,110,112,117,116],[39,100,105,114,101,99,116,105,118,101],[39,101,120,116,101,110,100]]
theorem x3d {T:List TokD} {n k:Nat} (h:Runs T n [y26,endT] k 0): ∃t,T[k]?=some t∧((fits q3k t=true∧t.kind≠0∧ ∃m,Runs T m [nDEF,y26,endT] k 0)∨t.kind=0):=by
 obtain ⟨m1,t,rfl,ht,hA⟩:=x2h h;refine ⟨t,ht,?_⟩;rcases hA with ⟨hF,hr⟩|⟨_,hr⟩
 ·exact .inl ⟨hF,y3j hF (by decide),_,hr⟩
 ·replace hr:Runs T m1 [endT] k 0:=by
   rcases hr with ⟨_,h⟩|⟨_,h⟩<;>exact h
  exact .inr (q6y ht hr)
theorem q6z {T1:List TokD} (hE:TokA T1) {n k:Nat} {t:TokD} (ht:T1[k]?=some t) (hF:fits q3k t=true) (h:Runs T1 n [nDEF,y26,endT] k 0): ∃κ m,k<κ∧(∀i t,k≤i→i<κ→T1[i]?=some t→y0n [36] t=false)∧Runs T1 m [y26,endT] κ 0∧
  ∀(T:List TokD) (o:Nat),(∀i t,k≤i→i<κ→T1[i]?=some t→ ∃t',T[o+i]?=some t'∧t'.kind=t.kind∧t'.text=t.text)→(∃t',T[o+κ]?=some t'∧x0p t')→
   ∀M rest',rest'.length≤2→Runs T M rest' (o+κ) 0→ ∃N,Runs T N (nDEF::rest') (o+k) 0:=by
 have hI: ∀x∈[nDEF],InD x:=fun x hx=>by
  rw [Qax.1 hx];exact ⟨by decide+kernel,by decide,by decide,by decide,by decide⟩
 have hw:(0:Int)+wt [nDEF]=0:=by decide
 obtain ⟨κ,m1,_,h2,h3,h4,h5⟩:=sim hE n [nDEF] k 0 hI (by decide+kernel) h;rw [hw] at h4 h5;exact ⟨κ,m1,h2 nDEF [] t rfl ht hF,h3,h4,h5⟩
theorem pin_at {T1:List TokD} (hE:TokA T1) {n k:Nat} {t:TokD} (ht:T1[k]?=some t) (hF:fits q3k t=true) (h:Runs T1 n [nDEF,y26,endT] k 0) (L f:Nat) (hL:T1.length+2≤L) (h2:200<f): ∃κ m d,k<κ∧κ<T1.length∧Runs T1 m [y26,endT] κ 0∧
  (∀(T:List TokD),(∀i,i<κ→T[i]?=T1[i]?)→(∃t,T[κ]?=some t∧Go.Proofs.YtbpgkkoeehopjaaGreat.loc.Calm t)→defF T L f k=some (d,κ))∧
  ∀(T:List TokD) (o:Nat),(∀i t,k≤i→i<κ→T1[i]?=some t→ ∃t',T[o+i]?=some t'∧t'.kind=t.kind∧t'.text=t.text)→(∃t',T[o+κ]?=some t'∧x0p t')→
   ∀M rest',rest'.length≤2→Runs T M rest' (o+κ) 0→ ∃N,Runs T N (nDEF::rest') (o+k) 0:=by
 obtain ⟨κ,m,h0,hd,hR,hT⟩:=q6z hE ht hF h;obtain ⟨t,ht⟩:=hR.tok;have hk:κ<T1.length:=(Qac.1 ht).1;have hmu:=q7v hk;have hA:=cut_A hE hk;have hend:Runs (cutT T1 κ) 1 [] (κ+1) (0+y06 [36]):=rfl;have h1:Runs (cutT T1 κ) 2 [[36]] κ 0:=x0r (by decide+kernel) (by decide+kernel) hmu (by decide) (by decide) (by rw [y34 hk];omega) hend;obtain ⟨N,hN⟩:=hT (cutT T1 κ) 0 (fun i t _ hi h=>⟨t,by rw [Nat.zero_add,z8d hk hi];exact h,rfl,rfl⟩) ⟨muT,by rw [Nat.zero_add];exact hmu,.inr (.inl ⟨rfl,rfl⟩)⟩ 2 [[36]] (by decide) (by rw [Nat.zero_add];exact h1);rw [Nat.zero_add] at hN;obtain ⟨⟨d,k',m2,e,hr,_,hge⟩,_⟩:=q25 hA L (by rw [y34 hk];omega) f h2 hN
 have hk':k'=κ:=by
  obtain ⟨t',ht',hf⟩: ∃t',(cutT T1 κ)[k']?=some t'∧y0n [36] t'=true:=by
   obtain ⟨t',ht'⟩:=hr.tok;refine ⟨t',ht',?_⟩
   cases hff:y0n [36] t' with
   |true=>rfl
   |false=>
    unfold Runs at hr
    cases m2 with
    |zero=>cases hr
    |succ m2=>
     rw [runF,ht'] at hr;dsimp only at hr;rw [if_neg (by decide),show y2a [36]=false by decide+kernel,if_neg (by decide),hff,if_pos rfl] at hr;cases hr
  have hl:=(Qac.1 ht').1;rw [y34 hk] at hl;by_cases h5:k'<κ
  ·rw [z8d hk h5] at ht';rw [hd k' t' (by omega) h5 ht'] at hf;cases hf
  ·by_cases h6:k'=κ
   ·exact h6
   ·have h7:k'=κ+1:=by omega
    subst h7;rw [q7w hk] at ht';injection ht' with ht';subst ht';exact absurd hf (by decide)
 subst hk';refine ⟨k',m,d,h0,hk,hR,fun T hg hC=>?_,hT⟩;have R:Go.Proofs.YtbpgkkoeehopjaaGreat.loc.Loc (cutT T1 k') T k':=⟨fun i hi=>by rw [hg i hi,z8d hk hi],fun t ht=>by rw [hmu] at ht;injection ht with ht;subst ht;exact q9z,hC,by rw [y34 hk];omega⟩;exact (def_lo R k d k' e).2 (Qab _)
theorem q7y {T1 tq:List TokD} (hE:TokA T1) (hQ: ∀(k:Nat) t,tq[k]?=some t→TokW t) {κe:Nat} (hκ:κe+1=T1.length) {L f:Nat} (hL:T1.length+2≤L) (h2:200<f) {mq:Nat} (hR:Runs (T1.take κe++tq) mq [y26,endT] κe 0)
  {es:List DefD} {fq:Nat} (hes:y1f (T1.take κe++tq) L f fq κe=some es): ∀(ds:List DefD) (n k fu:Nat),Runs T1 n [y26,endT] k 0→y1f T1 L f fu k=some ds→
   ∃N fu',Runs (T1.take κe++tq) N [y26,endT] k 0∧y1f (T1.take κe++tq) L f fu' k=some (ds++es)
 |[],n,k,fu,h,hd=>by
  obtain ⟨e,he,hz⟩:=go_nil hd
  obtain rfl:k=κe:=by have:=(hE.ends k e he).1 (.inl hz);omega
  exact ⟨mq,fq,hR,hes⟩
 |d::ds,n,k,0,h,hd=>by cases hd
 |d::ds,n,k,fu+1,h,hd=>by
  rw [y1f] at hd;obtain ⟨t,ht,hd⟩:=Qag.1 hd;split at hd
  ·cases hd
  ·rename_i hz;obtain ⟨t',ht',hA⟩:=x3d h;rw [ht] at ht';injection ht' with ht';subst ht';obtain ⟨hF,_,m,h1⟩:=hA.resolve_right hz;obtain ⟨κ,m2,d0,hlt,hk,hR2,hdef,hT⟩:=pin_at hE ht hF h1 L f hL h2;have hb:=q3b hR2;have e0:=hdef T1 (fun _ _=>rfl) (by obtain ⟨u,hu,hc⟩:=hb;exact ⟨u,hu,q3a (hE.wf _ _ hu) hc⟩);rw [e0,Option.bind_some] at hd;obtain ⟨r,hr,hd⟩:=Qag.1 hd;injection hd with hd;injection hd with hd1 hd2;subst hd1 hd2;obtain ⟨N,fu',hN,hgo⟩:=q7y hE hQ hκ hL h2 hR hes r m2 κ fu hR2 hr
   have hsame: ∀i,i<κ→(T1.take κe++tq)[i]?=T1[i]?:=fun i hi=>by
    rw [Qa9 (by rw [Qau];omega),List.getElem?_take_of_lt (by omega)]
   obtain ⟨u,hu,hc⟩:=q3b hN
   have hW:TokW u:=by
    by_cases h5:κ<κe
    ·rw [Qa9 (by rw [Qau];omega),List.getElem?_take_of_lt h5] at hu;exact hE.wf _ _ hu
    ·rw [Qba (by rw [Qau];omega)] at hu;exact hQ _ _ hu
   have e1:=hdef (T1.take κe++tq) hsame ⟨u,hu,q3a hW hc⟩;obtain ⟨N2,hN2⟩:=hT (T1.take κe++tq) 0 (fun i x _ hi hx=>⟨x,by rw [Nat.zero_add,hsame i hi];exact hx,rfl,rfl⟩) ⟨u,by rw [Nat.zero_add];exact hu,hc⟩ N [y26,endT] (Qab _) (by rw [Nat.zero_add];exact hN);rw [Nat.zero_add] at hN2
   have htk:(T1.take κe++tq)[k]?=some t:=by rw [hsame k hlt];exact ht
   refine ⟨N2+1,fu'+1,y6l z2y (by decide+kernel) (by decide+kernel) htk (c:=[nDEF,y26]) (.inl ?_) (by decide) hN2,?_⟩
   ·rw [pick,if_pos hF]
   ·rw [y1f,htk,Option.bind_some,if_neg hz,e1,Option.bind_some,hgo];rfl
theorem x5m {T:List TokD} {L f:Nat}: ∀{fu1 fu2 k:Nat} {a b:List DefD},y1f T L f fu1 k=some a→y1f T L f fu2 k=some b→a=b
 |0,_,_,_,_,h,_=>by cases h
 |_+1,0,_,_,_,_,h=>by cases h
 |fu1+1,fu2+1,k,a,b,h1,h2=>by
  rw [y1f] at h1 h2;obtain ⟨t,ht,h1⟩:=Qag.1 h1;rw [ht,Option.bind_some] at h2;split at h1
  ·rename_i hz;rw [if_pos hz] at h2;rw [←Option.some.inj h1,←Option.some.inj h2]
  ·rename_i hz;rw [if_neg hz] at h2;obtain ⟨q,hq,h1⟩:=Qag.1 h1;rw [hq,Option.bind_some] at h2;obtain ⟨r,hr,h1⟩:=Qag.1 h1;obtain ⟨s,hs,h2⟩:=Qag.1 h2;rw [←Option.some.inj h1,←Option.some.inj h2,x5m hr hs]
theorem x5n {toks T:List TokD} {o L f:Nat} (R:Kin toks T o): ∀{fu k:Nat} {a:List DefD},y1f toks L f fu k=some a→ ∃b,y1f T L f fu (o+k)=some b∧y07 (y37 false) a b=true
 |0,_,_,h=>by cases h
 |fu+1,k,a,h=>by
  rw [y1f] at h;obtain ⟨t,ht,h⟩:=Qag.1 h;obtain ⟨t',ht',h1,h2,h3⟩:=R.get _ _ ht;rw [y1f,ht',Option.bind_some,h1];split at h
  ·rename_i hz;rw [if_pos hz,←Option.some.inj h];exact ⟨[],rfl,rfl⟩
  ·rename_i hz;rw [if_neg hz];obtain ⟨⟨d,k'⟩,hq,h⟩:=Qag.1 h;obtain ⟨r,hr,h⟩:=Qag.1 h;obtain ⟨d',hd',he⟩:=q91 R k d k' hq;obtain ⟨b,hb,hb2⟩:=x5n R hr;rw [hd',Option.bind_some];dsimp only;rw [hb,Option.bind_some,←Option.some.inj h];exact ⟨_,rfl,by rw [y07,he,hb2];rfl⟩
theorem x3e {T:List TokD}: ∀{n m:Nat} {st:List Txt} {k:Nat} {op:Int} {r:Int×Int×Int},Runs T n st k op→runF rulesG nfG bfG T 200 m st k op=some r→r=(0,0,0)
 |0,_,_,_,_,_,h,_=>by cases h
 |_+1,0,_,_,_,_,_,h=>by cases h
 |n+1,m+1,[],k,op,r,h1,h2=>by
  rw [runF] at h2;exact (Option.some.inj h2).symm
 |n+1,m+1,s::st,k,op,r,h1,h2=>by
  unfold Runs at h1;rw [runF] at h1 h2
  cases ht:T[k]? with
  |none=>rw [ht] at h1;cases h1
  |some t=>
   rw [ht] at h1 h2;dsimp only at h1 h2;split at h1
   ·cases h1
   ·rename_i h0;rw [if_neg h0] at h2;split at h1
    ·rename_i hr;rw [if_pos hr] at h2
     cases hc:y5g rulesG nfG bfG t s with
     |none=>rw [hc] at h1;cases h1
     |some p=>
      obtain ⟨c,b⟩:=p;rw [hc] at h1 h2
      cases b with
      |false=>cases h1
      |true=>
       dsimp only at h1 h2;split at h1
       ·cases h1
       ·rename_i h3;rw [if_neg h3] at h2;exact x3e h1 h2
    ·rename_i hr;rw [if_neg hr] at h2;split at h1
     ·cases h1
     ·rename_i h3;rw [if_neg h3] at h2;split at h1
      ·cases h1
      ·rename_i h4;rw [if_neg h4] at h2;exact x3e h1 h2
structure Reads (src:Txt) (ds:List DefD):Prop where
 clean:(Go.Proofs.YtbpgkkoeehopjaaGreat.utf.decF src).2=src.length
 ex: ∃T n,y1n src=some T∧TokA T∧Runs T n [y26,endT] 0 0∧y1f T 3000000 300 3000000 0=some ds
theorem Reads.of {src:Txt} (hlen:src.length≤2200000) (h:y4u src≠[]):Reads src (y4u src):=by
 obtain ⟨T1,e1,hA,hl,⟨hr,hd,_⟩|⟨_,_,_,_,_,h0⟩⟩:=Go.Proofs.YtbpgkkoeehopjaaGreat.hp.read_cases src hlen
 ·obtain ⟨e,he,hz⟩:=z8b _ _ _ hd;have hc:=q6h e1 he hz;obtain ⟨m,t,_,ht,hA2⟩:=q7e (show Runs T1 800000000 [nDOC] 0 0 from hr);rcases hA2 with ⟨hF,h1⟩|⟨_,h1⟩
  ·exact ⟨hc,T1,m+1,e1,hA,y6l z2y (by decide+kernel) (by decide+kernel) ht (c:=[nDEF,y26]) (.inl (by rw [pick,if_pos hF])) (by decide) h1,hd⟩
  ·exact h1.elim
 ·exact absurd h0 h
theorem Reads.none:Reads [] []:=by
 have e:y1n []=some [epT]∨True:=.inr trivial;obtain ⟨T,e1,hA,h1,h2⟩:=y5d [] (Qak _)
 have hl:T.length=1:=by simp only [List.length_nil] at h2;omega
 obtain ⟨t,rfl⟩: ∃t,T=[t]:=by
  cases T with
  |nil=>cases hl
  |cons a r=>cases r with
   |nil=>exact ⟨a,rfl⟩
   |cons b s=>simp at hl
 have hk:t.kind=0:=by
  have:(y1n []).map (fun l=>l.map (·.kind))=some [0]:=by decide+kernel
  rw [e1] at this;simpa using this
 have ht:([t]:List TokD)[0]?=some t:=rfl;refine ⟨rfl,[t],3,e1,hA,?_,?_⟩
 ·have hf:y0n endT t=true:=by
   have:y0n endT t=(t.kind==0):=rfl;rw [this,hk];rfl
  have hno:fits q3k t=false:=by
   cases h:fits q3k t with
   |false=>rfl
   |true=>exact absurd hk (y3j h (by decide))
  refine y6l z2y (by decide+kernel) (by decide+kernel) ht (c:=[]) (.inr ⟨?_,rfl,rfl⟩) (by decide) ?_
  ·rw [pick,if_neg (by rw [hno];decide),pick,if_neg (by simp [fits]),pick]
  ·show Runs [t] 2 [endT] 0 0
   unfold Runs;rw [runF,ht];dsimp only;rw [if_neg (by decide),show y2a endT=false by decide+kernel,if_neg (by decide),hf,if_neg (by decide),if_neg (by decide)];rfl
 ·rw [show (3000000:Nat)=2999999+1 from rfl,y1f,ht,Option.bind_some,if_pos hk]
theorem q94 {l t:List TokD} (h:t.map keyT=l.map keyT):Kin l t 0 where
 len:=by have:=congrArg List.length h;simp only [Qay] at this;omega
 get:=fun k x hx=>by
  have:=congrArg (·[k]?) h;simp only [Qbz,hx,Option.map_some] at this;obtain ⟨y,hy,e⟩:=Option.map_eq_some_iff.1 this;unfold keyT at e;injection e with e1 e;injection e with e2 e3;exact ⟨y,by rw [Nat.zero_add];exact hy,e1,e2,e3⟩
theorem Reads.cat {p q:Txt} (hlen:(p++10::q).length≤2200000) {ds es:List DefD} (hp:Reads p ds) (hq:Reads q es): ∃fs,Reads (p++10::q) (ds++fs)∧y07 (y37 false) es fs=true:=by
 obtain ⟨T1,n1,e1,A1,R1,d1⟩:=hp.ex;obtain ⟨tq,nq,eq,Aq,Rq,dq⟩:=hq.ex;obtain ⟨e,he,hz⟩:=z8b _ _ _ d1;obtain ⟨κe,hκ⟩:=Qaq he;have hκ2:κe+1=T1.length:=(A1.ends κe e hκ).1 (.inl hz)
 have hsplit:T1=T1.take κe++[e]:=by
  have h1:=y1l hκ;rw [Qaj (by omega)] at h1;exact h1
 rw [hsplit] at e1;obtain ⟨T,eT,AT,hkeys⟩:=q6o hlen hp.clean hq.clean e1 hz eq;obtain ⟨r,hr⟩:=x8e hp.clean hq.clean e1 hz eT;subst hr;rw [Qas] at hkeys;have K:=q94 (List.append_cancel_left hkeys)
 have hlenp:(p++10::q).length=p.length+(q.length+1):=by simp
 have hT1:T1.length≤p.length+1:=by
  obtain ⟨T',e',_,_,h'⟩:=y5d p (by omega);rw [hsplit,←Option.some.inj (e'.symm.trans e1)];exact h'
 have htk:(T1.take κe).length=κe:=by rw [Qau];omega
 have hsh:Kin tq (T1.take κe++r) κe:=⟨by have:=K.len;rw [Qae,htk];omega,fun k t h=>by
  obtain ⟨t',h1,h2⟩:=K.get k t h;rw [Nat.zero_add] at h1
  exact ⟨t',by rw [Qba (by omega),htk,Nat.add_sub_cancel_left];exact h1,h2⟩⟩
 have Rsh:Runs (T1.take κe++r) nq [y26,endT] (κe+0) 0:=z8e hsh.len (fun i t h=>by obtain ⟨t',h1,h2,h3,_⟩:=hsh.get i t h;exact ⟨t',h1,h2,h3⟩) _ _ _ _ Rq;obtain ⟨es',hes,hee⟩:=x5n hsh dq;obtain ⟨N,fu,RN,dN⟩:=q7y A1 (fun k t h=>AT.wf (κe+k) t (by rw [Qba (by omega),htk,Nat.add_sub_cancel_left];exact h)) hκ2 (L:=3000000) (f:=300) (by omega) (by decide) Rsh hes ds n1 0 3000000 R1 d1
 have hTl:(T1.take κe++r).length≤(p++10::q).length+1:=by
  obtain ⟨T',e',_,_,h'⟩:=y5d (p++10::q) hlen;rw [←Option.some.inj (e'.symm.trans eT)];exact h'
 obtain ⟨gs,hgs,_⟩:=(x5e AT 3000000 (by omega) 300 (by decide) N).1 0 3000000 RN (by omega);have hgf:=x5m hgs dN;subst hgf;exact ⟨es',⟨y54 hp.clean hq.clean,_,N,eT,AT,RN,hgs⟩,hee⟩
theorem Reads.read {src:Txt} (hlen:src.length≤2200000) {ds:List DefD} (h:Reads src ds):y4u src=ds:=by
 obtain ⟨T,n,e,A,R,d⟩:=h.ex;obtain ⟨T1,e1,hA,hl,hc⟩:=Go.Proofs.YtbpgkkoeehopjaaGreat.hp.read_cases src hlen;rw [e] at e1;obtain rfl:=Option.some.inj e1;rcases hc with ⟨hr,hd,_⟩|⟨er,p1,p2,he,hr,h0⟩
 ·exact x5m hd d
 ·obtain ⟨t,ht,⟨hF,_,m,h1⟩|hz⟩:=x3d R
  ·have hdoc:Runs T (m+1) [nDOC] 0 0:=y6l q1g (by decide+kernel) (by decide+kernel) ht (c:=[nDEF,y26,endT]) (.inl (by rw [pick,if_pos hF])) (by decide) h1;have:=x3e hdoc hr;injection this with this;exact absurd this he
  ·rw [h0];refine x5m (fu1:=1) (k:=0) (L:=3000000) (f:=300) (T:=T) ?_ d;rw [y1f,ht,Option.bind_some,if_pos hz]
end Go.Proofs.YtbpgkkoeehopjaaGreat.mac
namespace Go.Proofs.YtbpgkkoeehopjaaGreat.ty
open Go.RowKit lex gram rd tree dat hp
abbrev erD (l:List DefD):List DefD:=l.map y1e
theorem y8z (l:List DefD):y0a (erD l)=y0a l:=by
 simp only [y0a,erD,List.map_map];exact List.map_congr_left fun d _=>rfl
theorem x3f (l:List DefD) (d:DefD):addD (erD l) (y1e d)=erD (addD l d):=by
 unfold addD;rw [y8z];have:(y1e d).name=d.name:=rfl;rw [this];split
 ·rfl
 ·simp [erD]
theorem z8j: ∀(g l:List DefD),(erD g).foldl addD (erD l)=erD (g.foldl addD l)
 |[],l=>rfl
 |d::r,l=>by
  have:=z8j r (addD l d);rw [←x3f] at this;exact this
theorem q3l:erD givenT=givenT:=by kernel_rfl
theorem q3m:erD givenDirsD=givenDirsD:=by kernel_rfl
theorem q60 (p:List DefD×List DefD) (d:DefD):y2e (erD p.1,erD p.2) (y1e d)=(erD (y2e p d).1,erD (y2e p d).2):=by
 have hk:(y1e d).kind=d.kind:=rfl;have hx:(y1e d).ext=d.ext:=rfl;have hn:(y1e d).name=d.name:=rfl;unfold y2e;simp only [IsTy,hk,hx,hn];split
 ·split
  ·rfl
  ·rw [x3f]
 ·split
  ·split
   ·rfl
   ·rw [x3f]
  ·rfl
theorem x3g: ∀(l:List DefD) (p:List DefD×List DefD),(erD l).foldl y2e (erD p.1,erD p.2)=(erD (l.foldl y2e p).1,erD (l.foldl y2e p).2)
 |[],p=>rfl
 |d::r,p=>by
  have:=x3g r (y2e p d);rw [←q60] at this;exact this
theorem q3n (l:List DefD):y2z (erD l)=erD (y2z l):=by
 have h:bare (erD l)=(erD (bare l).1,erD (bare l).2):=x3g l ([],[]);unfold y2z;rw [h,←z8j,q3l]
theorem x02 (l:List DefD):y2r (erD l)=erD (y2r l):=by
 have h:bare (erD l)=(erD (bare l).1,erD (bare l).2):=x3g l ([],[]);unfold y2r;rw [h,←z8j,q3m]
theorem z8k (l:List DefD) (x:Txt):y1y (erD l) x=y1y l x:=by unfold y1y;rw [y8z]
theorem q61 (e d:DefD):y1h (y1e e) (y1e d)=y1e (y1h e d):=by
 simp [y1h,y1e]
theorem q62 (l:List DefD) (d:DefD):step2 (erD l) (y1e d)=erD (step2 l d):=by
 have hk:(y1e d).kind=d.kind:=rfl;have hx:(y1e d).ext=d.ext:=rfl;have hn:(y1e d).name=d.name:=rfl;unfold step2;simp only [hk,hx,hn,z8k]
 cases y1y l d.name with
 |none=>rfl
 |some i=>
  simp only [erD,Qbz]
  cases l[i]? with
  |none=>rfl
  |some e=>
   have hk2:(y1e e).kind=e.kind:=rfl;simp only [Option.map_some,hk2];split
   ·rw [q61,List.map_set]
   ·rfl
theorem x03: ∀(l t:List DefD),(erD l).foldl step2 (erD t)=erD (l.foldl step2 t)
 |[],t=>rfl
 |d::r,t=>by
  have:=x03 r (step2 t d);rw [←q62] at this;exact this
theorem z6o (l:List DefD):y0q (erD l)=erD (y0q l):=by
 unfold y0q;rw [q3n,x03]
theorem z05 (l:List DefD) (x:Txt):y0j (erD l) x=y0j l x:=by
 unfold y0j;rw [z8k]
 cases y1y l x with
 |none=>rfl
 |some i=>
  simp only [Option.bind_some,erD,Qbz,Option.map_map];rfl
theorem x8f (l:List DefD):y39 (erD l)=y39 l:=by
 unfold y39;simp only [z05]
theorem x8g (s d:DefD):y13 (y1e s) (y1e d)=y1e (y13 s d):=by
 have hk:(y1e d).kind=d.kind:=rfl;have hx:(y1e d).ext=d.ext:=rfl;unfold y13;simp only [hk,hx];split
 ·simp [y1e]
 ·rfl
theorem q3o: ∀(l:List DefD) (s:DefD),(erD l).foldl y13 (y1e s)=y1e (l.foldl y13 s)
 |[],s=>rfl
 |d::r,s=>by
  have:=q3o r (y13 s d);rw [←x8g] at this;exact this
theorem q63 (l:List DefD):(y39 l).map x01=y39 l:=by
 unfold y39;rw [List.map_map];exact List.map_congr_left fun p _=>rfl
theorem z5b (l ts:List DefD):y1w (erD l) (erD ts)=y1e (y1w l ts):=by
 unfold y1w
 have h:(erD l).find? y1q=(l.find? y1q).map y1e:=by
  rw [erD,List.find?_map];rfl
 rw [h]
 cases l.find? y1q with
 |none=>
  simp only [Option.map_none,x8f];have:=q63 ts;simp [y1e,y5c,this]
 |some d=>
  simp only [Option.map_some];exact q3o l d
theorem z2g (ts:List DefD):y11 (erD ts)=y11 ts:=by
 have hz:(erD ts).zipIdx=ts.zipIdx.map fun p=>(y1e p.1,p.2):=by
  simp [erD,List.zipIdx_map,Prod.map]
 unfold y11;rw [hz,List.foldl_map]
 congr 1
 funext m p
 have hk:(y1e p.1).kind=p.1.kind:=rfl;have hn:(y1e p.1).name=p.1.name:=rfl;have hi:(y1e p.1).ifaces=p.1.ifaces.map y5p:=rfl
 have hm:(y1e p.1).members.zipIdx=p.1.members.zipIdx.map fun q=>(y5p q.1,q.2):=by
  simp [y1e,List.zipIdx_map,Prod.map]
 unfold y4a;simp only [hk,hn,hi,hm,List.foldl_map,z05];rfl
structure SameT (a b:TysD):Prop where
 types:erD a.types=erD b.types
 dirs:erD a.dirs=erD b.dirs
 schema:y1e a.schema=y1e b.schema
 objects:a.objects=b.objects
theorem SameT.of {a b:List DefD} (h:erD a=erD b):SameT (y05 a) (y05 b):=by
 have ht:erD (y0q a)=erD (y0q b):=by rw [←z6o,←z6o,h]
 refine ⟨ht,?_,?_,?_⟩
 ·show erD (y2r a)=erD (y2r b)
  rw [←x02,←x02,h]
 ·show y1e (y1w a (y0q a))=y1e (y1w b (y0q b))
  rw [←z5b,←z5b,h,ht]
 ·show y11 (y0q a)=y11 (y0q b)
  rw [←z2g,←z2g (y0q b),ht]
theorem SameT.trans {a b c:TysD} (h:SameT a b) (h2:SameT b c):SameT a c:=⟨h.types.trans h2.types,h.dirs.trans h2.dirs,h.schema.trans h2.schema,h.objects.trans h2.objects⟩
theorem SameT.symm {a b:TysD} (h:SameT a b):SameT b a:=⟨h.types.symm,h.dirs.symm,h.schema.symm,h.objects.symm⟩
theorem y5v {α β:Type} {f:β→α→β} {p:α→Bool}: ∀(l:List α),(∀a∈l,p a=false→ ∀b,f b a=b)→ ∀b,l.foldl f b=(l.filter p).foldl f b
 |[],_,b=>rfl
 |a::r,h,b=>by
  have ih:=y5v (f:=f) (p:=p) r (fun x hx=>h x (Qa2 _ hx));rw [List.foldl_cons,List.filter_cons]
  cases hp:p a with
  |true=>rw [if_pos rfl,List.foldl_cons];exact ih _
  |false=>rw [if_neg (by decide),h a (Qaz ..) hp b];exact ih _
def Ex8 (d:DefD):Prop:=d.ext=true→d.kind≠8
abbrev x04 (l:List DefD):List DefD:=l.filter fun d=> !d.ext
abbrev exts (l:List DefD):List DefD:=l.filter fun d=>d.ext
theorem q3p {d:DefD} (h:Ex8 d) (hx:d.ext=true) (p:List DefD×List DefD):y2e p d=p:=by
 unfold y2e;rw [if_neg (h hx),if_neg (by rintro ⟨_,_,h3⟩;rw [hx] at h3;cases h3)]
theorem z7k {d:DefD} (hx:d.ext=false) (l:List DefD):step2 l d=l:=by
 unfold step2;split
 ·rfl
 ·split
  ·rfl
  ·rw [if_neg (by rintro ⟨h,_⟩;rw [hx] at h;cases h)]
theorem sch_no {d:DefD} (hx:d.ext=false) (s:DefD):y13 s d=s:=by
 unfold y13;rw [if_neg (by rintro ⟨_,h⟩;rw [hx] at h;cases h)]
theorem y90 {α:Type} {p q:α→Bool} (h: ∀a,q a=false→p a=false): ∀l:List α,l.find? p=(l.filter q).find? p
 |[]=>rfl
 |a::r=>by
  have ih:=y90 h r;rw [List.filter_cons]
  cases hq:q a with
  |true=>rw [if_pos rfl,List.find?_cons,List.find?_cons,ih]
  |false=>rw [if_neg (by decide),List.find?_cons,h a hq];exact ih
theorem z5c {a b:List DefD} (ha: ∀d∈a,Ex8 d) (hb: ∀d∈b,Ex8 d) (h1:x04 a=x04 b) (h2:exts a=exts b):y05 a=y05 b:=by
 have h1':a.filter (fun d=> !d.ext)=b.filter (fun d=> !d.ext):=h1;have h2':a.filter (fun d=>d.ext)=b.filter (fun d=>d.ext):=h2
 have hbare: ∀{l:List DefD},(∀d∈l,Ex8 d)→bare l=bare (l.filter fun d=> !d.ext):=fun {l} h=>
  y5v (f:=y2e) (p:=fun d:DefD=> !d.ext) l (fun d hd hp p=>q3p (h d hd) (by simpa using hp) p) ([],[])
 have e1:bare a=bare b:=by rw [hbare ha,hbare hb,h1']
 have e2:y2z a=y2z b:=by unfold y2z;rw [e1]
 have f2: ∀(l t:List DefD),l.foldl step2 t=(l.filter fun d=>d.ext).foldl step2 t:=fun l t=>y5v (f:=step2) (p:=fun d:DefD=>d.ext) l (fun d _ hp t=>z7k hp t) t;have f3: ∀(l:List DefD) (t:DefD),l.foldl y13 t=(l.filter fun d=>d.ext).foldl y13 t:=fun l t=>y5v (f:=y13) (p:=fun d:DefD=>d.ext) l (fun d _ hp t=>sch_no hp t) t
 have ht:y0q a=y0q b:=by
  unfold y0q;rw [e2,f2 a,f2 b,h2']
 have hf: ∀d:DefD,(!d.ext)=false→y1q d=false:=fun d h=>by
  unfold y1q;rw [h,Bool.and_false]
 have hfd:a.find? y1q=b.find? y1q:=by
  rw [y90 (q:=fun d:DefD=> !d.ext) hf a,y90 (q:=fun d:DefD=> !d.ext) hf b,h1']
 have hs: ∀ts,y1w a ts=y1w b ts:=fun ts=>by
  unfold y1w;rw [hfd]
  cases b.find? y1q with
  |none=>rfl
  |some d=>
   dsimp only;rw [f3 a,f3 b,h2']
 have hd:y2r a=y2r b:=by unfold y2r;rw [e1]
 unfold y05;rw [hs,ht,hd]
theorem x05 {a:List DefD} (ha: ∀d∈a,Ex8 d):y05 (x04 a++exts a)=y05 a:=by
 refine z5c (fun d hd=>?_) ha ?_ ?_
 ·rcases Qbf.1 hd with h|h<;>exact ha d (List.mem_filter.1 h).1
 ·rw [x04,List.filter_append,List.filter_filter,List.filter_filter];rw [show (a.filter fun d=>(!d.ext&&d.ext))=[] by rw [List.filter_eq_nil_iff];simp];simp
 ·rw [exts,List.filter_append,List.filter_filter,List.filter_filter];rw [show (a.filter fun d=>(d.ext&& !d.ext))=[] by rw [List.filter_eq_nil_iff];simp];simp
theorem x3h {a:List DefD} (ha: ∀d∈a,Ex8 d):y05 (exts a++x04 a)=y05 a:=by
 refine z5c (fun d hd=>?_) ha ?_ ?_
 ·rcases Qbf.1 hd with h|h<;>exact ha d (List.mem_filter.1 h).1
 ·rw [x04,List.filter_append,List.filter_filter,List.filter_filter];rw [show (a.filter fun d=>(!d.ext&&d.ext))=[] by rw [List.filter_eq_nil_iff];simp];simp
 ·rw [exts,List.filter_append,List.filter_filter,List.filter_filter];rw [show (a.filter fun d=>(d.ext&& !d.ext))=[] by rw [List.filter_eq_nil_iff];simp];simp
end Go.Proofs.YtbpgkkoeehopjaaGreat.ty
namespace Go.Proofs.YtbpgkkoeehopjaaGreat.mac
open Go.RowKit lex gram rd tree dat acr tot hp ty
theorem q95 {toks:List TokD} {L f:Nat} {h:NoteD×Bool×TokD×Nat} {q:DefD×Nat} (hb:y3v toks L f h=some q):(q.1.kind=8→y43 h.2.2.1.text=8)∧q.1.ext=h.2.1:=by
 unfold y3v at hb;split at hb
 ·simp only [y3c,Qag] at hb;obtain ⟨_,_,_,_,hq⟩:=hb;injection hq with hq;subst hq;exact ⟨fun h=>by simp at h,rfl⟩
 ·simp only [y3d,Qag] at hb;obtain ⟨_,_,_,_,hq⟩:=hb;injection hq with hq;subst hq;exact ⟨fun h=>by simp at h,rfl⟩
 ·simp only [y2d,Qag] at hb;obtain ⟨_,_,_,_,_,_,_,_,hq⟩:=hb;injection hq with hq;subst hq;exact ⟨fun h=>by simp at h,rfl⟩
 ·simp only [y2d,Qag] at hb;obtain ⟨_,_,_,_,_,_,_,_,hq⟩:=hb;injection hq with hq;subst hq;exact ⟨fun h=>by simp at h,rfl⟩
 ·simp only [y5h,Qag] at hb;obtain ⟨_,_,_,_,_,_,hq⟩:=hb;injection hq with hq;subst hq;exact ⟨fun h=>by simp at h,rfl⟩
 ·simp only [y9k,Qag] at hb;obtain ⟨_,_,_,_,_,_,hq⟩:=hb;injection hq with hq;subst hq;exact ⟨fun h=>by simp at h,rfl⟩
 ·simp only [y5i,Qag] at hb;obtain ⟨_,_,_,_,_,_,hq⟩:=hb;injection hq with hq;subst hq;exact ⟨fun h=>by simp at h,rfl⟩
 ·rename_i h8;simp only [dirF,Qag] at hb;obtain ⟨_,_,_,_,_,_,_,_,_,_,_,_,hq⟩:=hb;injection hq with hq;subst hq;exact ⟨fun _=>h8,rfl⟩
 ·cases hb
theorem y7g {w:Txt} {t:TokD} (hw:(39::w:Txt)≠[46,110,97,109,101]) (h:fits [39::w] t=true):t.text=w:=by
 rw [fit1] at h
 have e:y0n (39::w) t=((t.kind==3)&&decide (t.text=w)):=by simp [y0n]
 rw [e] at h;simp only [Qao,decide_eq_true_eq] at h;exact h.2
theorem q96 {toks:List TokD} (hE:TokA toks) {n:Nat} {rest:List Txt} {k:Nat} (h:Runs toks n (nDEF::rest) k 0) (L f:Nat) (hL:toks.length≤L) (h2:200<f) {d:DefD} {k':Nat} (e:defF toks L f k=some (d,k')):Ex8 d:=by
 obtain ⟨m,t,rfl,ht,hA⟩:=q7f h;have hW:=hE.wf _ t ht;unfold defF at e;obtain ⟨hd,e1,e2⟩:=Qag.1 e;obtain ⟨hk,hx⟩:=q95 e2;intro hext h8;replace hk:=hk h8;rw [hx] at hext;unfold y36 at e1;rcases hA with ⟨hF,h⟩|⟨hF0,⟨hF,h⟩|⟨_,⟨hF,h⟩|⟨_,h⟩⟩⟩
 ·obtain ⟨p,m1,en,em,h'⟩:=z00 hE ht h;obtain ⟨t0,ht0⟩:=h'.tok;obtain ⟨_,hx0,_,_⟩:=z23 hE L hL f h2 ht0 (by omega:k≤k+1) p false h';rw [en,Option.bind_some,ht0,Option.bind_some,hx0] at e1;obtain ⟨t1,_,e1⟩:=Qag.1 e1;rw [←Option.some.inj e1] at hext;cases hext
 ·obtain ⟨_,hx0,_,_⟩:=z23 hE L hL f h2 ht (Qab k) y7n false h;rw [y4t ht (y2l hF0 (by decide+kernel)),Option.bind_some,ht,Option.bind_some,hx0] at e1;obtain ⟨t1,_,e1⟩:=Qag.1 e1;rw [←Option.some.inj e1] at hext;cases hext
 ·obtain ⟨m1,rfl,hf,hn,hl,h⟩:=h.t0 hE ht
  have hx1:isF t [101,120,116,101,110,100]=true:=by rw [y9x hW (by decide)];exact hf
  obtain ⟨m2,t1,_,ht1,hB⟩:=x4u h;rw [y4t ht (y2l hF0 (by decide+kernel)),Option.bind_some,ht,Option.bind_some,hx1,if_pos rfl,ht1,Option.bind_some] at e1;rw [←Option.some.inj e1] at hk;replace hk:y43 t1.text=8:=hk;rcases hB with ⟨h,_⟩|⟨_,⟨h,_⟩|⟨_,⟨h,_⟩|⟨_,⟨h,_⟩|⟨_,⟨h,_⟩|⟨_,⟨h,_⟩|⟨_,⟨h,_⟩|⟨_,h⟩⟩⟩⟩⟩⟩⟩
  ·rw [y7g (by decide) h] at hk;exact absurd hk (by decide+kernel)
  ·rw [y7g (by decide) h] at hk;exact absurd hk (by decide+kernel)
  ·rw [y7g (by decide) h] at hk;exact absurd hk (by decide+kernel)
  ·rw [y7g (by decide) h] at hk;exact absurd hk (by decide+kernel)
  ·rw [y7g (by decide) h] at hk;exact absurd hk (by decide+kernel)
  ·rw [y7g (by decide) h] at hk;exact absurd hk (by decide+kernel)
  ·rw [y7g (by decide) h] at hk;exact absurd hk (by decide+kernel)
  ·exact h.elim
 ·exact h.elim
theorem q97 {src:Txt} (hlen:src.length≤2200000) {d:DefD} (h:y4u src=[d]):Ex8 d:=by
 obtain ⟨T,n,e,A,R,g⟩:=(Reads.of hlen (by rw [h];simp)).ex;rw [h] at g;obtain ⟨T',e',_,_,hl⟩:=y5d src hlen;rw [e] at e';obtain rfl:=Option.some.inj e';rw [show (3000000:Nat)=2999999+1 from rfl,y1f] at g;obtain ⟨t,ht,g⟩:=Qag.1 g;obtain ⟨t',ht',hA⟩:=x3d R;rw [ht] at ht';obtain rfl:=Option.some.inj ht';split at g
 ·cases g
 ·rename_i hz;obtain ⟨_,_,m,h1⟩:=hA.resolve_right hz;obtain ⟨⟨d',k'⟩,hq,g⟩:=Qag.1 g;obtain ⟨r,_,g⟩:=Qag.1 g;injection g with g;injection g with g1 g2;subst g1;exact q96 A h1 (2999999+1) 300 (by omega) (by decide) hq
def y27:List Txt→Txt
 |[]=>[]
 |p::r=>p++10::y27 r
theorem y6m: ∀a b:List Txt,y27 (a++b)=y27 a++y27 b
 |[],b=>rfl
 |p::r,b=>by simp [y27,y6m r b]
theorem joinT_len: ∀l:List Txt,(y27 l).length=sumN List.length l+l.length
 |[]=>rfl
 |p::r=>by simp only [y27,Qae,List.length_cons,joinT_len r,sumN];omega
def defP (p:Txt):Option DefD:=match y4u p with
 |[d]=>some d
 |_=>none
theorem z06 {p:Txt} {d:DefD}:defP p=some d↔y4u p=[d]:=by
 unfold defP;split
 ·rename_i e;rw [e];simp
 ·rename_i h;constructor
  ·intro h1;cases h1
  ·intro h1;exact absurd h1 (h d)
theorem z2h: ∀(l:List Txt),(y27 l).length≤2200000→(∀p∈l,(defP p).isSome=true)→ ∃fs,Reads (y27 l) fs∧erD fs=erD (l.filterMap defP)
 |[],_,_=>⟨[],Reads.none,rfl⟩
 |p::r,hl,h=>by
  have hl2:p.length+((y27 r).length+1)≤2200000:=by simpa [y27] using hl
  obtain ⟨d,hd⟩:=Option.isSome_iff_exists.1 (h p (Qaz ..));have hp:=z06.1 hd;have R1:=Reads.of (src:=p) (by omega) (by rw [hp];simp);rw [hp] at R1;obtain ⟨fs,R2,e2⟩:=z2h r (by omega) (fun x hx=>h x (Qa2 _ hx));obtain ⟨gs,R3,e3⟩:=R1.cat hl R2;refine ⟨d::gs,R3,?_⟩;rw [List.filterMap_cons,hd];rw [x3c] at e3
  show (d::gs).map y1e=(d::r.filterMap defP).map y1e
  rw [List.map_cons,List.map_cons,←e3,show fs.map y1e=(r.filterMap defP).map y1e from e2]
theorem y91 {l:List Txt} (hl:(y27 l).length≤2200000) (h: ∀p∈l,(defP p).isSome=true):erD (y4u (y27 l))=erD (l.filterMap defP):=by
 obtain ⟨fs,R,e⟩:=z2h l hl h;rw [R.read hl,e]
def isP (p:Txt):Bool:=(defP p).isSome
def extP (p:Txt):Bool:=((defP p).map (·.ext)).getD false
abbrev allP (l:List Txt):List Txt:=l.filter isP
abbrev y2m (l:List Txt):List Txt:=(allP l).filter fun p=> !extP p
abbrev y4z (l:List Txt):List Txt:=(allP l).filter extP
theorem z6p: ∀l:List Txt,(∀p∈l,isP p=true)→(l.filter fun p=> !extP p).filterMap defP=x04 (l.filterMap defP)∧(l.filter extP).filterMap defP=exts (l.filterMap defP)
 |[],_=>⟨rfl,rfl⟩
 |p::r,h=>by
  obtain ⟨d,hd⟩:=Option.isSome_iff_exists.1 (h p (Qaz ..));obtain ⟨h1,h2⟩:=z6p r (fun x hx=>h x (Qa2 _ hx))
  have hx:extP p=d.ext:=by unfold extP;rw [hd];rfl
  rw [List.filter_cons,List.filter_cons,List.filterMap_cons,hd,hx];dsimp only;rw [x04,exts,List.filter_cons,List.filter_cons]
  cases d.ext with
  |true=>exact ⟨h1,by rw [if_pos rfl,if_pos rfl,List.filterMap_cons,hd];exact congrArg _ h2⟩
  |false=>exact ⟨by rw [Bool.not_false,if_pos rfl,if_pos rfl,List.filterMap_cons,hd];exact congrArg _ h1,h2⟩
theorem y6n (f:Txt→Nat) (p:Txt→Bool): ∀l:List Txt,sumN f (l.filter p)+sumN f (l.filter fun x=> !p x)=sumN f l
 |[]=>rfl
 |x::r=>by
  have:=y6n f p r;rw [List.filter_cons,List.filter_cons]
  cases p x<;>simp only [Bool.not_true,Bool.not_false,if_true,Bool.false_eq_true,if_false,sumN]<;>omega
theorem y6o (p:Txt→Bool): ∀l:List Txt,(l.filter p).length+(l.filter fun x=> !p x).length=l.length
 |[]=>rfl
 |x::r=>by
  have:=y6o p r;rw [List.filter_cons,List.filter_cons]
  cases p x<;>simp only [Bool.not_true,Bool.not_false,if_true,Bool.false_eq_true,if_false,List.length_cons]<;>omega
theorem q3q (l:List Txt):(y27 (allP l)).length≤(y27 l).length∧(y27 (y2m l)).length+(y27 (y4z l)).length=(y27 (allP l)).length:=by
 have s1:sumN List.length (allP l)+sumN List.length (l.filter fun x=> !isP x)=sumN List.length l:=y6n List.length isP l;have s2:(allP l).length+(l.filter fun x=> !isP x).length=l.length:=y6o isP l;have s3:sumN List.length (y4z l)+sumN List.length (y2m l)=sumN List.length (allP l):=y6n List.length extP (allP l);have s4:(y4z l).length+(y2m l).length=(allP l).length:=y6o extP (allP l);have l0:=joinT_len l;have l1:=joinT_len (allP l);have l2:=joinT_len (y2m l);have l3:=joinT_len (y4z l);omega
theorem x8h {l:List Txt} {k:Nat} {p:Txt} (h:l[k]?=some p):(isP p=false→allP (l.take (k+1))=allP (l.take k)∧y2m (l.take (k+1))=y2m (l.take k)∧y4z (l.take (k+1))=y4z (l.take k))∧
  (isP p=true→allP (l.take (k+1))=allP (l.take k)++[p]∧(extP p=true→y2m (l.take (k+1))=y2m (l.take k)∧y4z (l.take (k+1))=y4z (l.take k)++[p])∧(extP p=false→y2m (l.take (k+1))=y2m (l.take k)++[p]∧y4z (l.take (k+1))=y4z (l.take k))):=by
 have e:=y1l h;constructor
 ·intro hp
  have ea:allP (l.take (k+1))=allP (l.take k):=by rw [allP,e,List.filter_append];simp [hp]
  exact ⟨ea,by rw [y2m,ea],by rw [y4z,ea]⟩
 ·intro hp
  have ea:allP (l.take (k+1))=allP (l.take k)++[p]:=by rw [allP,e,List.filter_append];simp [hp]
  refine ⟨ea,fun hx=>⟨?_,?_⟩,fun hx=>⟨?_,?_⟩⟩
  ·rw [y2m,ea,List.filter_append];simp [hx]
  ·rw [y4z,ea,List.filter_append];simp [hx]
  ·rw [y2m,ea,List.filter_append];simp [hx]
  ·rw [y4z,ea,List.filter_append];simp [hx]
theorem x3i {l:List Txt} (hl:(y27 l).length≤2200000):SameT (y05 (y4u (y27 (allP l)))) (y05 (y4u (y27 (y2m l)++y27 (y4z l))))∧SameT (y05 (y4u (y27 (allP l)))) (y05 (y4u (y27 (y4z l)++y27 (y2m l)))):=by
 have hA: ∀p∈allP l,isP p=true:=fun p hp=>(List.mem_filter.1 hp).2;have hF: ∀p∈y2m l,isP p=true:=fun p hp=>hA p (List.mem_filter.1 hp).1;have hM: ∀p∈y4z l,isP p=true:=fun p hp=>hA p (List.mem_filter.1 hp).1;have s1:sumN List.length (allP l)+sumN List.length (l.filter fun x=> !isP x)=sumN List.length l:=y6n List.length isP l;have s2:(allP l).length+(l.filter fun x=> !isP x).length=l.length:=y6o isP l;have s3:sumN List.length (y4z l)+sumN List.length (y2m l)=sumN List.length (allP l):=y6n List.length extP (allP l);have s4:(y4z l).length+(y2m l).length=(allP l).length:=y6o extP (allP l);have l0:=joinT_len l;have l1:=joinT_len (allP l);have l2:=joinT_len (y2m l);have l3:=joinT_len (y4z l);obtain ⟨d1,d2⟩:=z6p (allP l) hA;have e1:=y91 (l:=allP l) (by omega) hA;have e2:=y91 (l:=y2m l++y4z l) (by rw [y6m,Qae];omega) (fun p hp=>by rcases Qbf.1 hp with h|h<;>first|exact hF p h|exact hM p h);have e3:=y91 (l:=y4z l++y2m l) (by rw [y6m,Qae];omega) (fun p hp=>by rcases Qbf.1 hp with h|h<;>first|exact hF p h|exact hM p h)
 have hp8: ∀p∈allP l,p.length≤2200000:=fun p hp=>by
  have:p.length≤sumN List.length (allP l):=by
   obtain ⟨k,hk⟩:=Qaq hp;exact y6d hk
  omega
 have hx: ∀d∈(allP l).filterMap defP,Ex8 d:=fun d hd=>by
  obtain ⟨p,hp,e⟩:=List.mem_filterMap.1 hd;exact q97 (hp8 p hp) (z06.1 e)
 rw [y6m,List.filterMap_append,d1,d2] at e2 e3;have S1:=SameT.of e1;have S2:=SameT.of e2;have S3:=SameT.of e3;rw [x05 hx] at S2;rw [x3h hx] at S3;exact ⟨S1.trans S2.symm,S1.trans S3.symm⟩
theorem z8l (ts:List DefD) (x:Txt):y4c (erD ts) x=(y4c ts x).map y1e:=by
 rw [z99,z99];unfold z2m;rw [z8k]
 cases y1y ts x with
 |none=>rfl
 |some i=>simp [erD]
theorem q3r (ts:List DefD) (t:Txt):posL (erD ts) t=posL ts t:=by
 have hm: ∀ms:List NamedD,memO (erD ts) (ms.map y5p)=memO ts ms:=fun ms=>by
  unfold memO;rw [List.foldl_map];simp only [z05];rfl
 have hd:z2m (erD ts) t=(z2m ts t).map y1e:=z8l ts t;unfold posL;rw [z05,hd]
 have h4:((erD ts).filter (y7o t)).map (·.name)=(ts.filter (y7o t)).map (·.name):=by
  rw [erD,List.filter_map,List.map_map]
  have:(y7o t∘y1e)=y7o t:=by
   funext d
   show ((d.kind==3)&&(d.ifaces.map y5p).any fun n=>decide (n.name=t))=_
   rw [List.any_map];rfl
  rw [this];exact List.map_congr_left fun d _=>rfl
 rw [h4]
 congr 1
 congr 1
 cases z2m ts t with
 |none=>
  rfl
 |some d=>
  simp only [Option.map_some,Option.getD_some];rw [show (y1e d).members=d.members.map y5p from rfl,hm]
theorem SameT.look {a b:TysD} (h:SameT a b) (x:Txt):(y4c a.types x).isSome=(y4c b.types x).isSome∧y1e ((y4c a.types x).getD z7l)=y1e ((y4c b.types x).getD z7l):=by
 have e:(y4c a.types x).map y1e=(y4c b.types x).map y1e:=by rw [←z8l,←z8l,h.types]
 cases h1:y4c a.types x with
 |none=>
  rw [h1] at e
  cases h2:y4c b.types x with
  |none=>exact ⟨rfl,rfl⟩
  |some _=>rw [h2] at e;cases e
 |some d=>
  rw [h1] at e
  cases h2:y4c b.types x with
  |none=>rw [h2] at e;cases e
  |some d'=>rw [h2] at e;exact ⟨rfl,Option.some.inj e⟩
theorem SameT.names {a b:TysD} (h:SameT a b):y0a a.types=y0a b.types∧y0a a.dirs=y0a b.dirs:=⟨by rw [←y8z,←y8z b.types,h.types],by rw [←y8z,←y8z b.dirs,h.dirs]⟩
theorem SameT.pos {a b:TysD} (h:SameT a b) (x:Txt):posL a.types x=posL b.types x:=by rw [←q3r,←q3r b.types,h.types]
end Go.Proofs.YtbpgkkoeehopjaaGreat.mac
namespace Go.Proofs.YtbpgkkoeehopjaaGreat.hp
open Go.RowKit words enc tree gram lex rd dec dat held ty mac
set_option maxRecDepth 100000
set_option maxHeartbeats 40000000
attribute [local go_sem ↓] Go.wp_at_zero Go.wp_at_succ
section
variable {w0 w K : World} {M : List Ent}
theorem z5d {l:List Txt} {n c:Nat} {A:Option Addr} {r:Txt} (hd:RD K (.list n (y03 l)) (.slice A n c)) (hl:l.length=n) (hn:n≤9000000) (hr:y27 l=r) (hlen:r.length≤2200000) (H:Hp w0 w K M):
  Calls Tryz.prog 25 #[.slice A n c] w fun e w'=>e= .returned (.string (str r))∧Hp w0 w' K M:=by
 have HN:=hide hl;have HR:=hide hr;have he0:(⟨#[]⟩:ByteArray)=str []:=rfl;clear hl hr;go_enter Tryz.func25,Tryz.ntmps25
 go_wp2_with fail
 go_loopw [3,8] (fun sv i wr=>∃(j:Nat) (s:Txt),j≤n∧i= .int .i64 j∧sv= .string (str s)∧Hid (y27 (l.take j)=s)∧Hp w0 wr K M) (fun _ i _=>n - (intOf i).toNat)
 case atStart=>exact ⟨0,[],Qak _,rfl,by rw [←he0],rfl,H⟩
 case round=>
  clear H;obtain ⟨j,s,hj,rfl,rfl,hs,H⟩:=hrel;by_cases hlt:j<n
  ·obtain ⟨ad,x,rfl,hx,hat⟩:=x0c hd (by rw [HN.out];exact hlt);obtain ⟨hjI,hwr⟩:=wr_k hlt hn
   have hnx:y27 (l.take (j+1))=s++(x++[10]):=by rw [y1l hx,y6m,hs.out];rfl
   have hle:s.length+(x.length+1)≤2200000:=by
    have h1:=congrArg List.length (y6m (l.take (j+1)) (l.drop (j+1)));rw [List.take_append_drop,hnx,HR.out] at h1;simp only [Qae,List.length_cons,List.length_nil] at h1;omega
   have HX:=hide hnx;have p1:=hide (z0h x 10);have p2:=hide (x2c s (x++[10]));have z1:=y17 s;have z2:=y17 x
   have z3:(str x++⟨#[10]⟩).size=x.length+1:=by rw [z0h,y17];simp
   clear hx hnx hs
   go_wp2_with (refine oL H ?_)
   go_roundw
   case rel=>exact ⟨j+1,s++(x++[10]),by omega,by go_num,by rw [p1.out,p2.out],HX,H⟩
   case measure=>simp [intOf];omega
  ·obtain rfl:n=j:=by omega
   have hs:=hs.out;rw [Qaj (by rw [HN.out];exact Qab _),HR.out] at hs;subst hs
   go_wp2_with fail
   go_ret;exact ⟨rfl,H⟩
theorem Orders_walk (pieces:List Txt) (name:Txt) {A:Option Addr} {n c:Nat} (wi:World) (hn:pieces.length=n) (hd:RD wi (.list n (y03 pieces)) (.slice A n c)) (hb:(y27 pieces).length≤1048576):
  Calls Tryz.prog 4 #[.slice A n c,.string (str name)] wi fun e w'=>e= .returned (.bool true)∧Below wi.heap.size wi w':=by
 have H:=Hp.start wi
 have hn9:n≤1048576:=by rw [joinT_len] at hb;omega
 have hpl:Hid (∀(k:Nat) (p:Txt),pieces[k]?=some p→p.length≤1048576):=by
  show ∀_ _,_
  intro k p hp;have:=y6d (f:=List.length) hp;rw [joinT_len] at hb;omega
 have HN:=hide hn;have HB:=hide hb;clear hn hb;go_enter Tryz.func4,Tryz.ntmps4
 go_upto_region 5 with (first|(go_at_call 24;refine (q1c _ _ _ _ H).mono ?_;clear H;rintro e w1 ⟨K1,rfl,hle1,H⟩))
 replace hd:=hd.sat hle1;clear hle1;replace H:=((H.nilRow 9 1).nilRow 9 1).nilRow 9 1
 go_loopw [5,6,7,26] (fun a f m i wr=>∃(k:Nat) (A5 A6 A7:Option Addr) (n5 c5 n6 c6 n7 c7:Nat) (L5 L6 L7:List Txt) (K2:World),k≤n∧n5≤k∧n6≤k∧n7≤k∧a= .slice A5 n5 c5∧f= .slice A6 n6 c6∧m= .slice A7 n7 c7∧i= .int .i64 k∧Hid (allP (pieces.take k)=L5∧y2m (pieces.take k)=L6∧y4z (pieces.take k)=L7∧L5.length=n5∧L6.length=n6∧L7.length=n7)∧Sat K2 K1∧Hp wi wr K2 [.row 9 1 (.slice A5 n5 c5) n5 (L5.map sv),.row 9 1 (.slice A6 n6 c6) n6 (L6.map sv),.row 9 1 (.slice A7 n7 c7) n7 (L7.map sv)]) (fun _ _ _ i _=>n - (intOf i).toNat)
 case atStart=>exact ⟨0,none,none,none,0,0,0,0,0,0,[],[],[],K1,Qak _,Qak _,Qak _,Qak _,rfl,rfl,rfl,rfl,⟨rfl,rfl,rfl,rfl,rfl,rfl⟩,Sat.refl _,H⟩
 case round=>
  clear H;obtain ⟨k,A5,A6,A7,n5,c5,n6,c6,n7,c7,L5,L6,L7,K2,hk,hk5,hk6,hk7,rfl,rfl,rfl,rfl,hL,H0,H⟩:=hrel;have hdk:=hd.sat H0;by_cases hlt:k<n
  ·obtain ⟨ad,p,rfl,hp,hat⟩:=x0c hdk (by rw [HN.out];exact hlt);obtain ⟨hkI,hwr⟩:=wr_k hlt (by omega);have hp9:=hpl.out k p hp;obtain ⟨hno,hyes⟩:=x8h hp;have hrd:=fun {w1 K M} (H:Hp wi w1 K M)=>z26 H p (by omega)
   cases hc:defP p with
   |none=>
    obtain ⟨nd,hnd⟩: ∃m,(y4u p).length=m:=⟨_,rfl⟩
    have hne:((nd:Int) !=1)=true:=by
     rw [Qa8];intro h
     have h1:(y4u p).length=1:=by omega
     obtain ⟨d,hd1⟩:=List.length_eq_one_iff.1 h1;rw [z06.2 hd1] at hc;cases hc
    rw [hnd] at hrd;obtain ⟨e1,e2,e3⟩:=hno (by unfold isP;rw [hc];rfl);obtain ⟨i1,i2,i3,i4,i5,i6⟩:=hL.out;have HX:Hid (allP (pieces.take (k+1))=L5∧y2m (pieces.take (k+1))=L6∧y4z (pieces.take (k+1))=L7∧L5.length=n5∧L6.length=n6∧L7.length=n7):=⟨e1.trans i1,e2.trans i2,e3.trans i3,i4,i5,i6⟩;clear e1 e2 e3 i1 i2 i3 i4 i5 i6 hp hno hyes hc hnd hL hdk
    go_wp2_with (first|(refine oL H ?_)|(go_at_call 13;refine (hrd H).mono ?_;clear H hrd;rintro e w ⟨K3,A2,c2,rfl,hle7,H,-⟩))
    go_roundw
    case rel=>exact ⟨k+1,A5,A6,A7,n5,c5,n6,c6,n7,c7,L5,L6,L7,K3,by omega,by omega,by omega,by omega,rfl,rfl,rfl,by go_num,HX,hle7.trans H0,H⟩
    case measure=>simp [intOf];omega
   |some d=>
    rw [z06.1 hc] at hrd;obtain ⟨e1,e2,e3⟩:=hyes (by unfold isP;rw [hc];rfl)
    have hxp:extP p=d.ext:=by unfold extP;rw [hc];rfl
    obtain ⟨i1,i2,i3,i4,i5,i6⟩:=hL.out;rw [hxp] at e2 e3;rw [i1] at e1;rw [i2,i3] at e2 e3
    have hlA:(L5++[p]).length=n5+1:=by rw [Qae,i4];rfl
    have hlB:(L6++[p]).length=n6+1:=by rw [Qae,i5];rfl
    have hlC:(L7++[p]).length=n7+1:=by rw [Qae,i6];rfl
    cases hx:d.ext with
    |false=>
     obtain ⟨e4,e5⟩:=e3 hx;have HX:Hid (allP (pieces.take (k+1))=L5++[p]∧y2m (pieces.take (k+1))=L6++[p]∧y4z (pieces.take (k+1))=L7∧(L5++[p]).length=n5+1∧(L6++[p]).length=n6+1∧L7.length=n7):=⟨e1,e4,e5,hlA,hlB,i6⟩;clear e1 e2 e3 e4 e5 i1 i2 i3 i4 i5 i6 hlA hlB hlC hp hno hyes hc hL hdk hxp
     go_upto_region 10 with (first|(refine oL H ?_)|(go_at_call 13;refine (hrd H).mono ?_;clear H hrd;rintro e w ⟨K3,A2,c2,rfl,hle7,H,hdd⟩;replace hat:=At.sat hat hle7;obtain ⟨y,ad2,us2,hy,rfl,hyl,hat2⟩:=el_k (m:=17) (f:=defL) (k:=0) y1b hdd Nat.zero_lt_one (by decide);obtain rfl:=Option.some.inj hy;obtain ⟨B6,e6,B7,e7,B8,e8,B9,e9,B10,e10,B11,e11,B12,e12,B14,e14,rfl,-⟩:=y0h hyl;rw [Nat.zero_mul,hx] at hat2;clear hdd hyl hy)|(refine oP H ?_;clear H;intro w _ H)|(refine oQ H ?_;clear H;intro A8 c8 w _ _ H;dsimp only [List.set] at H))
     go_wp2_with (first|(refine oL H ?_)|(refine oP H ?_;clear H;intro w _ H)|(refine oQ H ?_;clear H;intro A9 c9 w _ _ H;dsimp only [List.set] at H))
     go_roundw
     case rel=>exact ⟨k+1,A8,A9,A7,n5+1,c8,n6+1,c9,n7,c7,L5++[p],L6++[p],L7,K3,by omega,by omega,by omega,by omega,rfl,rfl,rfl,by go_num,HX,hle7.trans H0,by rw [Qas,Qas];exact H.fin⟩
     case measure=>simp [intOf];omega
    |true=>
     obtain ⟨e4,e5⟩:=e2 hx;have HX:Hid (allP (pieces.take (k+1))=L5++[p]∧y2m (pieces.take (k+1))=L6∧y4z (pieces.take (k+1))=L7++[p]∧(L5++[p]).length=n5+1∧L6.length=n6∧(L7++[p]).length=n7+1):=⟨e1,e4,e5,hlA,i5,hlC⟩;clear e1 e2 e3 e4 e5 i1 i2 i3 i4 i5 i6 hlA hlB hlC hp hno hyes hc hL hdk hxp
     go_upto_region 10 with (first|(refine oL H ?_)|(go_at_call 13;refine (hrd H).mono ?_;clear H hrd;rintro e w ⟨K3,A2,c2,rfl,hle7,H,hdd⟩;replace hat:=At.sat hat hle7;obtain ⟨y,ad2,us2,hy,rfl,hyl,hat2⟩:=el_k (m:=17) (f:=defL) (k:=0) y1b hdd Nat.zero_lt_one (by decide);obtain rfl:=Option.some.inj hy;obtain ⟨B6,e6,B7,e7,B8,e8,B9,e9,B10,e10,B11,e11,B12,e12,B14,e14,rfl,-⟩:=y0h hyl;rw [Nat.zero_mul,hx] at hat2;clear hdd hyl hy)|(refine oP H ?_;clear H;intro w _ H)|(refine oQ H ?_;clear H;intro A8 c8 w _ _ H;dsimp only [List.set] at H))
     go_wp2_with (first|(refine oL H ?_)|(refine oP H ?_;clear H;intro w _ H)|(refine oQ H ?_;clear H;intro A9 c9 w _ _ H;dsimp only [List.set] at H))
     go_roundw
     case rel=>exact ⟨k+1,A8,A6,A9,n5+1,c8,n6,c6,n7+1,c9,L5++[p],L6,L7++[p],K3,by omega,by omega,by omega,by omega,rfl,rfl,rfl,by go_num,HX,hle7.trans H0,by rw [Qas,Qas];exact H.fin⟩
     case measure=>simp [intOf];omega
  ·obtain rfl:n=k:=by omega
   clear hd hdk;have hL:=hL.out;rw [Qaj (by rw [HN.out];exact Qab _)] at hL;obtain ⟨S1,S2⟩:=x3i (l:=pieces) (by have:=HB.out;omega);obtain ⟨q1,q2⟩:=q3q pieces;have hB:=HB.out;rw [hL.1,hL.2.1,hL.2.2.1] at S1 S2 q2;rw [hL.1] at q1;obtain ⟨r5,hr5⟩: ∃r,y27 L5=r:=⟨_,rfl⟩;obtain ⟨r6,hr6⟩: ∃r,y27 L6=r:=⟨_,rfl⟩;obtain ⟨r7,hr7⟩: ∃r,y27 L7=r:=⟨_,rfl⟩;rw [hr5,hr6,hr7] at S1 S2 q2;rw [hr5] at q1;obtain ⟨-,-,-,i5,i6,i7⟩:=hL;have hq9:=y8w H;clear H;obtain ⟨K3,hle3,H,hd5⟩:=hq9;have hq9:=y8w H;clear H;obtain ⟨K4,hle4,H,hd6⟩:=hq9;have hq9:=y8w H;clear H;obtain ⟨K5,hle5,H,hd7⟩:=hq9;replace hd5:=hd5.sat (hle5.trans hle4);replace hd6:=hd6.sat hle5;have j5:=fun {w K M} (hd:RD K (.list n5 (y03 L5)) (.slice A5 n5 c5)) (H:Hp wi w K M)=>z5d hd i5 (by omega) hr5 (by omega) H;have j6:=fun {w K M} (hd:RD K (.list n6 (y03 L6)) (.slice A6 n6 c6)) (H:Hp wi w K M)=>z5d hd i6 (by omega) hr6 (by omega) H;have j7:=fun {w K M} (hd:RD K (.list n7 (y03 L7)) (.slice A7 n7 c7)) (H:Hp wi w K M)=>z5d hd i7 (by omega) hr7 (by omega) H;have p67:=hide (x2c r6 r7);have p76:=hide (x2c r7 r6);have z6:=y17 r6;have z7:=y17 r7
   have hl67:(r6++r7).length≤1048576:=by rw [Qae];omega
   have hl76:(r7++r6).length≤1048576:=by rw [Qae];omega
   have e0:=fun {w1 K M} (H:Hp wi w1 K M)=>z26 H r5 (by omega);have e1:=fun {w1 K M} (H:Hp wi w1 K M)=>z26 H (r6++r7) (by omega);have e2:=fun {w1 K M} (H:Hp wi w1 K M)=>z26 H (r7++r6) (by omega);have N0:=q29 r5 (by omega);have N1:=q29 (r6++r7) (by omega);have N2:=q29 (r7++r6) (by omega);obtain ⟨D0,hD0⟩: ∃d,y4u r5=d:=⟨_,rfl⟩;obtain ⟨D1,hD1⟩: ∃d,y4u (r6++r7)=d:=⟨_,rfl⟩;obtain ⟨D2,hD2⟩: ∃d,y4u (r7++r6)=d:=⟨_,rfl⟩;rw [hD0] at e0 N0 S1 S2;rw [hD1] at e1 N1 S1;rw [hD2] at e2 N2 S2;have W0:=z2v D0 (by omega);have W1:=z2v D1 (by omega);have W2:=z2v D2 (by omega);have b0:=fun {w1 K M} {A:Option Addr} {c:Nat} (H:Hp wi w1 K M) (hd:RD K (.list D0.length (y0r D0)) (.slice A D0.length c))=>z0s D0 D0.length c A wi w1 K M H rfl hd (by omega);have b1:=fun {w1 K M} {A:Option Addr} {c:Nat} (H:Hp wi w1 K M) (hd:RD K (.list D1.length (y0r D1)) (.slice A D1.length c))=>z0s D1 D1.length c A wi w1 K M H rfl hd (by omega);have b2:=fun {w1 K M} {A:Option Addr} {c:Nat} (H:Hp wi w1 K M) (hd:RD K (.list D2.length (y0r D2)) (.slice A D2.length c))=>z0s D2 D2.length c A wi w1 K M H rfl hd (by omega);clear hD0 hD1 hD2 hr5 hr6 hr7 i5 i6 i7 hle3 hle4 hle5 hk5 hk6 hk7 hpl HB hl67 hl76 N1 N2 H0;have hv0:=True.intro;have hv1:=True.intro
   go_upto_region 17 with (first|(go_at_call 25;(first|(with_reducible refine (j5 hd5 H).mono ?_)|(with_reducible refine (j6 hd6 H).mono ?_)|(with_reducible refine (j7 hd7 H).mono ?_));clear H;rintro e w ⟨rfl,H⟩)|(go_at_call 13;(with_reducible refine (e0 H).mono ?_);clear H e0;rintro e w ⟨K8,A8,c8,rfl,hle7,H,hdd⟩;replace hd5:=hd5.sat hle7;replace hd6:=hd6.sat hle7;replace hd7:=hd7.sat hle7;clear hle7)|(go_at_call 13;rw [p67.out];(with_reducible refine (e1 H).mono ?_);clear H e1;rintro e w ⟨K8,A8,c8,rfl,hle7,H,hdd⟩;replace hd6:=hd6.sat hle7;replace hd7:=hd7.sat hle7;replace hv0:=hv0.sat hle7;clear hle7)|(go_at_call 13;rw [p76.out];(with_reducible refine (e2 H).mono ?_);clear H e2;rintro e w ⟨K8,A8,c8,rfl,hle7,H,hdd⟩;replace hd6:=hd6.sat hle7;replace hd7:=hd7.sat hle7;replace hv0:=hv0.sat hle7;replace hv1:=hv1.sat hle7;clear hle7)|(go_at_call 14;(first|((with_reducible refine (b0 H hdd).mono ?_);clear H b0 hv0;rintro e w ⟨K9,gT,rfl,hle7,H,hT⟩;have hv0:=hT.tp;replace hd6:=hd6.sat hle7;replace hd7:=hd7.sat hle7)|((with_reducible refine (b1 H hdd).mono ?_);clear H b1 hv1;rintro e w ⟨K9,g1,rfl,hle7,H,hT⟩;have hv1:=hT.tp;replace hv0:=hv0.sat hle7;replace hd6:=hd6.sat hle7;replace hd7:=hd7.sat hle7)|((with_reducible refine (b2 H hdd).mono ?_);clear H b2;rintro e w ⟨K9,g2,rfl,hle7,H,hT⟩;have hv2:=hT.tp;replace hv0:=hv0.sat hle7;replace hv1:=hv1.sat hle7));clear hT hle7 hdd))
   go_upto_region 18 with (refine oA 72 H ?_ (hd:=dbS (cs:=[.pointer (some ⟨g1,0,none⟩),.pointer (some ⟨g2,0,none⟩)]) (hcs:=by kernel_rfl));clear H;intro w g72 H)
   obtain ⟨L,hL⟩: ∃L,([.pointer (some ⟨g1,0,none⟩),.pointer (some ⟨g2,0,none⟩)]:List Value)=L:=⟨_,rfl⟩;have hq9:=H.freezeBox (n:=2) (ls:=L.flatMap fun v=>[Leaf.lit v]) (by rw [←hL];exact .lit (.lit RL.z)) (by simp [maxLen]);clear H;obtain ⟨K6,hle,H,hl⟩:=hq9;obtain ⟨A72,hA72⟩: ∃A:Option Addr,some ⟨g72,0,none⟩=A:=⟨_,rfl⟩;rw [hA72] at hl ⊢;clear hA72
   have HTP:Hid (∀v∈L,∃ds,Tp K6 v (y05 ds)∧TyW (y05 ds)∧SameT (y05 D0) (y05 ds)):=by
    show ∀v∈L,_
    rw [←hL];intro v hv;simp only [Qbd,List.mem_nil_iff,or_false] at hv;rcases hv with rfl|rfl
    ·exact ⟨D1,hv1.sat hle,W1,S1⟩
    ·exact ⟨D2,hv2.sat hle,W2,S2⟩
   have HLL:Hid (L.length=2):=by show _=_;rw [←hL];rfl
   replace hv0:=hv0.sat hle;clear hv1 hv2 hle hL W1 W2 S1 S2 j5 j6 j7 p67 p76 z6 z7 hd5 hd6 hd7;obtain ⟨T,hT⟩: ∃T,y05 D0=T:=⟨_,rfl⟩;rw [hT] at HTP hv0 W0
   have hT8:y0i T.types≤8000000:=by rw [←hT] at W0 ⊢;exact Qah W0.nT (by omega)
   have hsN:defN T.schema≤9000000:=W0.nS
   have hD8:y0i T.dirs≤8000000:=by rw [←hT] at W0 ⊢;exact Qah W0.nD (by omega)
   have HTD:=hide hT;clear hT N0;have hNr:=fun {w K M} (H:Hp wi w K M) (hv:Tp K (.pointer (some ⟨gT,0,none⟩)) T)=>q1d (.pointer (some ⟨gT,0,none⟩)) T wi w K M H hv W0;have hNt:=fun {w K M} (H:Hp wi w K M) (hv:Tp K (.pointer (some ⟨gT,0,none⟩)) T)=>q1e (.pointer (some ⟨gT,0,none⟩)) T H hv W0;have hDt:=fun {w K M} (H:Hp wi w K M) (hv:Tp K (.pointer (some ⟨gT,0,none⟩)) T)=>q7d (.pointer (some ⟨gT,0,none⟩)) T H hv W0;have hSt:=fun {w K M} (H:Hp wi w K M) (hv:Tp K (.pointer (some ⟨gT,0,none⟩)) T)=>x4p (.pointer (some ⟨gT,0,none⟩)) T H hv W0 (d:=T.schema) rfl;have hTt:=fun (w K:World) (M:List Ent) (x:Txt) (o:Bool) (d:DefD) (H:Hp wi w K M) (hv:Tp K (.pointer (some ⟨gT,0,none⟩)) T)=>q7c (.pointer (some ⟨gT,0,none⟩)) x T H hv W0 (o:=o) (d:=d);have hPt:=fun (w K:World) (M:List Ent) (x:Txt) (l:List Txt) (m:Nat) (H:Hp wi w K M) (hv:Tp K (.pointer (some ⟨gT,0,none⟩)) T) (hp:posL T.types x=l) (hm:l.length=m)=>z6d (.pointer (some ⟨gT,0,none⟩)) x D0 H (by rw [HTD.out];exact hv) (by rw [HTD.out];exact W0) (l:=l) (by rw [←z2c,HTD.out];exact hp) hm;replace hTt:=hide hTt;replace hPt:=hide hPt;clear W0
   go_wp2_with fail
   go_loopw [74] (fun i wr=>∃(q:Nat) (K7:World),q≤2∧i= .int .i64 q∧Sat K7 K6∧Hp wi wr K7 []) (fun i _=>2 - (intOf i).toNat)
   case atStart=>exact ⟨0,K6,Qak _,rfl,Sat.refl _,H⟩
   case round=>
    clear H;obtain ⟨q,K7,hq,rfl,H0,H⟩:=hrel;have hlq:=hl.sat H0;by_cases hlt:q<2
    ·obtain ⟨ad,u,rfl,hx,hat⟩:=ptr_at hlq (by rw [HLL.out];exact hlt);obtain ⟨hqI,hwr⟩:=wr_k hlt (by omega);obtain ⟨ds,hvu,Wu,Sm⟩:=HTP.out u (Qaf hx);replace hvu:=hvu.sat H0;replace hv0:=hv0.sat H0;obtain ⟨en,ed⟩:=SameT.names Sm
     have lt:(y05 ds).types.length=T.types.length:=by have:=congrArg List.length en;rw [y0a,y0a,Qay,Qay] at this;exact this.symm
     have ld:(y05 ds).dirs.length=T.dirs.length:=by have:=congrArg List.length ed;rw [y0a,y0a,Qay,Qay] at this;exact this.symm
     have hNu:=fun {w K M} (H:Hp wi w K M) (hv:Tp K u (y05 ds))=>q1e u (y05 ds) H hv Wu;have hDu:=fun {w K M} (H:Hp wi w K M) (hv:Tp K u (y05 ds))=>q7d u (y05 ds) H hv Wu;have hSu:=fun {w K M} (H:Hp wi w K M) (hv:Tp K u (y05 ds))=>x4p u (y05 ds) H hv Wu (d:=(y05 ds).schema) rfl;simp only [lt,←en] at hNu;simp only [ld,←ed] at hDu;have hTu:=fun (w K:World) (M:List Ent) (x:Txt) (o:Bool) (d:DefD) (H:Hp wi w K M) (hv:Tp K u (y05 ds))=>q7c u x (y05 ds) H hv Wu (o:=o) (d:=d);have hPu:=fun (w K:World) (M:List Ent) (x:Txt) (l:List Txt) (m:Nat) (H:Hp wi w K M) (hv:Tp K u (y05 ds)) (hp:posL T.types x=l) (hm:l.length=m)=>z6d u x ds H hv Wu (l:=l) (by rw [←z2c,←SameT.pos Sm];exact hp) hm;have hSq:y07 (y37 false) [T.schema] [(y05 ds).schema]=true:=(x3c _ _).2 (by rw [List.map_cons,List.map_cons,Sm.schema])
     have hsN1:y0i [T.schema]≤9000000:=by simp only [y0i,sumN];omega
     obtain ⟨sT,hsT⟩: ∃s,T.schema=s:=⟨_,rfl⟩;obtain ⟨sU,hsU⟩: ∃s,(y05 ds).schema=s:=⟨_,rfl⟩;obtain ⟨nt,hnt⟩: ∃m,T.types.length=m:=⟨_,rfl⟩;obtain ⟨nm,hnm⟩: ∃m,T.dirs.length=m:=⟨_,rfl⟩
     have hlt1:(y0a T.types).length=nt:=by rw [y0a,Qay];exact hnt
     have hlm1:(y0a T.dirs).length=nm:=by rw [y0a,Qay];exact hnm
     have hnt9:nt≤8999999:=by have:=y0w y28 T.types;unfold y0i at hT8;omega
     have hnt9':nt≤9000000:=by omega
     have hnm9:nm≤9000000:=by have:=y0w y28 T.dirs;unfold y0i at hD8;omega
     have hNr1:=fun {w K M} (H:Hp wi w K M) hv=>hNr (w:=w) (K:=K) (M:=M) H hv;have hNt1:=fun {w K M} (H:Hp wi w K M) hv=>hNt (w:=w) (K:=K) (M:=M) H hv;have hDt1:=fun {w K M} (H:Hp wi w K M) hv=>hDt (w:=w) (K:=K) (M:=M) H hv;have hSt1:=fun {w K M} (H:Hp wi w K M) hv=>hSt (w:=w) (K:=K) (M:=M) H hv;simp only [hnt] at hNr1 hNt1 hNu;simp only [hnm] at hDt1 hDu;simp only [hsT] at hSt1;simp only [hsU] at hSu;rw [hsT,hsU] at hSq;rw [hsT] at hsN1;have HLT:=hide hlt1;replace hTu:=hide hTu;replace hPu:=hide hPu;replace Sm:=hide Sm;obtain ⟨NT,hNT⟩: ∃l,y0a T.types=l:=⟨_,rfl⟩;obtain ⟨ND,hND⟩: ∃l,y0a T.dirs=l:=⟨_,rfl⟩;simp only [hNT] at hNr1 hNt1 hNu;simp only [hND] at hDt1 hDu;rw [hNT] at HLT hlt1;rw [hND] at hlm1;clear hx hlq en ed lt ld Wu hsT hsU hnt hnm hNT hND
     go_upto_region 22 with (first|(refine oL H ?_)|(go_at_call 15;(first|((with_reducible refine (hNt1 H hv0).mono ?_);clear H;rintro e w ⟨K8,A7,c7,rfl,hle7,H,hd7⟩)|((with_reducible refine (hNu H hvu).mono ?_);clear H;rintro e w ⟨K8,A8,c8,rfl,hle7,H,hd8⟩;replace hd7:=hd7.sat hle7));replace hv0:=hv0.sat hle7;replace hvu:=hvu.sat hle7;replace H0:=hle7.trans H0;clear hle7)|(go_at_call 16;(first|((with_reducible refine (hDt1 H hv0).mono ?_);clear H;rintro e w ⟨K8,A7,c7,rfl,hle7,H,hd7⟩)|((with_reducible refine (hDu H hvu).mono ?_);clear H;rintro e w ⟨K8,A8,c8,rfl,hle7,H,hd8⟩;replace hd7:=hd7.sat hle7));replace hv0:=hv0.sat hle7;replace hvu:=hvu.sat hle7;replace H0:=hle7.trans H0;clear hle7)|(go_at_call 26;(first|((with_reducible refine (y79 hlt1 hnt9' hd7 hd8 H).mono ?_))|((with_reducible refine (y79 hlm1 hnm9 hd7 hd8 H).mono ?_)));clear H;rintro e w ⟨rfl,H⟩;clear hd7 hd8)|(go_at_call 18;(first|((with_reducible refine (hSt1 H hv0).mono ?_);clear H;rintro e w ⟨K8,cs7,rfl,hle7,H,hd7⟩)|((with_reducible refine (hSu H hvu).mono ?_);clear H;rintro e w ⟨K8,cs8,rfl,hle7,H,hd8⟩;replace hd7:=hd7.sat hle7));replace hv0:=hv0.sat hle7;replace hvu:=hvu.sat hle7;replace H0:=hle7.trans H0;clear hle7)|(go_at_call 21;(first|((with_reducible refine (x34 sU hd8 H).mono ?_);clear H;rintro e w ⟨K8,ga,rfl,hle7,H,hd8⟩;replace hd7:=hd7.sat hle7)|((with_reducible refine (x34 sT hd7 H).mono ?_);clear H;rintro e w ⟨K8,gb,rfl,hle7,H,hd7⟩));replace hv0:=hv0.sat hle7;replace hvu:=hvu.sat hle7;replace H0:=hle7.trans H0;clear hle7)|(go_at_call 20;(refine (z4a false hsN1 hSq hd7 hd8 H).mono ?_);clear H;rintro e w ⟨rfl,H⟩;clear hd7 hd8))
     clear hNt1 hDt1 hSt1 hNu hDu hSu hSq hsN1 hlm1 hnm9 hat
     go_upto_region 23 with (first|(go_at_call 15;((with_reducible refine (hNr1 H hv0).mono ?_);clear H;rintro e w ⟨K8,A5,c5,rfl,hle7,H⟩);replace hv0:=hv0.sat hle7;replace hvu:=hvu.sat hle7;replace H0:=hle7.trans H0;clear hle7)|(refine oP H ?_;clear H;intro w _ H)|(refine oQ H ?_;clear H;intro A6 c6 w _ hc6 H;dsimp only [List.set] at H;have hq9:=y8w (l:=NT++[name]) (by rw [Qas];exact H);clear H;obtain ⟨K9,hle7,H,hdl⟩:=hq9;replace hv0:=hv0.sat hle7;replace hvu:=hvu.sat hle7;replace H0:=hle7.trans H0;clear hle7))
     obtain ⟨NL,hNL⟩: ∃L,NT++[name]=L:=⟨_,rfl⟩
     have hNLn:NL.length=nt+1:=by rw [←hNL,Qae,hlt1];rfl
     rw [hNL] at hdl;obtain ⟨nl,hnl⟩: ∃m,nt+1=m:=⟨_,rfl⟩
     have hnlI:(nt:Int)+1=(nl:Int):=by omega
     rw [hnl] at hdl hNLn ⊢;rw [hnlI]
     have hnl9:nl≤9000000:=by omega
     have HNL:=hide hNLn;clear hnlI hnl hNLn hNL hlt1 HLT hNr1;have HK:=hide H0;clear H0
     go_wp2_with fail
     go_loopw [108] (fun i wr=>∃(k:Nat) (K10:World),k≤nl∧i= .int .i64 k∧Sat K10 K9∧Hp wi wr K10 []) (fun i _=>nl - (intOf i).toNat)
     case atStart=>exact ⟨0,K9,Qak _,rfl,Sat.refl _,H⟩
     case round=>
      clear H;obtain ⟨k,K10,hk,rfl,H0,H⟩:=hrel;have hdk:=hdl.sat H0;replace hv0:=hv0.sat H0;replace hvu:=hvu.sat H0;by_cases hlt:k<nl
      ·obtain ⟨ad,x,rfl,hx,hat⟩:=x0c hdk (by rw [HNL.out];exact hlt);obtain ⟨hkI,hwrk⟩:=wr_k hlt hnl9;obtain ⟨ok,h1⟩: ∃b,(y4c T.types x).isSome=b:=⟨_,rfl⟩;obtain ⟨d,h2⟩: ∃b,(y4c T.types x).getD z7l=b:=⟨_,rfl⟩;obtain ⟨d',h3⟩: ∃b,(y4c (y05 ds).types x).getD z7l=b:=⟨_,rfl⟩;obtain ⟨l1,l2⟩:=SameT.look Sm.out x;obtain ⟨pl,hpl⟩: ∃l,posL T.types x=l:=⟨_,rfl⟩;obtain ⟨np,hnp⟩: ∃m,pl.length=m:=⟨_,rfl⟩
       have hnp9:np≤9000000:=by rw [←hnp,←hpl];exact pos_le T.types x hT8
       have hdn9:=look_N h2 hT8;rw [h1] at l1;rw [h2,h3] at l2;have hq:y07 (y37 false) [d] [d']=true:=(x3c _ _).2 (by rw [List.map_cons,List.map_cons,l2])
       have hN1:y0i [d]≤9000000:=by simp only [y0i,sumN];omega
       have hTx:=fun {w K M} (H:Hp wi w K M) hv=>hTt.out w K M x ok d H hv h1 h2;have hTy:=fun {w K M} (H:Hp wi w K M) hv=>hTu.out w K M x ok d' H hv l1.symm h3;have hPx:=fun {w K M} (H:Hp wi w K M) hv=>hPt.out w K M x pl np H hv hpl hnp;have hPy:=fun {w K M} (H:Hp wi w K M) hv=>hPu.out w K M x pl np H hv hpl hnp
       have hoo:(ok !=ok)=false:=by cases ok<;>rfl
       have HNP:=hide hnp;clear hx hdk h1 h2 h3 l1 l2 hpl hdn9 hnp
       go_upto_region 27 with (first|(refine oL H ?_)|(refine oA 18 H ?_;clear H;intro w g18 H)|(refine oA 20 H ?_;clear H;intro w g20 H)|(refine oP H ?_;clear H;intro w _ H)|(go_at_call 19;(first|((with_reducible refine (hTx H hv0).mono ?_);clear H hTx;rintro e w ⟨K11,cs,rfl,hle7,H,hd7⟩;obtain ⟨B6,b6,B7,b7,B8,b8,B9,b9,B10,b10,B11,b11,B12,b12,B14,b14,hcs,-⟩:=y0h hd7)|((with_reducible refine (hTy H hvu).mono ?_);clear H hTy;rintro e w ⟨K12,cs,rfl,hle7,H,hd8⟩;replace hd7:=hd7.sat hle7;obtain ⟨E6,e6,E7,e7,E8,e8,E9,e9,E10,e10,E11,e11,E12,e12,E14,e14,hcs,-⟩:=y0h hd8));obtain rfl:cs= #[_,_,_,_,_,_,_,_,_,_,_,_,_,_,_,_,_]:=Qal.1 hcs;clear hcs;(try clear hat);replace hv0:=hv0.sat hle7;replace hvu:=hvu.sat hle7;replace H0:=hle7.trans H0;clear hle7))
       refine rB [] H ?_;clear H;intro w H;refine rT 0 H ?_;refine rT 1 H ?_;refine rT 2 H ?_;refine rT 3 H ?_;refine rT 4 H ?_;refine rT 6 H ?_;refine rG 5 (x34 d hd7 H) ?_;clear H;rintro e w ⟨K13,ga,rfl,hle7,H,d1⟩;have hsa:=hle7;replace hd8:=hd8.sat hle7;replace hv0:=hv0.sat hle7;replace hvu:=hvu.sat hle7;replace H0:=hle7.trans H0;clear hle7;refine rX H ?_;refine rG 7 (x34 d' hd8 H) ?_;clear H;rintro e w ⟨K14,gb,rfl,hle7,H,d2⟩;replace hsa:=hle7.trans hsa;replace d1:=d1.sat hle7;replace hv0:=hv0.sat hle7;replace hvu:=hvu.sat hle7;replace H0:=hle7.trans H0;clear hle7;refine rX H ?_;refine rG 8 (z4a false hN1 hq d1 d2 H) ?_;clear H;rintro e w ⟨rfl,H⟩;refine rX H ?_;refine rT 9 H ?_;refine rT 10 H ?_;refine rT 11 H ?_;refine rT 12 H ?_;refine rT 13 H ?_;refine rT 15 H ?_;refine rT 16 H ?_;refine rG 14 (hPx H hv0) ?_;clear H;rintro e w ⟨K15,A7,c7,rfl,hle7,H,p7⟩;replace hsa:=hle7.trans hsa;rw [←textsL_flat] at p7;replace hv0:=hv0.sat hle7;replace hvu:=hvu.sat hle7;replace H0:=hle7.trans H0;clear hle7;refine rX H ?_;refine rG 17 (hPy H hvu) ?_;clear H;rintro e w ⟨K16,A8,c8,rfl,hle7,H,p8⟩;replace hsa:=hle7.trans hsa;rw [←textsL_flat] at p8;replace p7:=p7.sat hle7;replace hv0:=hv0.sat hle7;replace hvu:=hvu.sat hle7;replace H0:=hle7.trans H0;clear hle7;refine rX H ?_;refine rG 18 (y79 HNP.out hnp9 p7 p8 H) ?_;clear H;rintro e w ⟨rfl,H⟩;refine rX H ?_;refine rT 19 H ?_;refine rT 20 H ?_;refine rE ?_
       go_wp2_with fail
       go_roundw
       case rel=>exact ⟨k+1,_,by omega,by go_num,H0,H.fin⟩
       case measure=>simp [intOf];omega
      ·obtain rfl:k=nl:=by omega
       go_wp2_with fail
       go_roundw
       case rel=>exact ⟨q+1,_,by omega,by go_num,H0.trans HK.out,H⟩
       case measure=>simp [intOf];omega
    ·obtain rfl:q=2:=by omega
     go_wp2_with fail
     go_ret;exact ⟨rfl,H.bel⟩
end
end Go.Proofs.YtbpgkkoeehopjaaGreat.hp
namespace Go.Proofs.YtbpgkkoeehopjaaGreat.opn
open words tree gram rd dat
set_option maxRecDepth 100000
section
variable {H : Type} {enc : TypeId × Value → H} {w : World} {sp : Nat → Bool} {held : Bool}
abbrev bulk (d:DataW H):Nat:=Rows.uptoBulk d
abbrev z07 (l:List (DataW H)):Nat:=Rows.uptoBulkAll l
theorem x06:z07 ([]:List (DataW H))=0:=by simp [z07,Rows.uptoBulkAll]
theorem y80 (d:DataW H) (l:List (DataW H)):z07 (d::l)=bulk d+z07 l:=by simp [z07,bulk,Rows.uptoBulkAll]
theorem x07 (a b:List (DataW H)):z07 (a++b)=z07 a+z07 b:=by
 induction a with
 |nil=>simp [x06]
 |cons d l ih=>rw [List.cons_append,y80,y80,ih];omega
def Op (enc:TypeId×Value→H) (w:World) (sp:Nat→Bool) (held:Bool) (t:TypeId) {α:Type} (f:α→List Leaf) (N:α→Nat) (Q:α→Prop) (m:Nat):Prop:=
 ∀cs x,DataW.trod enc Tryz.prog w 0 sp held m t cs=some x→bulk x.1≤1048576→ ∃d:α,ReadsL w (Lo w.heap.size) (f d) cs∧N d≤bulk x.1∧Q d
theorem c_str:Tryz.prog.cellsOf 9=1:=by kernel_rfl
theorem q3s {a:Addr} {n:Nat} {cs:List Value} (h:w.cells? 0 a n=some cs):cs.length=n∧ ∀j u,cs[j]?=some u→w.cell? (a.add j)=some u:=by
 unfold World.cells? at h;rw [if_pos (Qak _)] at h;refine ⟨by simpa using mapM_some_length h,fun j u hj=>?_⟩;have hlt:j<cs.length:=(Qac.1 hj).1
 have hl:cs.length=n:=by simpa using mapM_some_length h
 have:=mapM_some_get h j j (by rw [List.getElem?_range (by omega)]);rw [this];exact hj
theorem o_list {t e:TypeId} {α:Type} {f:α→List Leaf} {N:α→Nat} {Q:α→Prop} {k m:Nat} (ht:Tryz.prog.underlying t=some (.slice e)) (hc:Tryz.prog.cellsOf e=k) (hk:0<k) (hf: ∀d,(f d).length=k) (h: ∀n,n<m→Op enc w sp held e f N Q n)
  {c:Value} {y:DataW H×List MemPlace} (hy:DataW.trod enc Tryz.prog w 0 sp held m t [c]=some y) (hb:bulk y.1≤1048576):
  ∃l:List α,Reads w (Lo w.heap.size) (.list l.length (l.flatMap f)) c∧sumN N l+1≤bulk y.1∧ ∀d∈l,Q d:=by
 rcases DataW.trod_slice ht hy with ⟨h0,hx⟩|⟨a,len,cap,elems,rest,n,rfl,h0,hx,_,hl,hm,hlen,hel,_⟩
 ·injection h0 with h0 _;refine ⟨[],by rw [h0];exact z29,?_,fun d hd=>by cases hd⟩;rw [hx];simp [bulk,Rows.uptoBulk,sumN]
 ·injection h0 with h0 _
  have hbk:bulk y.1=z07 (elems.map (·.1))+z07 (rest.map (·.1))+1:=by rw [hx];simp only [bulk,z07,Rows.uptoBulk]
  have main: ∀i,i≤len→ ∃(l:List α) (vs:List Value),l.length=i∧vs.length=i*k∧ReadsL w (Lo w.heap.size) (l.flatMap f) vs∧(∀j u,vs[j]?=some u→w.cell? (a.add j)=some u)∧sumN N l≤z07 ((elems.take i).map (·.1))∧ ∀d∈l,Q d:=by
   intro i
   induction i with
   |zero=>intro _;exact ⟨[],[],rfl,by simp,ReadsL.nil,fun j u hu=>by simp at hu,by simp [sumN],fun d hd=>by cases hd⟩
   |succ i ih=>
    intro hi;obtain ⟨l,vs,h1,h2,h3,h4,h5,h6⟩:=ih (by omega);have hE:=hel i (by omega);obtain ⟨z,hz⟩: ∃z,elems[i]?=some z:=⟨_,Qad (by omega)⟩;rw [hz,hc] at hE;simp only [Qag] at hE;obtain ⟨cs,hcs,htr⟩:=hE;obtain ⟨hcl,hcg⟩:=q3s hcs
    have hzb:bulk z.1≤z07 (elems.map (·.1)):=by
     have hs:elems=elems.take i++z::elems.drop (i+1):=by
      obtain ⟨hlt,rfl⟩:=Qac.1 hz;simp
     rw [hs,Qas,List.map_cons,x07,y80];omega
    obtain ⟨d,g1,g2,g3⟩:=h n (Qaw _) cs z htr (by omega)
    have htk:elems.take (i+1)=elems.take i++[z]:=by rw [List.take_add_one,hz];rfl
    refine ⟨l++[d],vs++cs,by simp [h1],by rw [Qae,h2,hcl,Nat.succ_mul],?_,?_,?_,?_⟩
    ·rw [Qbu]
     have e1:[d].flatMap f=f d:=by simp
     rw [e1];exact h3.app g1
    ·intro j u hu;rcases Qbm j vs.length with hj|hj
     ·rw [Qa9 hj] at hu;exact h4 j u hu
     ·rw [Qba hj] at hu;have:=hcg _ u hu;rw [x08,h2] at this
      have e:i*k+(j - i*k)=j:=by omega
      rw [e] at this;exact this
    ·rw [htk,Qas,x07,y73]
     have e2:z07 ([z].map (·.1))=bulk z.1:=by rw [List.map_cons,List.map_nil,y80,x06];omega
     have e3:sumN N [d]=N d:=by simp [sumN]
     rw [e2,e3];omega
    ·intro x hx;rcases Qbf.1 hx with hx|hx
     ·exact h6 x hx
     ·rw [Qax.1 hx];exact g3
  obtain ⟨l,vs,h1,h2,h3,h4,h5,h6⟩:=main len (Qab _);refine ⟨l,?_,?_,h6⟩
  ·rw [h0,h1];refine y19 hl hm h3 (fun hne=>⟨a,rfl,?_,h4⟩);obtain ⟨u,r,hvs⟩:=List.exists_cons_of_ne_nil hne;have hcell:=h4 0 u (by rw [hvs];rfl);have hblk:=World.block_lt_of_cell? _ _ hcell;rw [y55] at hblk;exact hblk
  ·rw [Qaj (by omega)] at h5;omega
end
end Go.Proofs.YtbpgkkoeehopjaaGreat.opn
namespace Go.Proofs.YtbpgkkoeehopjaaGreat.opn
open words tree gram rd dat
section
variable {H : Type} {enc : TypeId × Value → H} {w : World} {sp : Nat → Bool} {held : Bool}
theorem x24 {α:Type} (l:List α):sumN (fun _=>1) l=l.length:=by
 induction l with
 |nil=>rfl
 |cons a l ih=>simp only [sumN,ih,List.length_cons];omega
end
open hp
section
variable {H : Type} {enc : TypeId × Value → H} {w : World} {sp : Nat → Bool} {held : Bool}
theorem op_str (n:Nat):Op enc w sp held 9 (fun s:Txt=>[str' s]) (fun s=>s.length+1) (fun _=>True) n:=by
 intro cs x h hb;obtain ⟨s,hc,hx,_⟩:=DataW.trod_string Tryz.underlying9 h;subst hc;refine ⟨s.data.toList,(by show ReadsL w _ [Leaf.lit (.string (str s.data.toList))] _;rw [str_of];exact ReadsL.cons (y1z rfl) ReadsL.nil),?_,trivial⟩;rw [hx];simp [bulk,Rows.uptoBulk]
theorem o_strs {m n c:Nat} {A:Option Addr} {y:DataW H×List MemPlace} (hy:DataW.trod enc Tryz.prog w 0 sp held m 27 [.slice A n c]=some y) (hb:bulk y.1≤1048576):
  ∃l:List Txt,l.length=n∧Reads w (Lo w.heap.size) (.list n (l.flatMap fun s=>[str' s])) (.slice A n c)∧sumN (fun s=>s.length+1) l+1≤bulk y.1:=by
 obtain ⟨l,hl,hN,_⟩:=o_list Tryz.underlying27 c_str (by decide) (fun _=>rfl) (fun n _=>op_str n) hy hb;obtain ⟨A',c',us,he,_,_,hr,hs⟩:=y0k hl;injection he with e1 e2 e3;rw [←e2] at hl;exact ⟨l,e2.symm,hl,hN⟩
end
end Go.Proofs.YtbpgkkoeehopjaaGreat.opn
namespace Go.Proofs.YtbpgkkoeehopjaaGreat.frame
open Go.ChangeShapes Go.WideShapes Go.ChangeAt Go.RowKit words
section
variable {H : Type} {enc : TypeId × Value → H} {P : Program}
theorem z08 (hl:laidOutB P=true) {W W':World} (hb:Below W.heap.size W W'):
  ∀(ts:List TypeId) (vs:List Value) (ds:List (DataW H)) (ps:List MemPlace),
   (∀t∈ts,P.readableRec t=true∧t<P.types.size)→DataW.TrodAll enc P W 0 (fun _=>true) true ts vs ds ps→(∀x∈ps,x.block<W.heap.size)→
   DataW.TrodAll enc P W' 0 (fun b=>decide (b<W.heap.size)) true ts vs ds ps
 |[],vs,ds,ps,_,h,_=>by obtain ⟨rfl,rfl,rfl⟩:=trodAll_nil h;exact trodAll_mk0
 |t::ts,vs,ds,ps,hr,h,hlt=>by
  obtain ⟨v,vs',d,ds',p,q,rfl,rfl,rfl,h0,h1⟩:=trodAll_cons h
  exact trodAll_cons_mk (Below.trod hl (hr t (by simp)).1 (hr t (by simp)).2 h0 hb (fun x hx=>hlt x (by simp [hx])))
   (z08 hl hb ts vs' ds' q (fun t ht=>hr t (by simp [ht])) h1 (fun x hx=>hlt x (by simp [hx])))
theorem law_post {f:Func} {s:ChangeSpec} {apart handsOn:Bool} {W W':World} {args:Array Value} {ds gs:List (DataW H)} {before:List MemPlace} {bt:TypeId} (hs:s.vars=[])
  (hres:(s.fn H (ds++gs)).results=[.lit (.bool true)]) (hargs:(s.fn H (ds++gs)).args=ds) (hvars:(s.fn H (ds++gs)).vars=[])
  (hl:laidOutB P=true) (hr: ∀t∈f.params.toList,P.readableRec t=true∧t<P.types.size) (hrt:f.resultTypes= #[bt]) (hbt:P.underlying bt=some .bool)
  (hW:DataW.Whole enc P f.params.toList s.vars apart W args.toList ds gs before) (hb:Below W.heap.size W W'):
  s.post enc P f apart true handsOn false W args (.bool true) W':=by
 have hlt: ∀x∈before,x.block<W.heap.size:=fun x hx=>by simpa using hW.lt x hx
 have hW':=hW;obtain ⟨p,q,hA,hV,rfl,_,_⟩:=hW;rw [hs] at hV;obtain ⟨rfl,rfl⟩:=trodVars_none hV;refine ⟨ds,[],p++[],[],p,[],hW',?_,?_,?_,hb.frame _,fun h=>by cases h⟩
 ·rw [hres,hrt];exact trodAll_cons_mk (shut_bool hbt _) trodAll_mk0
 ·rw [hargs];exact z08 hl hb _ _ _ _ hr hA (fun x hx=>hlt x (by simpa using hx))
 ·rw [hvars,hs];rfl
end
end Go.Proofs.YtbpgkkoeehopjaaGreat.frame
namespace Go.Proofs.YtbpgkkoeehopjaaGreat.typesysOrders
open Go.ChangeMaps (open_string shut_string)
open Go.ChangeShapes Go.WideShapes Go.ChangeAt Go.RowKit words tree gram rd dat opn hp frame
set_option maxRecDepth 100000
theorem own:ownKnob Tryz.prog.godebug=none:=by kernel_rfl
theorem laidOut:laidOutB Tryz.prog=true:=by kernel_rfl
theorem bound {H:Type} {l:List (DataW H)} (hk:Rows.uptoSmall H l=true):Rows.uptoBulkAll l≤1048576:=Qa6 hk
theorem lo_in {w:World} {t:Leaf} {v:Value} (h:Reads w (Lo w.heap.size) t v):RD w t v:=⟨h.keep (fun b hb=>⟨Qak _,hb⟩) (fun _ _=>rfl),Qab _⟩
open mac lex
theorem sum_len1: ∀l:List Txt,sumN (fun s:Txt=>s.length+1) l=sumN List.length l+l.length
 |[]=>rfl
 |x::r=>by simp only [sumN,sum_len1 r,List.length_cons];omega
theorem contract (H:Type) (enc:TypeId×Value→H) (W:World) (base:Nat) (args:Array Value) (ds gs:List (DataW H)) (before:List MemPlace)
  (hval: ∀(j:Nat) t v,Tryz.f4.params[j]?=some t→args[j]?=some v→Value.okWide Tryz.prog W .any base t v)
  (hW:DataW.Whole enc Tryz.prog Tryz.f4.params.toList Rows.typesysOrdersSpec.vars false W args.toList ds gs before) (hk:Rows.uptoSmall H (ds++gs)=true):
  Calls Tryz.prog 4 args W fun e W'=>∃v,e= .returned v∧Rows.typesysOrdersSpec.post enc Tryz.prog Tryz.f4 false true false false W args v W':=by
 have hW':=hW;obtain ⟨p,q,hA0,hV,rfl,hfz,hnd⟩:=hW;have hA:DataW.TrodAll enc Tryz.prog W 0 (fun _=>true) true Tryz.f4.params.toList args.toList ds p:=hA0;rw [Tryz.params4] at hA hval;obtain ⟨v0,vs0,d0,ds0,p0,q0,hargs,rfl,rfl,h0,r0⟩:=trodAll_cons hA;obtain ⟨v1,vs1,d1,ds1,p1,q1,rfl,rfl,rfl,h1,r1⟩:=trodAll_cons r0;obtain ⟨rfl,rfl,rfl⟩:=trodAll_nil r1
 obtain rfl:args= #[v0,v1]:=by cases args;simp_all
 obtain ⟨rfl,rfl⟩:=trodVars_none hV;have hbulk:=bound hk;simp only [List.append_nil,Rows.uptoBulkAll] at hbulk;clear hk hA0;simp only [List.append_nil] at hW'
 have fin: ∀(e:Ending) (W':World),(e= .returned (.bool true)∧Below W.heap.size W W')→ ∃v,e= .returned v∧Rows.typesysOrdersSpec.post enc Tryz.prog Tryz.f4 false true false false W #[v0,v1] v W':=fun e W' ⟨he,hb⟩=>by
  subst he;refine ⟨_,rfl,law_post rfl rfl rfl rfl laidOut ?_ (by kernel_rfl) Tryz.underlying4 hW' hb⟩;rw [Tryz.params4];intro t ht;simp only [Qbd,List.mem_nil_iff,or_false] at ht;rcases ht with rfl|rfl
  all_goals exact ⟨by kernel_rfl,Qa6 (by kernel_rfl)⟩
 obtain ⟨A_ps,n_ps,c_ps,rfl⟩:=okWide_slice Tryz.underlying27 (hval 0 27 v0 rfl rfl);obtain ⟨fu0,ht0⟩:=h0;obtain ⟨ps,hl_ps,hr0,hs_ps⟩:=o_strs ht0 (by simp only [bulk];omega);have hd_ps:=lo_in hr0;simp only [bulk] at hs_ps;obtain ⟨s1,rfl,rfl,-,-⟩:=open_string Tryz.underlying9 (hval 1 9 v1 rfl rfl) h1;obtain ⟨name,hx1⟩: ∃x:Txt,x=s1.data.toList:=⟨_,rfl⟩
 have es1:s1=str name:=by rw [hx1];exact (str_of s1).symm
 subst es1;rw [str_data] at hbulk
 have hl_name:name.length≤1048576:=by simp only [Rows.uptoBulk] at hbulk;omega
 exact (Orders_walk ps name W hl_ps (by rw [textsL_flat];exact hd_ps) (by rw [joinT_len,←sum_len1];omega)).mono fun e W' h=>fin e W' h
set_option maxRecDepth 100000 in
theorem lifted (os:Os) (started:os.Started) (H:Type) (enc:TypeId×Value→H) (F:Stop.Interp):
  ReturnsInHanded {} Tryz.checked os 4 .any ((Rows.OpenSpec.upto Rows.typesysOrdersSpec).pre6 enc Tryz.prog Tryz.f4 Rows.typesysOrdersUptoRow.domain false) (((Rows.OpenSpec.upto Rows.typesysOrdersSpec).at F).post enc Tryz.prog Tryz.f4 false true false false):=by
 refine returnsInHanded_of_cond (C:=Tryz.checked) (s:=Rows.OpenSpec.upto Rows.typesysOrdersSpec) (k:=Rows.uptoSmall) rfl own started (by kernel_rfl) Tryz.func4
  (OpenSpec.witness (enc:=enc) (C:=Tryz.checked) (s:=Rows.OpenSpec.upto Rows.typesysOrdersSpec) (k:=Rows.uptoSmall) rfl false ⟨#[], #[.slice none 0 0,.string .empty],[]⟩ 8 (by kernel_rfl) (by kernel_rfl) (by kernel_rfl)
    (x:=([.nil,.lit (.string [])],[],[])) (by kernel_rfl) rfl (by kernel_rfl)) ?_
 intro W base args ds gs before hval hW _ hk _;exact contract H enc W base args ds gs before hval hW hk
theorem and_tt {a b:Bool} (h:a=true) (h':b=true):(a&&b)=true:=by rw [h,h'];rfl
set_option maxHeartbeats 64000000 in
theorem closed:joinedFacts Tryz.prog 4 Tryz.f4 (Rows.OpenSpec.upto Rows.typesysOrdersSpec).bare Rows.typesysOrdersUptoRow=true:=by
 unfold joinedFacts
 repeat' (with_reducible refine and_tt ?_ ?_)
 all_goals (as_aux_lemma=>kernel_rfl)
theorem inst:Tryz.f4.isInstance Tryz.prog Rows.typesysOrdersUptoRow.origin Rows.typesysOrdersUptoRow.targs:=Qa6 (by kernel_rfl)
theorem proved:Rows.TypesysOrdersUptoSaid:=
 OpenClaim.holds_of_cond 4 Tryz.f4 rfl rfl rfl rfl rfl rfl rfl ⟨rfl,rfl,rfl,rfl,rfl⟩ rfl rfl rfl rfl rfl (by kernel_rfl) Tryz.func4 closed
  inst (by unfold Func.isWrapper;first|(rw [if_pos (by decide+kernel)];kernel_rfl)|(rw [if_neg (by decide+kernel)];exact ⟨rfl,rfl⟩))
  (fun os started H enc _ F=>lifted os started H enc F)
#print axioms proved
end Go.Proofs.YtbpgkkoeehopjaaGreat.typesysOrders
