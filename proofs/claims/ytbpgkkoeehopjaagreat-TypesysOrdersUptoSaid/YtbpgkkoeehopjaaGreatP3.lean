/- Part 3 of a proof: see the text that holds the statement. -/
import Derived.Test.YtbpgkkoeehopjaaGreatP1
import Derived.Test.YtbpgkkoeehopjaaGreatP2
import Derived.Deep.QuietTactic
import Derived.BigQuiet
import Derived.WalkSmall
import Derived.Deep.RegionWith
set_option linter.unusedVariables false
set_option linter.unusedSimpArgs false
namespace Go.Proofs.YtbpgkkoeehopjaaGreat.lines
open Go.RowKit words enc dec ref ln
set_option maxRecDepth 100000
theorem q4g:(Tryz.prog.info? 3).map (fun i=>(i.zero,i.size,i.bytes))=some (some (.int .i64 0),1,8):=by kernel_rfl
theorem q77 {B:Nat} (w:World) (cs:List Value) (t:TypeId) (hB:B≤w.heap.size) (hm:cs.length≤maxLen):
  (w.alloc (.cells cs.toArray t)).ownsRow B t 1 (.slice (some ⟨w.heap.size,0,none⟩) cs.length cs.length) cs.length cs:=
 ⟨by simp,.inr ⟨w.heap.size,cs.length,cs.toArray,rfl,hB,heap_alloc_new w _,Qab _,hm,by simp,by simp⟩⟩
def y5f (l:List Nat):List Value:=l.map fun x:Nat=>Value.int .i64 (x:Int)
theorem x54 (l:List Nat):(y5f l).length=l.length:=by simp [y5f]
theorem y7k {w:World} {B:Nat} {A:Option Addr} {l:List Nat} {k x:Nat} (h:Rd w B A (y5f l)) (hx:l[k]?=some x):
  ∃ad,A=some ad∧ad.block<B∧w.cell? (ad.add k)=some (.int .i64 (x:Int)):=by
 obtain ⟨hk,rfl⟩:=Qac.1 hx;obtain ⟨ad,e,hb,hc⟩:=h.at (k:=k) (by rw [x54];exact hk);exact ⟨ad,e,hb,by rw [hc];simp [y5f]⟩
theorem x1j (x:Int): ∀u∈[Value.int .i64 x],u.oneCell'=true:=by intro u hu;simp at hu;subst hu;rfl
theorem x9g (w:World) (B:Nat) (x:Int) (hB:w.heap.size<B):Rd (w.alloc (.cells #[.int .i64 x] 3)) B (some ⟨w.heap.size,0,none⟩) [.int .i64 x]:=
 y3f w [.int .i64 x] 3 hB
theorem z5m (A:Option Addr) (n c B:Nat) (zs:List Int) (w:World) (hr:Rd w B A (zs.map (Value.int .i32))) (hB:B≤w.heap.size) (hl:zs.length=n) (hn:n≤4194304):
  Calls Tryz.prog 168 #[.slice A n c] w fun e w'=>∃v,e= .returned v∧w'.ownsRow w.heap.size 3 1 v (y0f zs n).length (y5f (y0f zs n))∧Below w.heap.size w w':=by
 obtain ⟨i0,hi0,hz0,hz1,hz2⟩:=info_parts q4g;have HL:=hide hl;clear hl;have hnew:=q77 w [.int .i64 0] 3 (Qab _) (by simp [maxLen]);go_enter Tryz.func168,Tryz.ntmps168
 go_wp2
 go_loopw [3,4] (fun v i wr=>∃k:Nat,k≤n∧i= .int .i64 k∧wr.ownsRow w.heap.size 3 1 v (y0f zs k).length (y5f (y0f zs k))∧Below w.heap.size w wr) (fun _ i _=>n - (intOf i).toNat)
 case atStart=>exact ⟨0,Qak _,rfl,hnew,(Below.refl _ _).alloc (Qab _) _⟩
 case round=>
  obtain ⟨k,hk,rfl,hown,hb⟩:=hrel;obtain ⟨Av,cv,rfl,_,_⟩:=y0e hown;clear hnew;by_cases hlt:k<n
  ·have hrr:=hr.below' hb hB;obtain ⟨ad,z,rfl,hz,had,hc⟩:=hrr.i32 (k:=k) (by rw [HL.out];exact hlt);have hsl:=y8e zs k;have HC:=hide (q39 hz);clear hz;by_cases h10:z=10
   ·subst h10;have HS:=hide (y1s (zs:=zs) (k:=k) (q4a HC.out))
    go_wp2_with (at_builtin;refine y0b _ rfl _ _ 223 rfl w.heap.size 3 i0 (.int .i64 0) 1 8 Tryz.underlying223 hi0 hz0 hz1 hz2 rfl (by decide) _ _ _ rfl (hown.alloc _) _ _ 1 1 _ rfl (by rfl) (x9g _ _ _ (Qaw _)) (x1j _) ?c3 ?c4 ?c5 ?_)
    case c3=>simp only [maxLen];omega
    case c4=>omega
    case c5=>exact Qah hb.size (by simp)
    intro v2 w2 hown2 hg2 hat2;have hb2:=y0d (hb.alloc hb.size _) (hown.alloc _) (Qab _) hg2 (Qah hb.size (by simp))
    go_wp2_with fail
    go_roundw
    case rel=>
     refine ⟨k+1,by omega,by go_num,?_,hb2⟩;rw [HS.out,Qae]
     have e:y5f (y0f zs k++[k+1])=y5f (y0f zs k)++[.int .i64 ((k:Int)+1)]:=by simp [y5f]
     rw [e];exact hown2
    case measure=>simp [intOf];omega
   have b10:((z:Int)==10)=false:=by rw [Qa3];exact h10
   have n10:((z:Int) !=10)=true:=by rw [bne,b10];rfl
   by_cases h13:z=13
   ·subst h13;by_cases h3:k+1<n
    ·obtain ⟨ad',y,ea,hy,had',hc'⟩:=hrr.i32 (k:=k+1) (by rw [HL.out];omega);injection ea with ea;subst ea;rw [y3l] at hc';have HC':=hide (q39 hy);clear hy;by_cases h4:y=10
     ·subst h4;have HS:=hide (y1j (zs:=zs) (k:=k) (x5z HC.out (by rw [HL.out];exact h3) HC'.out))
      go_wp2_with fail
      go_roundw
      case rel=>exact ⟨k+1,by omega,by go_num,by rw [HS.out];exact hown,hb⟩
      case measure=>simp [intOf];omega
     ·have y10:((y:Int)==10)=false:=by rw [Qa3];exact h4
      have HS:=hide (y1s (zs:=zs) (k:=k) (x3n HC.out (by rw [HC'.out];intro hh;exact h4 hh.2)))
      go_wp2_with (at_builtin;refine y0b _ rfl _ _ 223 rfl w.heap.size 3 i0 (.int .i64 0) 1 8 Tryz.underlying223 hi0 hz0 hz1 hz2 rfl (by decide) _ _ _ rfl (hown.alloc _) _ _ 1 1 _ rfl (by rfl) (x9g _ _ _ (Qaw _)) (x1j _) ?c3 ?c4 ?c5 ?_)
      case c3=>simp only [maxLen];omega
      case c4=>omega
      case c5=>exact Qah hb.size (by simp)
      intro v2 w2 hown2 hg2 hat2;have hb2:=y0d (hb.alloc hb.size _) (hown.alloc _) (Qab _) hg2 (Qah hb.size (by simp))
      go_wp2_with fail
      go_roundw
      case rel=>
       refine ⟨k+1,by omega,by go_num,?_,hb2⟩;rw [HS.out,Qae]
       have e:y5f (y0f zs k++[k+1])=y5f (y0f zs k)++[.int .i64 ((k:Int)+1)]:=by simp [y5f]
       rw [e];exact hown2
      case measure=>simp [intOf];omega
    ·have hk3: ¬((k:Int)+1<(n:Int)):=by omega
     have HS:=hide (y1s (zs:=zs) (k:=k) (x3n HC.out (by rw [HL.out];omega)))
     go_wp2_with (at_builtin;refine y0b _ rfl _ _ 223 rfl w.heap.size 3 i0 (.int .i64 0) 1 8 Tryz.underlying223 hi0 hz0 hz1 hz2 rfl (by decide) _ _ _ rfl (hown.alloc _) _ _ 1 1 _ rfl (by rfl) (x9g _ _ _ (Qaw _)) (x1j _) ?c3 ?c4 ?c5 ?_)
     case c3=>simp only [maxLen];omega
     case c4=>omega
     case c5=>exact Qah hb.size (by simp)
     intro v2 w2 hown2 hg2 hat2;have hb2:=y0d (hb.alloc hb.size _) (hown.alloc _) (Qab _) hg2 (Qah hb.size (by simp))
     go_wp2_with fail
     go_roundw
     case rel=>
      refine ⟨k+1,by omega,by go_num,?_,hb2⟩;rw [HS.out,Qae]
      have e:y5f (y0f zs k++[k+1])=y5f (y0f zs k)++[.int .i64 ((k:Int)+1)]:=by simp [y5f]
      rw [e];exact hown2
     case measure=>simp [intOf];omega
   ·have b13:((z:Int)==13)=false:=by rw [Qa3];exact h13
    have n13:((z:Int) !=13)=true:=by rw [bne,b13];rfl
    have HS:=hide (y1j (zs:=zs) (k:=k) (x1d (by rw [HC.out];exact h10) (by rw [HC.out];exact h13)))
    go_wp2_with fail
    go_roundw
    case rel=>exact ⟨k+1,by omega,by go_num,by rw [HS.out];exact hown,hb⟩
    case measure=>simp [intOf];omega
  ·have hkn:k=n:=by omega
   subst hkn
   go_wp2_with fail
   go_ret;exact ⟨_,rfl,hown,hb⟩
theorem z1c {i:TypeInfo} {n:Nat} (h:i.bytes=4) (hn:n≤4194304):i.bytes*n≤281474976710656:=by rw [h];omega
theorem y3n (A:Option Addr) (n c:Nat): ∀u∈[Value.slice A n c],u.oneCell'=true:=by intro u hu;simp at hu;subst hu;rfl
theorem y48 {w:World} {B:Nat} {cs:List Value} {L:List (List Int)} {v:Value} (h:RowsOwn w B cs L) (hv: ∀g,v.ownBlock=some g→w.heap.size≤g): ∀u∈cs,u.ownBlock=none∨u.ownBlock≠v.ownBlock:=by
 intro u hu;obtain ⟨l,hl⟩:=y3a h hu;by_cases h0:u.ownBlock=none
 ·exact .inl h0
 ·refine .inr fun e=>?_;obtain ⟨g,hg⟩:=Option.ne_none_iff_exists'.1 h0;have h1:=(hl.lt g hg).2;have h2:=hv g (by rw [←e];exact hg);omega
theorem x9h {w:World} {B B':Nat} {cs:List Value} {L:List (List Int)} (h:RowsOwn w B cs L) (hB:B'≤B):RowsOwn w B' cs L:=
 ⟨h.len,fun j l hl=>let ⟨v,hv,ho⟩:=h.rows j l hl;⟨v,hv,z60 ho hB⟩,h.apart⟩
theorem y7w (zs:List Int) (a b:Nat):(cut zs a b).map (Value.int .i32)=((zs.map (Value.int .i32)).take b).drop a:=by simp [cut,List.map_drop,List.map_take]
theorem x9i {zs:List Int} {a e:Nat} (h1:ch zs (e+1)=10) (h2:a<e+1) (h3:ch zs e=13):y7t zs a (e+2)=e:=by
 unfold y7t;rw [if_pos ⟨h1,h2,h3⟩];omega
theorem z62 {zs:List Int} {a e:Nat} (h: ¬(ch zs e=10∧a<e∧ch zs (e - 1)=13)):y7t zs a (e+1)=e:=by
 unfold y7t;rw [if_neg];·omega
 ·rintro ⟨h1,h2,h3⟩;exact h ⟨by simpa using h1,by omega,by rw [show e - 1=e+1 - 2 by omega];exact h3⟩
set_option maxHeartbeats 2000000 in
theorem z8z (A:Option Addr) (n c B:Nat) (zs:List Int) (w:World) (hr:Rd w B A (zs.map (Value.int .i32))) (hB:B≤w.heap.size) (hl:zs.length=n) (hnc:n≤c) (hcm:c≤maxLen) (hn:n≤4194304):
  Calls Tryz.prog 210 #[.slice A n c] w (x9a zs w):=by
 obtain ⟨i0,hi0,hz0,hz1,hz2⟩:=info_parts y95;obtain ⟨i1,hi1,hz3,hz4,hz5⟩:=info_parts x50;unfold maxLen at hcm;have HL:=hide hl;clear hl;have hm1:=y8d zs n;have hm2:=y8e zs n;go_enter Tryz.func210,Tryz.ntmps210
 go_wp2_with fail
 refine (z5m A n c B zs _ hr hB HL.out hn).mono ?_;rintro e w1 ⟨vs,rfl,howns,hb1⟩;obtain ⟨As,cS,rfl,_,_⟩:=y0e howns;obtain ⟨m,hm⟩: ∃m,(y0f zs n).length=m:=⟨_,rfl⟩;have hs:=Rd.of_own howns;rw [hm] at hm1 hm2 ⊢;have HM:=hide hm;clear hm howns;have hr1:=hr.below' hb1 hB;have hB1:B≤w1.heap.size:=Qah hB hb1.size;clear hr
 go_wp2_with fail
 go_loopw [3,5] (fun vo i wr=>∃(j:Nat) (cs:List Value),j≤m∧i= .int .i64 j∧cs.length=j∧wr.ownsRow w1.heap.size 187 1 vo cs.length cs∧RowsOwn wr w1.heap.size cs ((y1t zs).take j)∧Below w1.heap.size w1 wr) (fun _ i _=>m - (intOf i).toNat)
 case atStart=>exact ⟨0,[],Qak _,rfl,rfl,World.ownsRow_nil _ _ _ _,q4e _ _,Below.refl _ _⟩
 case round=>
  obtain ⟨j,cs,hj,rfl,hcsl,howno,hrows,hb⟩:=hrel;obtain ⟨Ao,co,rfl,_,_⟩:=y0e howno;have HCL:=hide hcsl;rw [hcsl] at howno ⊢;clear hcsl;by_cases hlt:j<m
  ·obtain ⟨a,ha⟩: ∃a,(y0f zs n)[j]?=some a:=⟨(y0f zs n)[j]'(by rw [HM.out];exact hlt),Qad _⟩;have han:=y2h zs n j a ha;obtain ⟨ads,rfl,_,hca⟩:=y7k (hs.below' hb (Qab _)) ha;by_cases hlast:j+1<m
   ·obtain ⟨b,hb0⟩: ∃b,(y0f zs n)[j+1]?=some b:=⟨(y0f zs n)[j+1]'(by rw [HM.out];exact hlast),Qad _⟩;have hab:=y6u zs n j a b ha hb0;have hbn:=y2h zs n (j+1) b hb0;obtain ⟨e,rfl⟩: ∃e,b=e+1:=⟨b - 1,by omega⟩;have hfact:=q4c (zs:=zs) (j:=j) (a:=a) (b:=e+1) (by rw [HL.out];exact ha) (by rw [HL.out];exact hb0);obtain ⟨ads',eas,_,hcb⟩:=y7k (hs.below' hb (Qab _)) hb0;injection eas with eas;subst eas;rw [y3l] at hcb;have hcb':wr.cell? ⟨ads.block,ads.off+(j+1),none⟩=some (.int .i64 ((e:Int)+1)):=hcb;clear hcb hb0;have hrw:=hr1.below' hb hB1;obtain ⟨ad,y,rfl,hy,had,hce⟩:=hrw.i32 (k:=e) (by rw [HL.out];omega);have hchy:=q39 hy;have HY:=hide hchy;have HF:=hide hfact;clear hy hchy hfact;by_cases h10:y=10
    ·subst h10;by_cases hae:a<e
     ·obtain ⟨f,rfl⟩: ∃f,e=f+1:=⟨e - 1,by omega⟩;have hcb2:wr.cell? ⟨ads.block,ads.off+(j+1),none⟩=some (.int .i64 ((f:Int)+1+1)):=hcb';rw [y3l] at hce;clear hcb';obtain ⟨ad',x,ea,hx,had',hcx⟩:=hrw.i32 (k:=f) (by rw [HL.out];omega);injection ea with ea;subst ea;have HX:=hide (q39 hx);clear hx;by_cases h13:x=13
      ·subst h13
       have hfact:(y1t zs)[j]?=some (cut zs a f):=by rw [HF.out,x9i HY.out (by omega) HX.out]
       have hrr:Rd w1 B (some (ad.add a)) ((cut zs a f).map (Value.int .i32)):=by rw [y7w];exact (hr1.take f).drop a
       clear HF;have HLINE:=hide hfact;have hml:(cut zs a f).length=f - a:=(y34 (by rw [HL.out];omega)).trans (by omega);have HML:=hide hml;clear hml
       go_wp2_with (at_make;refine wpList_make_own _ rfl _ _ 187 rfl w1.heap.size 21 i0 (.int .i32 0) 1 Tryz.underlying187 hi0 hz0 hz1 _ _ _ (f - a) rfl rfl (by omega) (z1c hz2 (by omega)) (by simp only [maxLen];omega) hb.size ?_)
       intro w2 hown2 hg2;have hb2:Below wr.heap.size wr w2:=(Below.refl _ _).grown hg2 (Qab _) (fun k hk=>by cases hk);have hbb2:=hb.trans (hb2.mono hb.size);have hcs2:=(hs.below' hbb2 (Qab _));obtain ⟨ads2,eas2,_,hca2⟩:=y7k hcs2 ha;injection eas2 with eas2;subst eas2;have hr2:=hrr.below' hbb2 hB1
       go_wp2_with (at_builtin;refine y0b _ rfl _ _ 187 rfl w1.heap.size 21 i0 (.int .i32 0) 1 4 Tryz.underlying187 hi0 hz0 hz1 hz2 rfl (by decide) _ 0 [] rfl hown2 B _ _ _ _ rfl ?c1 hr2 (y33 _) ?c3 ?c4 hbb2.size ?_)
       case c1=>rw [Qay,HML.out,Nat.mul_one]
       case c3=>simp only [maxLen];omega
       case c4=>omega
       intro v3 w3 hown3 hg3 hat3;have hb3:Below wr.heap.size wr w3:=hb2.grown hg3 hb2.size (fun k hk=>by simp [Value.ownBlock] at hk;omega)
       have hfr: ∀u∈cs,u.ownBlock=none∨u.ownBlock≠v3.ownBlock:=y48 hrows (fun g hg=>by
        rcases hat3 with h|h
        ·rw [h] at hg;simp [Value.ownBlock] at hg;omega
        ·rw [h] at hg;injection hg with hg;have:=hb2.size;omega)
       obtain ⟨A3,c3,rfl,_,_⟩:=y0e hown3
       have hown3':w3.ownsRow w1.heap.size 21 1 (.slice A3 (f - a) c3) (cut zs a f).length ((cut zs a f).map (Value.int .i32)):=by rw [HML.out];exact hown3
       have hrows3:=y58 (y47 hrows hb3) hown3' hfr;have howno3:=y22 howno hb3;have hbb3:=hb.trans (hb3.mono hb.size);have hrows4:=y2b hrows3 (World.grownBy_alloc _ (.cells #[.slice A3 (f - a) c3] 187) none) (fun v _=>by cases v.ownBlock<;>simp);have HFR:=hide hfr;clear hfr hown3 hown3' hat3 hown2 hr2 hca2
       go_wp2_with (at_builtin;refine y0b _ rfl _ _ 260 rfl w1.heap.size 187 i1 (.slice none 0 0) 1 24 Tryz.underlying260 hi1 hz3 hz4 hz5 rfl (by decide) _ _ _ rfl (howno3.alloc _) _ _ 1 1 _ rfl (by rfl) (y8f _ _ _ (Qaw _)) (y3n _ _ _) ?c5 ?c6 ?c7 ?_)
       case c5=>simp only [maxLen];omega
       case c6=>omega
       case c7=>exact Qah hbb3.size (by simp)
       intro v5 w5 hown5 hg5 hat5
       have hrows5:=y2b hrows4 hg5 (fun v hv=>by
        obtain ⟨l,hl⟩:=y3a hrows4 hv
        exact y23 hl (howno3.alloc _) (by decide))
       have hb5:=y0d (hbb3.alloc hbb3.size _) (howno3.alloc _) (Qab _) hg5 (Qah hbb3.size (by simp))
       go_wp2_with fail
       go_roundw
       case rel=>
        refine ⟨j+1,cs++[.slice A3 (f - a) c3],by omega,by go_num,by rw [Qae,HCL.out];rfl,?_,?_,hb5⟩
        ·rw [Qae,HCL.out];exact hown5
        ·rw [y3m HLINE.out];exact hrows5
       case measure=>simp [intOf];omega
      ·have x13:((x:Int)==13)=false:=by rw [Qa3];exact h13
       have hfact:(y1t zs)[j]?=some (cut zs a (f+1)):=by rw [HF.out,z62 (by rw [Nat.add_sub_cancel,HX.out];intro hh;exact h13 hh.2.2)]
       have hrr:Rd w1 B (some (ad.add a)) ((cut zs a (f+1)).map (Value.int .i32)):=by rw [y7w];exact (hr1.take (f+1)).drop a
       clear HF h13;have HLINE:=hide hfact;have hml:(cut zs a (f+1)).length=(f+1) - a:=(y34 (by rw [HL.out];omega)).trans (by omega);have HML:=hide hml;clear hml
       go_wp2_with (at_make;refine wpList_make_own _ rfl _ _ 187 rfl w1.heap.size 21 i0 (.int .i32 0) 1 Tryz.underlying187 hi0 hz0 hz1 _ _ _ ((f+1) - a) rfl rfl (by omega) (z1c hz2 (by omega)) (by simp only [maxLen];omega) hb.size ?_)
       intro w2 hown2 hg2;have hb2:Below wr.heap.size wr w2:=(Below.refl _ _).grown hg2 (Qab _) (fun k hk=>by cases hk);have hbb2:=hb.trans (hb2.mono hb.size);have hcs2:=(hs.below' hbb2 (Qab _));obtain ⟨ads2,eas2,_,hca2⟩:=y7k hcs2 ha;injection eas2 with eas2;subst eas2;have hr2:=hrr.below' hbb2 hB1
       go_wp2_with (at_builtin;refine y0b _ rfl _ _ 187 rfl w1.heap.size 21 i0 (.int .i32 0) 1 4 Tryz.underlying187 hi0 hz0 hz1 hz2 rfl (by decide) _ 0 [] rfl hown2 B _ _ _ _ rfl ?c1 hr2 (y33 _) ?c3 ?c4 hbb2.size ?_)
       case c1=>rw [Qay,HML.out,Nat.mul_one]
       case c3=>simp only [maxLen];omega
       case c4=>omega
       intro v3 w3 hown3 hg3 hat3;have hb3:Below wr.heap.size wr w3:=hb2.grown hg3 hb2.size (fun k hk=>by simp [Value.ownBlock] at hk;omega)
       have hfr: ∀u∈cs,u.ownBlock=none∨u.ownBlock≠v3.ownBlock:=y48 hrows (fun g hg=>by
        rcases hat3 with h|h
        ·rw [h] at hg;simp [Value.ownBlock] at hg;omega
        ·rw [h] at hg;injection hg with hg;have:=hb2.size;omega)
       obtain ⟨A3,c3,rfl,_,_⟩:=y0e hown3
       have hown3':w3.ownsRow w1.heap.size 21 1 (.slice A3 ((f+1) - a) c3) (cut zs a (f+1)).length ((cut zs a (f+1)).map (Value.int .i32)):=by rw [HML.out];exact hown3
       have hrows3:=y58 (y47 hrows hb3) hown3' hfr;have howno3:=y22 howno hb3;have hbb3:=hb.trans (hb3.mono hb.size);have hrows4:=y2b hrows3 (World.grownBy_alloc _ (.cells #[.slice A3 ((f+1) - a) c3] 187) none) (fun v _=>by cases v.ownBlock<;>simp);have HFR:=hide hfr;clear hfr hown3 hown3' hat3 hown2 hr2 hca2
       go_wp2_with (at_builtin;refine y0b _ rfl _ _ 260 rfl w1.heap.size 187 i1 (.slice none 0 0) 1 24 Tryz.underlying260 hi1 hz3 hz4 hz5 rfl (by decide) _ _ _ rfl (howno3.alloc _) _ _ 1 1 _ rfl (by rfl) (y8f _ _ _ (Qaw _)) (y3n _ _ _) ?c5 ?c6 ?c7 ?_)
       case c5=>simp only [maxLen];omega
       case c6=>omega
       case c7=>exact Qah hbb3.size (by simp)
       intro v5 w5 hown5 hg5 hat5
       have hrows5:=y2b hrows4 hg5 (fun v hv=>by
        obtain ⟨l,hl⟩:=y3a hrows4 hv
        exact y23 hl (howno3.alloc _) (by decide))
       have hb5:=y0d (hbb3.alloc hbb3.size _) (howno3.alloc _) (Qab _) hg5 (Qah hbb3.size (by simp))
       go_wp2_with fail
       go_roundw
       case rel=>
        refine ⟨j+1,cs++[.slice A3 ((f+1) - a) c3],by omega,by go_num,by rw [Qae,HCL.out];rfl,?_,?_,hb5⟩
        ·rw [Qae,HCL.out];exact hown5
        ·rw [y3m HLINE.out];exact hrows5
       case measure=>simp [intOf];omega
     ·have hfact:(y1t zs)[j]?=some (cut zs a e):=by rw [HF.out,z62 (by intro hh;exact hae hh.2.1)]
      have hrr:Rd w1 B (some (ad.add a)) ((cut zs a e).map (Value.int .i32)):=by rw [y7w];exact (hr1.take e).drop a
      have hae': ¬((a:Int)<(e:Int)):=by omega
      clear HF;have HLINE:=hide hfact;have hml:(cut zs a e).length=e - a:=(y34 (by rw [HL.out];omega)).trans (by omega);have HML:=hide hml;clear hml
      go_wp2_with (at_make;refine wpList_make_own _ rfl _ _ 187 rfl w1.heap.size 21 i0 (.int .i32 0) 1 Tryz.underlying187 hi0 hz0 hz1 _ _ _ (e - a) rfl rfl (by omega) (z1c hz2 (by omega)) (by simp only [maxLen];omega) hb.size ?_)
      intro w2 hown2 hg2;have hb2:Below wr.heap.size wr w2:=(Below.refl _ _).grown hg2 (Qab _) (fun k hk=>by cases hk);have hbb2:=hb.trans (hb2.mono hb.size);have hcs2:=(hs.below' hbb2 (Qab _));obtain ⟨ads2,eas2,_,hca2⟩:=y7k hcs2 ha;injection eas2 with eas2;subst eas2;have hr2:=hrr.below' hbb2 hB1
      go_wp2_with (at_builtin;refine y0b _ rfl _ _ 187 rfl w1.heap.size 21 i0 (.int .i32 0) 1 4 Tryz.underlying187 hi0 hz0 hz1 hz2 rfl (by decide) _ 0 [] rfl hown2 B _ _ _ _ rfl ?c1 hr2 (y33 _) ?c3 ?c4 hbb2.size ?_)
      case c1=>rw [Qay,HML.out,Nat.mul_one]
      case c3=>simp only [maxLen];omega
      case c4=>omega
      intro v3 w3 hown3 hg3 hat3;have hb3:Below wr.heap.size wr w3:=hb2.grown hg3 hb2.size (fun k hk=>by simp [Value.ownBlock] at hk;omega)
      have hfr: ∀u∈cs,u.ownBlock=none∨u.ownBlock≠v3.ownBlock:=y48 hrows (fun g hg=>by
       rcases hat3 with h|h
       ·rw [h] at hg;simp [Value.ownBlock] at hg;omega
       ·rw [h] at hg;injection hg with hg;have:=hb2.size;omega)
      obtain ⟨A3,c3,rfl,_,_⟩:=y0e hown3
      have hown3':w3.ownsRow w1.heap.size 21 1 (.slice A3 (e - a) c3) (cut zs a e).length ((cut zs a e).map (Value.int .i32)):=by rw [HML.out];exact hown3
      have hrows3:=y58 (y47 hrows hb3) hown3' hfr;have howno3:=y22 howno hb3;have hbb3:=hb.trans (hb3.mono hb.size);have hrows4:=y2b hrows3 (World.grownBy_alloc _ (.cells #[.slice A3 (e - a) c3] 187) none) (fun v _=>by cases v.ownBlock<;>simp);have HFR:=hide hfr;clear hfr hown3 hown3' hat3 hown2 hr2 hca2
      go_wp2_with (at_builtin;refine y0b _ rfl _ _ 260 rfl w1.heap.size 187 i1 (.slice none 0 0) 1 24 Tryz.underlying260 hi1 hz3 hz4 hz5 rfl (by decide) _ _ _ rfl (howno3.alloc _) _ _ 1 1 _ rfl (by rfl) (y8f _ _ _ (Qaw _)) (y3n _ _ _) ?c5 ?c6 ?c7 ?_)
      case c5=>simp only [maxLen];omega
      case c6=>omega
      case c7=>exact Qah hbb3.size (by simp)
      intro v5 w5 hown5 hg5 hat5
      have hrows5:=y2b hrows4 hg5 (fun v hv=>by
       obtain ⟨l,hl⟩:=y3a hrows4 hv
       exact y23 hl (howno3.alloc _) (by decide))
      have hb5:=y0d (hbb3.alloc hbb3.size _) (howno3.alloc _) (Qab _) hg5 (Qah hbb3.size (by simp))
      go_wp2_with fail
      go_roundw
      case rel=>
       refine ⟨j+1,cs++[.slice A3 (e - a) c3],by omega,by go_num,by rw [Qae,HCL.out];rfl,?_,?_,hb5⟩
       ·rw [Qae,HCL.out];exact hown5
       ·rw [y3m HLINE.out];exact hrows5
      case measure=>simp [intOf];omega
    ·have y10:((y:Int)==10)=false:=by rw [Qa3];exact h10
     have hfact:(y1t zs)[j]?=some (cut zs a e):=by rw [HF.out,z62 (by rw [HY.out];intro hh;exact h10 hh.1)]
     have hrr:Rd w1 B (some (ad.add a)) ((cut zs a e).map (Value.int .i32)):=by rw [y7w];exact (hr1.take e).drop a
     clear HF h10;have HLINE:=hide hfact;have hml:(cut zs a e).length=e - a:=(y34 (by rw [HL.out];omega)).trans (by omega);have HML:=hide hml;clear hml
     go_wp2_with (at_make;refine wpList_make_own _ rfl _ _ 187 rfl w1.heap.size 21 i0 (.int .i32 0) 1 Tryz.underlying187 hi0 hz0 hz1 _ _ _ (e - a) rfl rfl (by omega) (z1c hz2 (by omega)) (by simp only [maxLen];omega) hb.size ?_)
     intro w2 hown2 hg2;have hb2:Below wr.heap.size wr w2:=(Below.refl _ _).grown hg2 (Qab _) (fun k hk=>by cases hk);have hbb2:=hb.trans (hb2.mono hb.size);have hcs2:=(hs.below' hbb2 (Qab _));obtain ⟨ads2,eas2,_,hca2⟩:=y7k hcs2 ha;injection eas2 with eas2;subst eas2;have hr2:=hrr.below' hbb2 hB1
     go_wp2_with (at_builtin;refine y0b _ rfl _ _ 187 rfl w1.heap.size 21 i0 (.int .i32 0) 1 4 Tryz.underlying187 hi0 hz0 hz1 hz2 rfl (by decide) _ 0 [] rfl hown2 B _ _ _ _ rfl ?c1 hr2 (y33 _) ?c3 ?c4 hbb2.size ?_)
     case c1=>rw [Qay,HML.out,Nat.mul_one]
     case c3=>simp only [maxLen];omega
     case c4=>omega
     intro v3 w3 hown3 hg3 hat3;have hb3:Below wr.heap.size wr w3:=hb2.grown hg3 hb2.size (fun k hk=>by simp [Value.ownBlock] at hk;omega)
     have hfr: ∀u∈cs,u.ownBlock=none∨u.ownBlock≠v3.ownBlock:=y48 hrows (fun g hg=>by
      rcases hat3 with h|h
      ·rw [h] at hg;simp [Value.ownBlock] at hg;omega
      ·rw [h] at hg;injection hg with hg;have:=hb2.size;omega)
     obtain ⟨A3,c3,rfl,_,_⟩:=y0e hown3
     have hown3':w3.ownsRow w1.heap.size 21 1 (.slice A3 (e - a) c3) (cut zs a e).length ((cut zs a e).map (Value.int .i32)):=by rw [HML.out];exact hown3
     have hrows3:=y58 (y47 hrows hb3) hown3' hfr;have howno3:=y22 howno hb3;have hbb3:=hb.trans (hb3.mono hb.size);have hrows4:=y2b hrows3 (World.grownBy_alloc _ (.cells #[.slice A3 (e - a) c3] 187) none) (fun v _=>by cases v.ownBlock<;>simp);have HFR:=hide hfr;clear hfr hown3 hown3' hat3 hown2 hr2 hca2
     go_wp2_with (at_builtin;refine y0b _ rfl _ _ 260 rfl w1.heap.size 187 i1 (.slice none 0 0) 1 24 Tryz.underlying260 hi1 hz3 hz4 hz5 rfl (by decide) _ _ _ rfl (howno3.alloc _) _ _ 1 1 _ rfl (by rfl) (y8f _ _ _ (Qaw _)) (y3n _ _ _) ?c5 ?c6 ?c7 ?_)
     case c5=>simp only [maxLen];omega
     case c6=>omega
     case c7=>exact Qah hbb3.size (by simp)
     intro v5 w5 hown5 hg5 hat5
     have hrows5:=y2b hrows4 hg5 (fun v hv=>by
      obtain ⟨l,hl⟩:=y3a hrows4 hv
      exact y23 hl (howno3.alloc _) (by decide))
     have hb5:=y0d (hbb3.alloc hbb3.size _) (howno3.alloc _) (Qab _) hg5 (Qah hbb3.size (by simp))
     go_wp2_with fail
     go_roundw
     case rel=>
      refine ⟨j+1,cs++[.slice A3 (e - a) c3],by omega,by go_num,by rw [Qae,HCL.out];rfl,?_,?_,hb5⟩
      ·rw [Qae,HCL.out];exact hown5
      ·rw [y3m HLINE.out];exact hrows5
     case measure=>simp [intOf];omega
   ·have hfact:=q4d (zs:=zs) (j:=j) (a:=a) (by rw [HL.out];exact ha) (by rw [HL.out,HM.out];exact hlast);rw [HL.out] at hfact
    have hjl: ¬((j:Int)+1<(m:Int)):=by omega
    by_cases hca0:c=a
    ·obtain rfl:n=c:=by omega
     obtain rfl:a=n:=by omega
     have hrr:Rd w1 B A ((cut zs a a).map (Value.int .i32)):=by rw [x88];exact Rd.nil
     clear hca0 hnc han;have HLINE:=hide hfact;have hml:(cut zs a a).length=0:=(y34 (by rw [HL.out];omega)).trans (by omega);have HML:=hide hml;clear hml
     go_wp2_with (at_make;refine wpList_make_own _ rfl _ _ 187 rfl w1.heap.size 21 i0 (.int .i32 0) 1 Tryz.underlying187 hi0 hz0 hz1 _ _ _ (0) rfl rfl (by omega) (z1c hz2 (by omega)) (by simp only [maxLen];omega) hb.size ?_)
     intro w2 hown2 hg2;have hb2:Below wr.heap.size wr w2:=(Below.refl _ _).grown hg2 (Qab _) (fun k hk=>by cases hk);have hbb2:=hb.trans (hb2.mono hb.size);have hcs2:=(hs.below' hbb2 (Qab _));obtain ⟨ads2,eas2,_,hca2⟩:=y7k hcs2 ha;injection eas2 with eas2;subst eas2;have hr2:=hrr.below' hbb2 hB1
     go_wp2_with (at_builtin;refine y0b _ rfl _ _ 187 rfl w1.heap.size 21 i0 (.int .i32 0) 1 4 Tryz.underlying187 hi0 hz0 hz1 hz2 rfl (by decide) _ 0 [] rfl hown2 B _ _ _ _ rfl ?c1 hr2 (y33 _) ?c3 ?c4 hbb2.size ?_)
     case c1=>rw [Qay,HML.out,Nat.mul_one]
     case c3=>simp only [maxLen];omega
     case c4=>omega
     intro v3 w3 hown3 hg3 hat3;have hb3:Below wr.heap.size wr w3:=hb2.grown hg3 hb2.size (fun k hk=>by simp [Value.ownBlock] at hk;omega)
     have hfr: ∀u∈cs,u.ownBlock=none∨u.ownBlock≠v3.ownBlock:=y48 hrows (fun g hg=>by
      rcases hat3 with h|h
      ·rw [h] at hg;simp [Value.ownBlock] at hg;omega
      ·rw [h] at hg;injection hg with hg;have:=hb2.size;omega)
     obtain ⟨A3,c3,rfl,_,_⟩:=y0e hown3
     have hown3':w3.ownsRow w1.heap.size 21 1 (.slice A3 (0) c3) (cut zs a a).length ((cut zs a a).map (Value.int .i32)):=by rw [HML.out];exact hown3
     have hrows3:=y58 (y47 hrows hb3) hown3' hfr;have howno3:=y22 howno hb3;have hbb3:=hb.trans (hb3.mono hb.size);have hrows4:=y2b hrows3 (World.grownBy_alloc _ (.cells #[.slice A3 (0) c3] 187) none) (fun v _=>by cases v.ownBlock<;>simp);have HFR:=hide hfr;clear hfr hown3 hown3' hat3 hown2 hr2 hca2
     go_wp2_with (at_builtin;refine y0b _ rfl _ _ 260 rfl w1.heap.size 187 i1 (.slice none 0 0) 1 24 Tryz.underlying260 hi1 hz3 hz4 hz5 rfl (by decide) _ _ _ rfl (howno3.alloc _) _ _ 1 1 _ rfl (by rfl) (y8f _ _ _ (Qaw _)) (y3n _ _ _) ?c5 ?c6 ?c7 ?_)
     case c5=>simp only [maxLen];omega
     case c6=>omega
     case c7=>exact Qah hbb3.size (by simp)
     intro v5 w5 hown5 hg5 hat5
     have hrows5:=y2b hrows4 hg5 (fun v hv=>by
      obtain ⟨l,hl⟩:=y3a hrows4 hv
      exact y23 hl (howno3.alloc _) (by decide))
     have hb5:=y0d (hbb3.alloc hbb3.size _) (howno3.alloc _) (Qab _) hg5 (Qah hbb3.size (by simp))
     go_wp2_with fail
     go_roundw
     case rel=>
      refine ⟨j+1,cs++[.slice A3 (0) c3],by omega,by go_num,by rw [Qae,HCL.out];rfl,?_,?_,hb5⟩
      ·rw [Qae,HCL.out];exact hown5
      ·rw [y3m HLINE.out];exact hrows5
     case measure=>simp [intOf];omega
    ·have hrr:Rd w1 B (A.map (·.add a)) ((cut zs a n).map (Value.int .i32)):=by rw [y7w];exact (hr1.take n).drop a
     have HLINE:=hide hfact;have hml:(cut zs a n).length=n - a:=(y34 (by rw [HL.out];omega)).trans (by omega);have HML:=hide hml;clear hml
     go_wp2_with (at_make;refine wpList_make_own _ rfl _ _ 187 rfl w1.heap.size 21 i0 (.int .i32 0) 1 Tryz.underlying187 hi0 hz0 hz1 _ _ _ (n - a) rfl rfl (by omega) (z1c hz2 (by omega)) (by simp only [maxLen];omega) hb.size ?_)
     intro w2 hown2 hg2;have hb2:Below wr.heap.size wr w2:=(Below.refl _ _).grown hg2 (Qab _) (fun k hk=>by cases hk);have hbb2:=hb.trans (hb2.mono hb.size);have hcs2:=(hs.below' hbb2 (Qab _));obtain ⟨ads2,eas2,_,hca2⟩:=y7k hcs2 ha;injection eas2 with eas2;subst eas2;have hr2:=hrr.below' hbb2 hB1
     go_wp2_with (at_builtin;refine y0b _ rfl _ _ 187 rfl w1.heap.size 21 i0 (.int .i32 0) 1 4 Tryz.underlying187 hi0 hz0 hz1 hz2 rfl (by decide) _ 0 [] rfl hown2 B _ _ _ _ rfl ?c1 hr2 (y33 _) ?c3 ?c4 hbb2.size ?_)
     case c1=>rw [Qay,HML.out,Nat.mul_one]
     case c3=>simp only [maxLen];omega
     case c4=>omega
     intro v3 w3 hown3 hg3 hat3;have hb3:Below wr.heap.size wr w3:=hb2.grown hg3 hb2.size (fun k hk=>by simp [Value.ownBlock] at hk;omega)
     have hfr: ∀u∈cs,u.ownBlock=none∨u.ownBlock≠v3.ownBlock:=y48 hrows (fun g hg=>by
      rcases hat3 with h|h
      ·rw [h] at hg;simp [Value.ownBlock] at hg;omega
      ·rw [h] at hg;injection hg with hg;have:=hb2.size;omega)
     obtain ⟨A3,c3,rfl,_,_⟩:=y0e hown3
     have hown3':w3.ownsRow w1.heap.size 21 1 (.slice A3 (n - a) c3) (cut zs a n).length ((cut zs a n).map (Value.int .i32)):=by rw [HML.out];exact hown3
     have hrows3:=y58 (y47 hrows hb3) hown3' hfr;have howno3:=y22 howno hb3;have hbb3:=hb.trans (hb3.mono hb.size);have hrows4:=y2b hrows3 (World.grownBy_alloc _ (.cells #[.slice A3 (n - a) c3] 187) none) (fun v _=>by cases v.ownBlock<;>simp);have HFR:=hide hfr;clear hfr hown3 hown3' hat3 hown2 hr2 hca2
     go_wp2_with (at_builtin;refine y0b _ rfl _ _ 260 rfl w1.heap.size 187 i1 (.slice none 0 0) 1 24 Tryz.underlying260 hi1 hz3 hz4 hz5 rfl (by decide) _ _ _ rfl (howno3.alloc _) _ _ 1 1 _ rfl (by rfl) (y8f _ _ _ (Qaw _)) (y3n _ _ _) ?c5 ?c6 ?c7 ?_)
     case c5=>simp only [maxLen];omega
     case c6=>omega
     case c7=>exact Qah hbb3.size (by simp)
     intro v5 w5 hown5 hg5 hat5
     have hrows5:=y2b hrows4 hg5 (fun v hv=>by
      obtain ⟨l,hl⟩:=y3a hrows4 hv
      exact y23 hl (howno3.alloc _) (by decide))
     have hb5:=y0d (hbb3.alloc hbb3.size _) (howno3.alloc _) (Qab _) hg5 (Qah hbb3.size (by simp))
     go_wp2_with fail
     go_roundw
     case rel=>
      refine ⟨j+1,cs++[.slice A3 (n - a) c3],by omega,by go_num,by rw [Qae,HCL.out];rfl,?_,?_,hb5⟩
      ·rw [Qae,HCL.out];exact hown5
      ·rw [y3m HLINE.out];exact hrows5
     case measure=>simp [intOf];omega
  ·have hjm:j=m:=by omega
   subst hjm;have hfin:(y1t zs).take j=y1t zs:=Qaj (by rw [lines_len,HL.out,HM.out];exact Qab _);rw [hfin] at hrows
   go_wp2_with fail
   go_ret;exact ⟨_,cs,rfl,by rw [HCL.out];exact z60 howno hb1.size,x9h hrows hb1.size,hb1.trans (hb.mono hb1.size)⟩
end Go.Proofs.YtbpgkkoeehopjaaGreat.lines
namespace Go.Proofs.YtbpgkkoeehopjaaGreat.ln
def pl (zs:List Int):Nat→Nat×Nat
 |0=>(1,1)
 |k+1=>if y2v zs k=true then ((pl zs k).1+1,1) else ((pl zs k).1,(pl zs k).2+1)
theorem pl_end {zs:List Int} {k:Nat} (h:y2v zs k=true):pl zs (k+1)=((pl zs k).1+1,1):=by simp [pl,h]
theorem q78 {zs:List Int} {k:Nat} (h:y2v zs k=false):pl zs (k+1)=((pl zs k).1,(pl zs k).2+1):=by simp [pl,h]
theorem z80 (zs:List Int): ∀k,pl zs k=((y0f zs k).length,k - st zs k+1)
 |0=>by simp [pl,y0f,st]
 |k+1=>by
  have ih:=z80 zs k;have hs:=st_le zs k
  cases h:y2v zs k with
  |true=>rw [pl_end h,ih,y1s h,x3o h];simp
  |false=>
   rw [q78 h,ih,y1j h,x1e h];dsimp only;rw [show k+1 - st zs k=k - st zs k+1 by omega]
theorem y9i (zs:List Int) (i:Nat): ∀k,i≤k→(y0f zs k).take (y0f zs i).length=y0f zs i
 |0,h=>by
  obtain rfl:i=0:=by omega
  exact List.take_length
 |k+1,h=>by
  by_cases hik:i=k+1
  ·subst hik;exact List.take_length
  ·have ih:=y9i zs i k (by omega)
   have hl:(y0f zs i).length≤(y0f zs k).length:=by
    have:=congrArg List.length ih;rw [Qau] at this;omega
   cases he:y2v zs k with
   |true=>rw [y1s he,List.take_append_of_le_length hl];exact ih
   |false=>rw [y1j he];exact ih
theorem pl_in {zs:List Int} {n j a i:Nat} (hj:(y0f zs n)[j]?=some a) (ha:a≤i) (hin:i≤n) (hb: ∀b,(y0f zs n)[j+1]?=some b→i<b):pl zs i=(j+1,i - a+1):=by
 have ht:=y9i zs i n hin;have hpos:=y8d zs i
 have hlen:(y0f zs i).length≤(y0f zs n).length:=by
  have:=congrArg List.length ht;rw [Qau] at this;omega
 have hat: ∀q,q<(y0f zs i).length→(y0f zs n)[q]?=(y0f zs i)[q]?:=fun q hq=>by
  rw [←ht,Qbb,if_pos hq]
 have h1:j<(y0f zs i).length:=by
  rcases Qbm j (y0f zs i).length with h|h
  ·exact h
  ·exfalso
   have key: ∀k,i≤k→ ∀q s,(y0f zs i).length≤q→(y0f zs k)[q]?=some s→i<s:=by
    intro k
    induction k with
    |zero=>
     intro hk q s hq hs
     obtain rfl:i=0:=by omega
     have:=(Qac.1 hs).1;omega
    |succ k ih=>
     intro hk q s hq hs;by_cases hik:i=k+1
     ·subst hik;have:=(Qac.1 hs).1;omega
     ·cases he:y2v zs k with
      |true=>
       rw [y1s he,List.getElem?_append] at hs;split at hs
       ·exact ih (by omega) q s hq hs
       ·have:s∈[k+1]:=Qaf hs;simp at this;omega
      |false=>
       rw [y1j he] at hs;exact ih (by omega) q s hq hs
   have:=key n hin j a h hj;omega
 have h2:(y0f zs i).length=j+1:=by
  rcases Qbm (j+1) (y0f zs i).length with h|h
  ·exfalso;have hs:=hat (j+1) h;rw [Qad h] at hs;have h3:=hb _ hs;have h4:=y2h zs i (j+1) _ (Qad h);omega
  ·omega
 have hlast:=y6t zs i;rw [h2,Nat.add_sub_cancel,←hat j (by omega),hj] at hlast;injection hlast with hlast;rw [z80,h2,←hlast]
def places (zs:List Int) (m:Nat):List (Nat×Nat):=(List.range m).map (pl zs)
theorem z3k (zs:List Int) (m:Nat):places zs (m+1)=places zs m++[pl zs m]:=by simp [places,List.range_succ]
theorem x55 (zs:List Int) (m:Nat):(places zs m).length=m:=by simp [places]
theorem x9j (zs:List Int) (m i:Nat) (h:i<m):(places zs m)[i]?=some (pl zs i):=by simp [places,h]
end Go.Proofs.YtbpgkkoeehopjaaGreat.ln
namespace Go.Proofs.YtbpgkkoeehopjaaGreat.lines
open Go.RowKit words enc dec ref ln
theorem q4h:(Tryz.prog.info? 41).map (fun i=>(i.zero,i.size,i.bytes))=some (some (.agg #[.int .i64 0,.int .i64 0]),2,16):=by kernel_rfl
def y4i (l:List (Nat×Nat)):List Value:=l.flatMap fun p=>[Value.int .i64 (p.1:Int),Value.int .i64 (p.2:Int)]
theorem x56 (l:List (Nat×Nat)):(y4i l).length=l.length*2:=by
 induction l with
 |nil=>rfl
 |cons p l ih=>
  have:y4i (p::l)=[Value.int .i64 (p.1:Int),Value.int .i64 (p.2:Int)]++y4i l:=rfl;rw [this,Qae,ih];simp;omega
theorem z3l (l:List (Nat×Nat)) (p:Nat×Nat):y4i (l++[p])=y4i l++[Value.int .i64 (p.1:Int),Value.int .i64 (p.2:Int)]:=by simp [y4i]
theorem one_pos (x y:Int): ∀u∈[Value.int .i64 x,Value.int .i64 y],u.oneCell'=true:=by
 intro u hu;simp at hu
 rcases hu with rfl|rfl<;>rfl
theorem q64 (w:World) (B:Nat) (x y:Int) (hB:w.heap.size<B):Rd (w.alloc (.cells #[.int .i64 x,.int .i64 y] 41)) B (some ⟨w.heap.size,0,none⟩) [.int .i64 x,.int .i64 y]:=
 y3f w [.int .i64 x,.int .i64 y] 41 hB
set_option maxRecDepth 100000
def sj (zs:List Int) (n j:Nat):Nat:=(y0f zs n).getD j (n+1)
theorem q4i {zs:List Int} {n j a:Nat} (h:(y0f zs n)[j]?=some a):sj zs n j=a:=by unfold sj;rw [List.getD_eq_getElem?_getD,h];rfl
theorem q65 {zs:List Int} {n j:Nat} (h:(y0f zs n).length≤j):sj zs n j=n+1:=by unfold sj;rw [List.getD_eq_getElem?_getD,Qbg h];rfl
theorem z81 (zs:List Int) (n:Nat):(y0f zs n)[0]?=some 0:=by
 have h:=y9i zs 0 n (Qak _);have e:(y0f zs 0)=[0]:=rfl;rw [e] at h;have:=congrArg (·[0]?) h;simpa [Qbb] using this
theorem q79 (zs:List Int) (n:Nat):sj zs n 0=0:=q4i (z81 zs n)
theorem pl_of {zs:List Int} {n j a b i:Nat} (hj:(y0f zs n)[j]?=some a) (ha:a≤i) (hb:sj zs n (j+1)=b) (hi:i<b) (hin:i≤n):pl zs i=(j+1,i - a+1):=
 pl_in hj ha hin fun b' h=>by rw [q4i h] at hb;omega
set_option maxHeartbeats 2000000 in
theorem z63 (A:Option Addr) (n c B:Nat) (zs:List Int) (w:World) (hr:Rd w B A (zs.map (Value.int .i32))) (hB:B≤w.heap.size) (hl:zs.length=n) (hn:n≤4194304):
  Calls Tryz.prog 137 #[.slice A n c] w fun e w'=>∃v,e= .returned v∧w'.ownsRow w.heap.size 41 2 v (n+1) (y4i (places zs (n+1)))∧Below w.heap.size w w':=by
 obtain ⟨i0,hi0,hz0,hz1,hz2⟩:=info_parts q4h;have HL:=hide hl;clear hl;have hm1:=y8d zs n;have hm2:=y8e zs n;go_enter Tryz.func137,Tryz.ntmps137
 go_wp2_with fail
 refine (z5m A n c B zs _ hr hB HL.out hn).mono ?_;rintro e w1 ⟨vs,rfl,howns,hb1⟩;obtain ⟨As,cS,rfl,_,_⟩:=y0e howns;obtain ⟨m,hm⟩: ∃m,(y0f zs n).length=m:=⟨_,rfl⟩;have hs:=Rd.of_own howns;rw [hm] at hm1 hm2 ⊢;have HM:=hide hm;clear hm howns hr
 go_wp2_with fail
 go_loopw [3,5] (fun vo i wr=>∃j:Nat,j≤m∧i= .int .i64 j∧wr.ownsRow w1.heap.size 41 2 vo (sj zs n j) (y4i (places zs (sj zs n j)))∧Below w1.heap.size w1 wr) (fun _ i _=>m - (intOf i).toNat)
 case atStart=>exact ⟨0,Qak _,rfl,by rw [q79];exact World.ownsRow_nil _ _ _ _,Below.refl _ _⟩
 case round=>
  obtain ⟨j,hj,rfl,howno,hb⟩:=hrel;obtain ⟨Ao,co,rfl,_,_⟩:=y0e howno;by_cases hlt:j<m
  ·obtain ⟨a,ha⟩: ∃a,(y0f zs n)[j]?=some a:=⟨(y0f zs n)[j]'(by rw [HM.out];exact hlt),Qad _⟩;have han:=y2h zs n j a ha;obtain ⟨ads,rfl,_,hca⟩:=y7k (hs.below' hb (Qab _)) ha;rw [q4i ha] at howno ⊢;obtain ⟨b,hbe⟩: ∃b,sj zs n (j+1)=b:=⟨_,rfl⟩;have HB:=hide hbe;have HA:=hide ha;by_cases hlast:j+1<m
   ·obtain ⟨b',hb0⟩: ∃b,(y0f zs n)[j+1]?=some b:=⟨(y0f zs n)[j+1]'(by rw [HM.out];exact hlast),Qad _⟩;obtain rfl:b'=b:=(q4i hb0).symm.trans hbe;have hab:=y6u zs n j a b' ha hb0;have hbn:=y2h zs n (j+1) b' hb0;obtain ⟨ads',eas,_,hcb⟩:=y7k (hs.below' hb (Qab _)) hb0;injection eas with eas;subst eas;rw [y3l] at hcb;clear ha hb0 hbe
    have hI:(j:Int)+1<(m:Int):=by omega
    go_wp2_with fail
    go_loopw [3,7] (fun vi i wq=>∃q:Nat,a≤q∧q≤b'∧i= .int .i64 q∧wq.ownsRow w1.heap.size 41 2 vi q (y4i (places zs q))∧Below w1.heap.size w1 wq) (fun _ i _=>b' - (intOf i).toNat)
    case atStart=>exact ⟨a,Qab _,by omega,rfl,howno,hb⟩
    case round=>
     obtain ⟨q,haq,hqb,rfl,hownq,hbq⟩:=hrel;obtain ⟨Aq,cq,rfl,_,_⟩:=y0e hownq;by_cases hq:q<b'
     ·have HP:=hide (pl_of HA.out haq HB.out hq (by omega));obtain ⟨ads2,eas2,_,hca2⟩:=y7k (hs.below' hbq (Qab _)) HA.out;injection eas2 with eas2;subst eas2
      go_wp2_with (at_builtin;refine y0b _ rfl _ _ 80 rfl w1.heap.size 41 i0 (.agg #[.int .i64 0,.int .i64 0]) 2 16 Tryz.underlying80 hi0 hz0 hz1 hz2 rfl (by decide) _ _ _ rfl (hownq.alloc _) _ _ 1 1 _ rfl (by rfl) (q64 _ _ _ _ (Qaw _)) (one_pos _ _) ?c3 ?c4 ?c5 ?_)
      case c3=>simp only [maxLen];omega
      case c4=>omega
      case c5=>exact Qah hbq.size (by simp)
      intro v2 w2 hown2 hg2 hat2;have hb2:=y0d (hbq.alloc hbq.size _) (hownq.alloc _) (Qab _) hg2 (Qah hbq.size (by simp))
      go_wp2_with fail
      go_roundw
      case rel=>
       refine ⟨q+1,by omega,by omega,by go_num,?_,hb2⟩;rw [z3k,z3l,HP.out]
       have e1:(((j+1:Nat):Nat):Int)=(j:Int)+1:=by omega
       have e2:(((q - a+1:Nat):Nat):Int)=(q:Int) - (a:Int)+1:=by omega
       dsimp only;rw [e1,e2];exact hown2
      case measure=>simp [intOf];omega
     ·have hqe:q=b':=by omega
      subst hqe
      go_wp2_with fail
      go_roundw
      case rel=>exact ⟨j+1,by omega,by go_num,by rw [HB.out];exact hownq,hbq⟩
      case measure=>simp [intOf];omega
   ·obtain rfl:b=n+1:=hbe.symm.trans (q65 (by rw [HM.out];omega));clear ha hbe
    have hI: ¬((j:Int)+1<(m:Int)):=by omega
    go_wp2_with fail
    go_loopw [3,7] (fun vi i wq=>∃q:Nat,a≤q∧q≤(n+1)∧i= .int .i64 q∧wq.ownsRow w1.heap.size 41 2 vi q (y4i (places zs q))∧Below w1.heap.size w1 wq) (fun _ i _=>(n+1) - (intOf i).toNat)
    case atStart=>exact ⟨a,Qab _,by omega,rfl,howno,hb⟩
    case round=>
     obtain ⟨q,haq,hqb,rfl,hownq,hbq⟩:=hrel;obtain ⟨Aq,cq,rfl,_,_⟩:=y0e hownq;by_cases hq:q<(n+1)
     ·have HP:=hide (pl_of HA.out haq HB.out hq (by omega));obtain ⟨ads2,eas2,_,hca2⟩:=y7k (hs.below' hbq (Qab _)) HA.out;injection eas2 with eas2;subst eas2
      go_wp2_with (at_builtin;refine y0b _ rfl _ _ 80 rfl w1.heap.size 41 i0 (.agg #[.int .i64 0,.int .i64 0]) 2 16 Tryz.underlying80 hi0 hz0 hz1 hz2 rfl (by decide) _ _ _ rfl (hownq.alloc _) _ _ 1 1 _ rfl (by rfl) (q64 _ _ _ _ (Qaw _)) (one_pos _ _) ?c3 ?c4 ?c5 ?_)
      case c3=>simp only [maxLen];omega
      case c4=>omega
      case c5=>exact Qah hbq.size (by simp)
      intro v2 w2 hown2 hg2 hat2;have hb2:=y0d (hbq.alloc hbq.size _) (hownq.alloc _) (Qab _) hg2 (Qah hbq.size (by simp))
      go_wp2_with fail
      go_roundw
      case rel=>
       refine ⟨q+1,by omega,by omega,by go_num,?_,hb2⟩;rw [z3k,z3l,HP.out]
       have e1:(((j+1:Nat):Nat):Int)=(j:Int)+1:=by omega
       have e2:(((q - a+1:Nat):Nat):Int)=(q:Int) - (a:Int)+1:=by omega
       dsimp only;rw [e1,e2];exact hown2
      case measure=>simp [intOf];omega
     ·have hqe:q=(n+1):=by omega
      subst hqe
      go_wp2_with fail
      go_roundw
      case rel=>exact ⟨j+1,by omega,by go_num,by rw [HB.out];exact hownq,hbq⟩
      case measure=>simp [intOf];omega
  ·have hjm:j=m:=by omega
   subst hjm;rw [q65 (by rw [HM.out];exact Qab _)] at howno ⊢
   go_wp2_with fail
   go_ret;exact ⟨_,rfl,z60 howno hb1.size,hb1.trans (hb.mono hb1.size)⟩
theorem z3m (p:Nat×Nat) (l:List (Nat×Nat)):y4i (p::l)=Value.int .i64 (p.1:Int)::Value.int .i64 (p.2:Int)::y4i l:=rfl
theorem z82: ∀(l:List (Nat×Nat)) (k:Nat) (p:Nat×Nat),l[k]?=some p→(y4i l)[k*2]?=some (Value.int .i64 (p.1:Int))∧(y4i l)[k*2+1]?=some (Value.int .i64 (p.2:Int))
 |[],k,p,h=>by simp at h
 |q::l,0,p,h=>by
  simp at h;subst h;rw [z3m];exact ⟨rfl,rfl⟩
 |q::l,k+1,p,h=>by
  have:=z82 l k p (by simpa using h);rw [z3m,show (k+1)*2=k*2+1+1 by omega];simpa using this
theorem q8a (a:Addr) (i:Nat):a.add (i+1)=⟨(a.add i).block,(a.add i).off+1,none⟩:=by
 unfold Addr.add;by_cases h:i=0
 ·subst h;simp
 ·simp [h,Nat.add_assoc]
theorem add_zero (a:Addr):a.add (0*2)=a:=by simp [Addr.add]
theorem q4j {w:World} {B n k:Nat} {A:Option Addr} {zs:List Int} (h:Rd w B A (y4i (places zs n))) (hk:k<n):
  ∃ad,A=some ad∧ad.block<B∧w.cell? (ad.add (k*2))=some (.int .i64 ((pl zs k).1:Int))∧w.cell? ⟨(ad.add (k*2)).block,(ad.add (k*2)).off+1,none⟩=some (.int .i64 ((pl zs k).2:Int)):=by
 have hne:y4i (places zs n)≠[]:=by
  intro e;have:=congrArg List.length e;rw [x56,x55] at this;simp at this;omega
 obtain ⟨ad,e,hb,hc⟩:=h hne;have hp:=z82 _ _ _ (x9j zs n k hk);exact ⟨ad,e,hb,hc _ _ hp.1,by rw [←q8a];exact hc _ _ hp.2⟩
end Go.Proofs.YtbpgkkoeehopjaaGreat.lines
namespace Go.Proofs.YtbpgkkoeehopjaaGreat.one
open Go.RowKit words enc utf dec ref
theorem x1k (c:Int):enc.putL c=utf.putL c:=rfl
theorem x1i (A:Option Addr) (n c B:Nat) (l:List UInt8) (w:World) (hr:Rd w B A (Lib.byteCells l)) (hB:B≤w.heap.size) (hl:l.length=n) (hc:n≤c) (hn:c≤maxLen):
  Calls Tryz.prog 166 #[.slice A n c] w fun e w'=>e= .returned (.tuple #[.int .i32 (oneL l).1,.int .i64 (oneL l).2])∧Below w.heap.size w w':=by
 unfold maxLen at hn;have HL:=hide hl;clear hl;go_enter Tryz.func166,Tryz.ntmps166
 go_wp2
 go_loopw [4] (fun i wr=>∃k:Nat,1≤k∧k≤5∧i= .int .i64 k∧Below w.heap.size w wr∧Hid (∀j,1≤j→j<k→j≤l.length→ ¬Hit l j)) (fun i _=>5 - (intOf i).toNat)
 case atStart=>exact ⟨1,by omega,by omega,rfl,Below.refl _ _,fun j h1 h2=>by omega⟩
 case round=>
  obtain ⟨k,hk1,hk5,rfl,hb,hmiss⟩:=hrel;by_cases h4:k≤4
  ·by_cases hkn:k≤n
   ·have hkc:k≤c:=by omega
    have hlen:(l.take k).length=k:=by rw [Qau,HL.out];omega
    have hrk:Rd wr B A (Lib.byteCells (l.take k)):=by
     have:=(hr.below' hb hB).take k;rw [show Lib.byteCells (l.take k)=(Lib.byteCells l).take k by simp [Lib.byteCells,List.map_take]];exact this
    have HK:=hide hlen;clear hlen
    go_wp2_with fail
    refine (x5y A k c B (l.take k) _ hrk HK.out hk1 h4).mono ?_;rintro e w1 ⟨rfl,hb1⟩;have hb01:=hb.trans (hb1.mono hb.size);obtain ⟨q,hq⟩: ∃q,numL (ints (l.take k))=q:=⟨_,rfl⟩;have HQ:=hide hq;rw [hq];clear hq
    go_wp2_with fail
    refine (x8o q _).mono ?_;rintro e w2 ⟨A2,k2,rfl,hr2,hb2⟩;have hb02:=hb01.trans (hb2.mono hb01.size);have hrk2:=hrk.keep (w':=w2) (fun p hp=>(hb2.cell (by have:=hb01.size;omega)).trans (hb1.cell (by have:=hb.size;omega)));by_cases hpl:(enc.putL q).length=k
    ·have hpe:(((enc.putL q).length:Int)==(k:Int))=true:=by rw [Qa7];omega
     obtain ⟨pb,hpb⟩: ∃pb:List UInt8,ints pb=enc.putL q:=by
      by_cases hv:Lib.validRune q=true
      ·exact ⟨Lib.encodeRune q,by rw [y9g];exact (if_pos hv).symm⟩
      ·exact ⟨[],by unfold enc.putL;rw [if_neg hv];rfl⟩
     have hcells:(enc.putL q).map (Value.int .u8)=Lib.byteCells pb:=by rw [←hpb];simp [ints,Lib.byteCells]
     rw [hcells] at hr2
     have hpn:pb.length=k:=by rw [←hpl,←hpb,y6s]
     have HP:=hide hpn;have HPB:=hide hpb;have HPL:=hide hpl;clear hcells hpl hpb hpn
     go_wp2_with fail
     rw [HPL.out];refine (q38 A2 A k k2 c _ B pb (l.take k) _ hr2 hrk2 HP.out HK.out (by simp only [maxLen];omega)).mono ?_;rintro e w3 ⟨rfl,m,rfl⟩;have hb03:=below_drewN hb02 m;by_cases hs:x83 pb (l.take k)=true
     ·have hh:Hit l k:=by
       have e1:=Qa6 hs
       show utf.putL (numL (ints (l.take k)))=ints (l.take k)
       rw [HQ.out,←x1k,←HPB.out,e1]
      have hone:=q36 hk1 (by rw [HL.out];exact hkn) hh;rw [HQ.out] at hone;have HO:=hide hone;clear hone hh
      go_wp2_with fail
      go_ret2
      exact ⟨by rw [HO.out];rfl,hb03⟩
     ·have hs':x83 pb (l.take k)=false:=by simpa using hs
      have hnh: ¬Hit l k:=by
       intro hh;apply hs;apply Qa5;apply x3k;rw [HPB.out,x1k,←HQ.out];exact hh
      have HN:=hide hnh;clear hs hnh
      go_wp2_with fail
      go_roundw
      case rel=>exact ⟨k+1,by omega,by omega,by go_num,hb03,fun j j1 j2 j3=>if e:j=k then by rw [e];exact HN.out else hmiss.out j j1 (by omega) j3⟩
      case measure=>simp [intOf];omega
    ·have hpe:(((enc.putL q).length:Int)==(k:Int))=false:=by rw [Qa3];omega
     have hnh: ¬Hit l k:=by
      intro hh;apply hpl;have e1:utf.putL (numL (ints (l.take k)))=ints (l.take k):=hh;rw [HQ.out] at e1;rw [x1k,e1,y6s,HK.out]
     have HN:=hide hnh;clear hpl hnh
     go_wp2_with fail
     go_roundw
     case rel=>exact ⟨k+1,by omega,by omega,by go_num,hb02,fun j j1 j2 j3=>if e:j=k then by rw [e];exact HN.out else hmiss.out j j1 (by omega) j3⟩
     case measure=>simp [intOf];omega
   ·have hone:=z8s (l:=l) (fun j j1 j2 j3=>hmiss.out j j1 (by have:=HL.out;omega) j3);have HO:=hide hone;clear hone
    go_wp2_with fail
    go_ret2
    exact ⟨by rw [HO.out];rfl,hb⟩
  ·have hone:=z8s (l:=l) (fun j j1 j2 j3=>hmiss.out j j1 (by omega) j3);have HO:=hide hone;clear hone
   go_wp2_with fail
   go_ret2
   exact ⟨by rw [HO.out];rfl,hb⟩
theorem RefDecode_any (A:Option Addr) (n c B:Nat) (l:List UInt8) (w:World) (hr:Rd w B A (Lib.byteCells l)) (hB:B≤w.heap.size) (hl:l.length=n) (hc:n≤c) (hn:c≤maxLen) (hs:n≤35184372088832):
  Calls Tryz.prog 135 #[.slice A n c] w (x81 l w):=by
 obtain ⟨i0,hi0,hz0,hz1,hz2⟩:=info_parts y95;unfold maxLen at hn;have HL:=hide hl;clear hl;go_enter Tryz.func135,Tryz.ntmps135
 go_wp2
 go_loopw [4,5] (fun v i wr=>∃(pos:Nat) (acc:List Int),i= .int .i64 pos∧pos≤n∧wr.ownsRow w.heap.size 21 1 v acc.length (acc.map (Value.int .i32))∧Below w.heap.size w wr∧Hid (At l pos acc)) (fun _ i _=>n - (intOf i).toNat)
 case atStart=>exact ⟨0,[],rfl,by omega,World.ownsRow_nil _ _ _ _,Below.refl _ _,q37 _⟩
 case round=>
  obtain ⟨pos,acc,rfl,hpos,hown,hb,hat⟩:=hrel;obtain ⟨Av,cv,rfl,_,_⟩:=y0e hown;by_cases hlt:pos<n
  ·have hla:=hat.out.2.2
   have hrd:Rd wr B (A.map (·.add pos)) (Lib.byteCells (l.drop pos)):=by
    rw [show Lib.byteCells (l.drop pos)=(Lib.byteCells l).drop pos by simp [Lib.byteCells,List.map_drop]];exact (hr.below' hb hB).drop pos
   have hne:l.drop pos≠[]:=by intro e;have:=congrArg List.length e;rw [Qav,List.length_nil,HL.out] at this;omega
   have hdl:(l.drop pos).length=n - pos:=by rw [Qav,HL.out]
   have HN:=hide hne;have HD:=hide hdl;clear hne hdl
   go_wp2_with fail
   refine (x1i _ (n - pos) (c - pos) B (l.drop pos) _ hrd (Qah hB hb.size) HD.out (by omega) (by simp only [maxLen];omega)).mono ?_;rintro e w1 ⟨rfl,hb1⟩;have hb01:=hb.trans (hb1.mono hb.size);have hown1:=y22 hown hb1;by_cases hbad:Bad (l.drop pos)
   ·have hone:oneL (l.drop pos)=(0,0):=if_pos (.inr hbad);have hfin:=at_bad hat.out hbad;have HF:=hide hfin;rw [hone];clear hone hbad hfin;dsimp only
    go_wp2_with fail
    go_ret2
    exact ⟨.slice Av acc.length cv,by rw [HF.out];rfl,by rw [HF.out];exact hown1,hb01⟩
   ·have hone:oneL (l.drop pos)=(((Lib.decodeL (l.drop pos)).1:Int),(Lib.decodeL (l.drop pos)).2):=if_neg (by rintro (h|h);exact HN.out h;exact hbad h);have hgood:=q74 hat.out (by rw [HL.out];exact hlt) hbad;have hw1:=Lib.decodeL_width (l.drop pos);have hle:=Lib.decodeL_le (l.drop pos) HN.out;rw [HD.out] at hle;have hru:=Lib.decodeL_rune (l.drop pos);rw [hone];generalize (Lib.decodeL (l.drop pos)).1=r at*;generalize (Lib.decodeL (l.drop pos)).2=k at*;have HG:=hide hgood;clear hone hbad hgood;dsimp only
    have hk0:((k:Int)==0)=false:=by rw [Qa3];omega
    have hown2:=hown1.alloc (.cells #[.int .i32 r] 21)
    go_wp2_with (at_builtin;refine y0b _ rfl _ _ 187 rfl w.heap.size 21 i0 (.int .i32 0) 1 4 Tryz.underlying187 hi0 hz0 hz1 hz2 rfl (by decide) _ _ _ rfl hown2 _ _ 1 1 _ rfl ?c1 (rd_one _ _ _ (Qaw _)) (y33 _) ?c2 ?c3 ?c4 ?_)
    case c1=>rfl
    case c2=>simp only [maxLen];omega
    case c3=>omega
    case c4=>exact Qah hb01.size (by simp)
    intro v3 w3 hown3 hg3 _;have hb3:=y0d (hb01.alloc hb01.size _) hown2 (Qab _) hg3 (Qah hb01.size (by simp))
    go_wp2_with fail
    go_roundw
    case rel=>
     refine ⟨pos+k,acc++[(r:Int)],by go_num,by omega,?_,hb3,HG.out⟩;rw [Qae,Qas];exact hown3
    case measure=>simp [intOf];omega
  ·have hend:=at_end hat.out (by rw [HL.out];exact hlt);rw [HL.out] at hend
   have hpn:pos=n:=by omega
   have HF:=hide hend;subst hpn;clear hend
   go_wp2_with fail
   go_ret2
   exact ⟨.slice Av acc.length cv,by rw [HF.out];rfl,by rw [HF.out];exact hown,hb⟩
end Go.Proofs.YtbpgkkoeehopjaaGreat.one
namespace Go.Proofs.YtbpgkkoeehopjaaGreat.gram
open Go.RowKit words enc tree
structure TokD where
 kind:Int
 line:Int
 col:Int
 start:Int
 stop:Int
 text:Txt
 value:Txt
def tokC (t:TokD):List Value:=[.int .i64 t.kind,.int .i64 t.line,.int .i64 t.col,.int .i64 t.start,.int .i64 t.stop,.string (str t.text),.string (str t.value)]
abbrev tokV (t:TokD):Value:=.agg #[.int .i64 t.kind,.int .i64 t.line,.int .i64 t.col,.int .i64 t.start,.int .i64 t.stop,.string (str t.text),.string (str t.value)]
def z3n:Txt:=[116,114,117,101,32,102,97,108,115,101,32,110,117,108,108]
def y4j:Txt:=[113,117,101,114,121,32,109,117,116,97,116,105,111,110,32,115,117,98,115,99,114,105,112,116,105,111,110]
def y3g:Txt:=[81,85,69,82,89,32,77,85,84,65,84,73,79,78,32,83,85,66,83,67,82,73,80,84,73,79,78,32,70,73,69,76,68,32,70,82,65,71,77,69,78,84,95,68,69,70,73,78,73,84,73,79,78,32,70,82,65,71,77,69,78,84,95,83,80,82,69,65,68,32,73,78,76,73,78,69,95,70,82,65,71,77,69,78,84,32,86,65,82,73,65,66,76,69,95,68,69,70,73,78,73,84,73,79,78,32,83,67,72,69,77,65,32,83,67,65,76,65,82,32,79,66,74,69,67,84,32,70,73,69,76,68,95,68,69,70,73,78,73,84,73,79,78,32,65,82,71,85,77,69,78,84,95,68,69,70,73,78,73,84,73,79,78,32,73,78,84,69,82,70,65,67,69,32,85,78,73,79,78,32,69,78,85,77,32,69,78,85,77,95,86,65,76,85,69,32,73,78,80,85,84,95,79,66,74,69,67,84,32,73,78,80,85,84,95,70,73,69,76,68,95,68,69,70,73,78,73,84,73,79,78]
def y0n (s:Txt) (t:TokD):Bool:=
 if s=[46,110,97,109,101] then t.kind==3
 else if s=[46,99,97,115,101] then (t.kind==3)&& !y21 t.text z3n
 else if s=[46,114,111,111,116] then (t.kind==3)&&y21 t.text y4j
 else if s=[46,112,108,97,99,101] then (t.kind==3)&&y21 t.text y3g
 else if s=[46,115,116,114] then (t.kind==6)||(t.kind==7)
 else if s=[46,110,117,109] then (t.kind==4)||(t.kind==5)
 else if s=[46,101,110,100] then t.kind==0
 else match s with
  |[]=>false
  |c::r=>if c=39 then (t.kind==3)&&decide (t.text=r) else (t.kind==2)&&decide (t.text=c::r)
set_option maxRecDepth 100000 in
set_option maxHeartbeats 2000000 in
theorem fits_n (s:Txt) (kind line col start stop:Int) (text value:Txt) (w:World) (e0:((str s).toList==[46,110,97,109,101])=true):
  Calls Tryz.prog 141 #[.string (str s),.agg #[.int .i64 kind,.int .i64 line,.int .i64 col,.int .i64 start,.int .i64 stop,.string (str text),.string (str value)]] w fun e w'=>e= .returned (.bool (kind==3))∧Below w.heap.size w w':=by
 have hB:=(Below.refl w.heap.size w).alloc (Qab _) (.cells #[.int .i64 kind,.int .i64 line,.int .i64 col,.int .i64 start,.int .i64 stop,.string (str text),.string (str value)] 148);go_enter Tryz.func141,Tryz.ntmps141
 go_wp2_with fail
 go_ret;exact ⟨rfl,hB⟩
set_option maxRecDepth 100000 in
set_option maxHeartbeats 2000000 in
theorem fits_c (s:Txt) (kind line col start stop:Int) (text value:Txt) (w:World) (e0:((str s).toList==[46,110,97,109,101])=false) (e1:((str s).toList==[46,99,97,115,101])=true):
  Calls Tryz.prog 141 #[.string (str s),.agg #[.int .i64 kind,.int .i64 line,.int .i64 col,.int .i64 start,.int .i64 stop,.string (str text),.string (str value)]] w fun e w'=>e= .returned (.bool ((kind==3)&& !y21 text z3n))∧Below w.heap.size w w':=by
 have hB:=(Below.refl w.heap.size w).alloc (Qab _) (.cells #[.int .i64 kind,.int .i64 line,.int .i64 col,.int .i64 start,.int .i64 stop,.string (str text),.string (str value)] 148);obtain ⟨b,hb⟩: ∃b,y21 text z3n=b:=⟨_,rfl⟩;rw [hb];have HB:=hide hb;clear hb;cases h1:(kind==3)
 ·have h1':((kind:Int)==3)=false:=h1;go_enter Tryz.func141,Tryz.ntmps141
  go_wp2_with fail
  go_ret;exact ⟨rfl,hB⟩
 ·have h1':((kind:Int)==3)=true:=h1;go_enter Tryz.func141,Tryz.ntmps141
  go_wp2_with fail
  refine (z3a text z3n _ (by decide)).mono ?_;rintro e w1 ⟨rfl,hb1⟩;rw [HB.out]
  go_wp2_with fail
  go_ret;exact ⟨by cases b<;>rfl,hB.trans (hb1.mono (by simp))⟩
set_option maxRecDepth 100000 in
set_option maxHeartbeats 2000000 in
theorem fits_r (s:Txt) (kind line col start stop:Int) (text value:Txt) (w:World) (e0:((str s).toList==[46,110,97,109,101])=false) (e1:((str s).toList==[46,99,97,115,101])=false) (e2:((str s).toList==[46,114,111,111,116])=true):
  Calls Tryz.prog 141 #[.string (str s),.agg #[.int .i64 kind,.int .i64 line,.int .i64 col,.int .i64 start,.int .i64 stop,.string (str text),.string (str value)]] w fun e w'=>e= .returned (.bool ((kind==3)&&y21 text y4j))∧Below w.heap.size w w':=by
 have hB:=(Below.refl w.heap.size w).alloc (Qab _) (.cells #[.int .i64 kind,.int .i64 line,.int .i64 col,.int .i64 start,.int .i64 stop,.string (str text),.string (str value)] 148);obtain ⟨b,hb⟩: ∃b,y21 text y4j=b:=⟨_,rfl⟩;rw [hb];have HB:=hide hb;clear hb;cases h1:(kind==3)
 ·have h1':((kind:Int)==3)=false:=h1;go_enter Tryz.func141,Tryz.ntmps141
  go_wp2_with fail
  go_ret;exact ⟨rfl,hB⟩
 ·have h1':((kind:Int)==3)=true:=h1;go_enter Tryz.func141,Tryz.ntmps141
  go_wp2_with fail
  refine (z3a text y4j _ (by decide)).mono ?_;rintro e w1 ⟨rfl,hb1⟩;rw [HB.out]
  go_wp2_with fail
  go_ret;exact ⟨by cases b<;>rfl,hB.trans (hb1.mono (by simp))⟩
set_option maxRecDepth 100000 in
set_option maxHeartbeats 2000000 in
theorem fits_p (s:Txt) (kind line col start stop:Int) (text value:Txt) (w:World) (e0:((str s).toList==[46,110,97,109,101])=false) (e1:((str s).toList==[46,99,97,115,101])=false) (e2:((str s).toList==[46,114,111,111,116])=false) (e3:((str s).toList==[46,112,108,97,99,101])=true):
  Calls Tryz.prog 141 #[.string (str s),.agg #[.int .i64 kind,.int .i64 line,.int .i64 col,.int .i64 start,.int .i64 stop,.string (str text),.string (str value)]] w fun e w'=>e= .returned (.bool ((kind==3)&&y21 text y3g))∧Below w.heap.size w w':=by
 have hB:=(Below.refl w.heap.size w).alloc (Qab _) (.cells #[.int .i64 kind,.int .i64 line,.int .i64 col,.int .i64 start,.int .i64 stop,.string (str text),.string (str value)] 148);obtain ⟨b,hb⟩: ∃b,y21 text y3g=b:=⟨_,rfl⟩;rw [hb];have HB:=hide hb;clear hb;cases h1:(kind==3)
 ·have h1':((kind:Int)==3)=false:=h1;go_enter Tryz.func141,Tryz.ntmps141
  go_wp2_with fail
  go_ret;exact ⟨rfl,hB⟩
 ·have h1':((kind:Int)==3)=true:=h1;go_enter Tryz.func141,Tryz.ntmps141
  go_wp2_with fail
  refine (z3a text y3g _ (by decide)).mono ?_;rintro e w1 ⟨rfl,hb1⟩;rw [HB.out]
  go_wp2_with fail
  go_ret;exact ⟨by cases b<;>rfl,hB.trans (hb1.mono (by simp))⟩
set_option maxRecDepth 100000 in
set_option maxHeartbeats 2000000 in
theorem fits_s (s:Txt) (kind line col start stop:Int) (text value:Txt) (w:World) (e0:((str s).toList==[46,110,97,109,101])=false) (e1:((str s).toList==[46,99,97,115,101])=false) (e2:((str s).toList==[46,114,111,111,116])=false) (e3:((str s).toList==[46,112,108,97,99,101])=false) (e4:((str s).toList==[46,115,116,114])=true):
  Calls Tryz.prog 141 #[.string (str s),.agg #[.int .i64 kind,.int .i64 line,.int .i64 col,.int .i64 start,.int .i64 stop,.string (str text),.string (str value)]] w fun e w'=>e= .returned (.bool ((kind==6)||(kind==7)))∧Below w.heap.size w w':=by
 have hB:=(Below.refl w.heap.size w).alloc (Qab _) (.cells #[.int .i64 kind,.int .i64 line,.int .i64 col,.int .i64 start,.int .i64 stop,.string (str text),.string (str value)] 148);cases h1:(kind==6)
 ·have h1':((kind:Int)==6)=false:=h1;go_enter Tryz.func141,Tryz.ntmps141
  go_wp2_with fail
  go_ret;exact ⟨rfl,hB⟩
 ·have h1':((kind:Int)==6)=true:=h1;go_enter Tryz.func141,Tryz.ntmps141
  go_wp2_with fail
  go_ret;exact ⟨rfl,hB⟩
set_option maxRecDepth 100000 in
set_option maxHeartbeats 2000000 in
theorem fits_m (s:Txt) (kind line col start stop:Int) (text value:Txt) (w:World) (e0:((str s).toList==[46,110,97,109,101])=false) (e1:((str s).toList==[46,99,97,115,101])=false) (e2:((str s).toList==[46,114,111,111,116])=false) (e3:((str s).toList==[46,112,108,97,99,101])=false) (e4:((str s).toList==[46,115,116,114])=false) (e5:((str s).toList==[46,110,117,109])=true):
  Calls Tryz.prog 141 #[.string (str s),.agg #[.int .i64 kind,.int .i64 line,.int .i64 col,.int .i64 start,.int .i64 stop,.string (str text),.string (str value)]] w fun e w'=>e= .returned (.bool ((kind==4)||(kind==5)))∧Below w.heap.size w w':=by
 have hB:=(Below.refl w.heap.size w).alloc (Qab _) (.cells #[.int .i64 kind,.int .i64 line,.int .i64 col,.int .i64 start,.int .i64 stop,.string (str text),.string (str value)] 148);cases h1:(kind==4)
 ·have h1':((kind:Int)==4)=false:=h1;go_enter Tryz.func141,Tryz.ntmps141
  go_wp2_with fail
  go_ret;exact ⟨rfl,hB⟩
 ·have h1':((kind:Int)==4)=true:=h1;go_enter Tryz.func141,Tryz.ntmps141
  go_wp2_with fail
  go_ret;exact ⟨rfl,hB⟩
set_option maxRecDepth 100000 in
set_option maxHeartbeats 2000000 in
theorem fits_e (s:Txt) (kind line col start stop:Int) (text value:Txt) (w:World) (e0:((str s).toList==[46,110,97,109,101])=false) (e1:((str s).toList==[46,99,97,115,101])=false) (e2:((str s).toList==[46,114,111,111,116])=false) (e3:((str s).toList==[46,112,108,97,99,101])=false) (e4:((str s).toList==[46,115,116,114])=false) (e5:((str s).toList==[46,110,117,109])=false) (e6:((str s).toList==[46,101,110,100])=true):
  Calls Tryz.prog 141 #[.string (str s),.agg #[.int .i64 kind,.int .i64 line,.int .i64 col,.int .i64 start,.int .i64 stop,.string (str text),.string (str value)]] w fun e w'=>e= .returned (.bool (kind==0))∧Below w.heap.size w w':=by
 have hB:=(Below.refl w.heap.size w).alloc (Qab _) (.cells #[.int .i64 kind,.int .i64 line,.int .i64 col,.int .i64 start,.int .i64 stop,.string (str text),.string (str value)] 148);go_enter Tryz.func141,Tryz.ntmps141
 go_wp2_with fail
 go_ret;exact ⟨rfl,hB⟩
set_option maxRecDepth 100000 in
set_option maxHeartbeats 2000000 in
theorem fits_q (s:Txt) (c:UInt8) (r:Txt) (kind line col start stop:Int) (text value:Txt) (w:World) (e0:((str s).toList==[46,110,97,109,101])=false) (e1:((str s).toList==[46,99,97,115,101])=false) (e2:((str s).toList==[46,114,111,111,116])=false) (e3:((str s).toList==[46,112,108,97,99,101])=false) (e4:((str s).toList==[46,115,116,114])=false) (e5:((str s).toList==[46,110,117,109])=false) (e6:((str s).toList==[46,101,110,100])=false) (hp:0<(str s).size) (hg:(str s)[0]'hp=c) (hx:(str s).extract 1 (str s).size=str r) (h63:(str s).size≤9223372036854775807) (q2:((str text).toList==(str r).toList)=decide (text=r)) (h39:((c.toNat:Int)==39)=true):
  Calls Tryz.prog 141 #[.string (str s),.agg #[.int .i64 kind,.int .i64 line,.int .i64 col,.int .i64 start,.int .i64 stop,.string (str text),.string (str value)]] w fun e w'=>e= .returned (.bool ((kind==3)&&decide (text=r)))∧Below w.heap.size w w':=by
 have hB:=(Below.refl w.heap.size w).alloc (Qab _) (.cells #[.int .i64 kind,.int .i64 line,.int .i64 col,.int .i64 start,.int .i64 stop,.string (str text),.string (str value)] 148);obtain ⟨b,hb⟩: ∃b,decide (text=r)=b:=⟨_,rfl⟩;rw [hb] at q2 ⊢;clear hb;cases h1:(kind==3)
 ·have h1':((kind:Int)==3)=false:=h1;go_enter Tryz.func141,Tryz.ntmps141
  go_wp2_with fail
  go_quiet (fail)
  go_wp2_with fail
  go_ret;exact ⟨rfl,below_drewN hB _⟩
 ·have h1':((kind:Int)==3)=true:=h1;go_enter Tryz.func141,Tryz.ntmps141
  go_wp2_with fail
  go_quiet (fail)
  go_wp2_with fail
  go_ret;exact ⟨rfl,below_drewN hB _⟩
set_option maxRecDepth 100000 in
set_option maxHeartbeats 2000000 in
theorem fits_x (s:Txt) (c:UInt8) (r:Txt) (kind line col start stop:Int) (text value:Txt) (w:World) (e0:((str s).toList==[46,110,97,109,101])=false) (e1:((str s).toList==[46,99,97,115,101])=false) (e2:((str s).toList==[46,114,111,111,116])=false) (e3:((str s).toList==[46,112,108,97,99,101])=false) (e4:((str s).toList==[46,115,116,114])=false) (e5:((str s).toList==[46,110,117,109])=false) (e6:((str s).toList==[46,101,110,100])=false) (hp:0<(str s).size) (hg:(str s)[0]'hp=c) (hx:(str s).extract 1 (str s).size=str r) (h63:(str s).size≤9223372036854775807) (q2:((str text).toList==(str s).toList)=decide (text=s)) (h39:((c.toNat:Int)==39)=false):
  Calls Tryz.prog 141 #[.string (str s),.agg #[.int .i64 kind,.int .i64 line,.int .i64 col,.int .i64 start,.int .i64 stop,.string (str text),.string (str value)]] w fun e w'=>e= .returned (.bool ((kind==2)&&decide (text=s)))∧Below w.heap.size w w':=by
 have hB:=(Below.refl w.heap.size w).alloc (Qab _) (.cells #[.int .i64 kind,.int .i64 line,.int .i64 col,.int .i64 start,.int .i64 stop,.string (str text),.string (str value)] 148);obtain ⟨b,hb⟩: ∃b,decide (text=s)=b:=⟨_,rfl⟩;rw [hb] at q2 ⊢;clear hb;cases h1:(kind==2)
 ·have h1':((kind:Int)==2)=false:=h1;go_enter Tryz.func141,Tryz.ntmps141
  go_wp2_with fail
  go_ret;exact ⟨rfl,hB⟩
 ·have h1':((kind:Int)==2)=true:=h1;go_enter Tryz.func141,Tryz.ntmps141
  go_wp2_with fail
  go_ret;exact ⟨rfl,hB⟩
theorem x3r (s:Txt) (t:TokD) (w:World) (hs:0<s.length) (h63:s.length≤1099511627776):
  Calls Tryz.prog 141 #[.string (str s),tokV t] w fun e w'=>e= .returned (.bool (y0n s t))∧Below w.heap.size w w':=by
 obtain ⟨kind,line,col,start,stop,text,value⟩:=t;by_cases c0:s=[46,110,97,109,101]
 ·have hr:y0n s ⟨kind,line,col,start,stop,text,value⟩=(kind==3):=by unfold y0n;rw [if_pos c0]
  rw [hr];exact fits_n s kind line col start stop text value w (by rw [y0m];exact Qa5 c0)
 by_cases c1:s=[46,99,97,115,101]
 ·have hr:y0n s ⟨kind,line,col,start,stop,text,value⟩=((kind==3)&& !y21 text z3n):=by unfold y0n;rw [if_neg c0,if_pos c1]
  rw [hr];exact fits_c s kind line col start stop text value w (by rw [y0m];exact Qa4 c0) (by rw [y0m];exact Qa5 c1)
 by_cases c2:s=[46,114,111,111,116]
 ·have hr:y0n s ⟨kind,line,col,start,stop,text,value⟩=((kind==3)&&y21 text y4j):=by unfold y0n;rw [if_neg c0,if_neg c1,if_pos c2]
  rw [hr];exact fits_r s kind line col start stop text value w (by rw [y0m];exact Qa4 c0) (by rw [y0m];exact Qa4 c1) (by rw [y0m];exact Qa5 c2)
 by_cases c3:s=[46,112,108,97,99,101]
 ·have hr:y0n s ⟨kind,line,col,start,stop,text,value⟩=((kind==3)&&y21 text y3g):=by unfold y0n;rw [if_neg c0,if_neg c1,if_neg c2,if_pos c3]
  rw [hr];exact fits_p s kind line col start stop text value w (by rw [y0m];exact Qa4 c0) (by rw [y0m];exact Qa4 c1) (by rw [y0m];exact Qa4 c2) (by rw [y0m];exact Qa5 c3)
 by_cases c4:s=[46,115,116,114]
 ·have hr:y0n s ⟨kind,line,col,start,stop,text,value⟩=((kind==6)||(kind==7)):=by unfold y0n;rw [if_neg c0,if_neg c1,if_neg c2,if_neg c3,if_pos c4]
  rw [hr];exact fits_s s kind line col start stop text value w (by rw [y0m];exact Qa4 c0) (by rw [y0m];exact Qa4 c1) (by rw [y0m];exact Qa4 c2) (by rw [y0m];exact Qa4 c3) (by rw [y0m];exact Qa5 c4)
 by_cases c5:s=[46,110,117,109]
 ·have hr:y0n s ⟨kind,line,col,start,stop,text,value⟩=((kind==4)||(kind==5)):=by unfold y0n;rw [if_neg c0,if_neg c1,if_neg c2,if_neg c3,if_neg c4,if_pos c5]
  rw [hr];exact fits_m s kind line col start stop text value w (by rw [y0m];exact Qa4 c0) (by rw [y0m];exact Qa4 c1) (by rw [y0m];exact Qa4 c2) (by rw [y0m];exact Qa4 c3) (by rw [y0m];exact Qa4 c4) (by rw [y0m];exact Qa5 c5)
 by_cases c6:s=[46,101,110,100]
 ·have hr:y0n s ⟨kind,line,col,start,stop,text,value⟩=(kind==0):=by unfold y0n;rw [if_neg c0,if_neg c1,if_neg c2,if_neg c3,if_neg c4,if_neg c5,if_pos c6]
  rw [hr];exact fits_e s kind line col start stop text value w (by rw [y0m];exact Qa4 c0) (by rw [y0m];exact Qa4 c1) (by rw [y0m];exact Qa4 c2) (by rw [y0m];exact Qa4 c3) (by rw [y0m];exact Qa4 c4) (by rw [y0m];exact Qa4 c5) (by rw [y0m];exact Qa5 c6)
 obtain ⟨c,r,rfl⟩: ∃c r,s=c::r:=by cases s with|nil=>simp at hs|cons c r=>exact ⟨c,r,rfl⟩
 have hr:y0n (c::r) ⟨kind,line,col,start,stop,text,value⟩=if c=39 then (kind==3)&&decide (text=r) else (kind==2)&&decide (text=c::r):=by
  unfold y0n;rw [if_neg c0,if_neg c1,if_neg c2,if_neg c3,if_neg c4,if_neg c5,if_neg c6]
 rw [hr];have hsz:=y17 (c::r)
 have hp:0<(str (c::r)).size:=by rw [hsz];simp
 have hg:(str (c::r))[0]'hp=c:=z09 (l:=c::r) (by simp) hp
 have hx:(str (c::r)).extract 1 (str (c::r)).size=str r:=by rw [y9e,y17];simp
 have h63':(str (c::r)).size≤9223372036854775807:=by rw [hsz];omega
 by_cases h39:c=39
 ·rw [if_pos h39];exact fits_q (c::r) c r kind line col start stop text value w (by rw [y0m];exact Qa4 c0) (by rw [y0m];exact Qa4 c1) (by rw [y0m];exact Qa4 c2) (by rw [y0m];exact Qa4 c3) (by rw [y0m];exact Qa4 c4) (by rw [y0m];exact Qa4 c5) (by rw [y0m];exact Qa4 c6) hp hg hx h63' (y5e _ _) (by rw [h39];rfl)
 ·rw [if_neg h39];exact fits_x (c::r) c r kind line col start stop text value w (by rw [y0m];exact Qa4 c0) (by rw [y0m];exact Qa4 c1) (by rw [y0m];exact Qa4 c2) (by rw [y0m];exact Qa4 c3) (by rw [y0m];exact Qa4 c4) (by rw [y0m];exact Qa4 c5) (by rw [y0m];exact Qa4 c6) hp hg hx h63' (y5e _ _) (by rw [Qa3];intro e;exact h39 (Qb1.1 (show _=39 by omega)))
def allO (g:Txt→Option Bool):List Txt→Option Bool
 |[]=>some true
 |s::r=>match g s with
  |none=>none
  |some true=>allO g r
  |some false=>some false
def anyO (g:List Txt→Option Bool):List (List Txt)→Option Bool
 |[]=>some false
 |c::r=>match g c with
  |none=>none
  |some true=>some true
  |some false=>anyO g r
def z0g (R:List RuleD):Nat→Txt→Option Bool
 |0,_=>none
 |f+1,s=>if s=[] then none else if y2a s=true then anyO (allO (z0g R f)) (y01 R s) else some false
theorem q4k {g:Txt→Option Bool} {l:List Txt} {k:Nat} {x:Txt} {b:Bool} (h:allO g (l.drop k)=some b) (hk:l[k]?=some x): ∃a,g x=some a∧(a=true→allO g (l.drop (k+1))=some b)∧(a=false→b=false):=by
 obtain ⟨hk',rfl⟩:=Qac.1 hk;rw [Qa1 hk',allO] at h
 cases hg:g l[k] with
 |none=>rw [hg] at h;cases h
 |some a=>
  rw [hg] at h
  cases a with
  |true=>exact ⟨true,rfl,fun _=>h,fun e=>by cases e⟩
  |false=>injection h with h;exact ⟨false,rfl,fun e=>(by cases e),fun _=>h.symm⟩
theorem x3s {g:List Txt→Option Bool} {l:List (List Txt)} {k:Nat} {x:List Txt} {b:Bool} (h:anyO g (l.drop k)=some b) (hk:l[k]?=some x): ∃a,g x=some a∧(a=false→anyO g (l.drop (k+1))=some b)∧(a=true→b=true):=by
 obtain ⟨hk',rfl⟩:=Qac.1 hk;rw [Qa1 hk',anyO] at h
 cases hg:g l[k] with
 |none=>rw [hg] at h;cases h
 |some a=>
  rw [hg] at h
  cases a with
  |false=>exact ⟨false,rfl,fun _=>h,fun e=>by cases e⟩
  |true=>injection h with h;exact ⟨true,rfl,fun e=>(by cases e),fun _=>h.symm⟩
theorem q8b {w:World} {S:Nat→Prop} {L:List (List Txt)} {A:Option Addr} {vs:List Value} {k:Nat} {l:List Txt} (h:ReadsL w S (chL L) vs) (hA:RdS w S A vs) (hk:L[k]?=some l):
  ∃ad Al cl us,A=some ad∧w.cell? (ad.add k)=some (.slice Al l.length cl)∧l.length≤cl∧cl≤maxLen∧ReadsL w S (strL l) us∧RdS w S Al us:=by
 obtain ⟨v,hv,hr⟩:=h.at (q99 hk);obtain ⟨Al,cl,us,rfl,h1,h2,h3,h4⟩:=y0k hr;obtain ⟨ad,rfl,_,hc⟩:=hA.at hv;exact ⟨ad,Al,cl,us,rfl,hc,h1,h2,h3,h4⟩
set_option maxRecDepth 100000 in
set_option maxHeartbeats 4000000 in
theorem y7x (S:Nat→Prop) (R:List RuleD) (A:Option Addr) (n c:Nat) (w:World) (hR:Reads w S (.list R.length (y3x R)) (.slice A n c)):
  ∀(f:Nat) (s:Txt) (b:Bool),z0g R f s=some b→
  Calls Tryz.prog 174 #[.slice A n c,.string (str s)] w fun e w'=>e= .returned (.bool b)∧w'=w
 |0,s,b,h=>by cases h
 |f+1,s,b,h=>by
  have ih:=y7x S R A n c w hR f;rw [z0g] at h;by_cases hs:s=[]
  ·rw [if_pos hs] at h;cases h
  rw [if_neg hs] at h;have hs0:0<s.length:=Qbt.2 hs
  cases hru:y2a s with
  |false=>
   rw [hru,if_neg (by decide)] at h;injection h with h;subst h;have HRU:=hide hru;clear hru;go_enter Tryz.func174,Tryz.ntmps174
   go_wp2_with fail
   refine (y97 s _ hs0).mono ?_;rintro e w' ⟨rfl,rfl⟩;rw [HRU.out]
   go_wp2_with fail
   go_ret;exact ⟨rfl,rfl⟩
  |true=>
   rw [hru,if_pos rfl] at h;have HRU:=hide hru;have HH:=hide h;have IH:=hide ih;clear hru h ih hs;go_enter Tryz.func174,Tryz.ntmps174
   go_wp2_with fail
   refine (y97 s _ hs0).mono ?_;rintro e w' ⟨rfl,rfl⟩;rw [HRU.out]
   go_wp2_with fail
   refine (y9f S R A n c s _ hR).mono ?_;rintro e w' ⟨v,rfl,rfl,hv⟩;obtain ⟨Ac,cc,vs,rfl,hmc,hcm,hcl,hcd⟩:=y0k hv;obtain ⟨L,hL⟩: ∃L,y01 R s=L:=⟨_,rfl⟩;have h':=HH.out;rw [hL] at h' hcl hmc;rw [hL];obtain ⟨m,hm⟩: ∃m,L.length=m:=⟨_,rfl⟩;rw [hm] at hmc;rw [hm]
   have hm63:m≤9223372036854775807:=by simp only [maxLen] at hcm;omega
   have HM:=hide hm;have HH:=hide h';clear h' hm hL hv
   go_wp2_with fail
   go_loop [6] (fun i=>∃k:Nat,k≤m∧i= .int .i64 k∧Hid (anyO (allO (z0g R f)) (L.drop k)=some b)) (fun i=>m - (intOf i).toNat)
   case atStart=>exact ⟨0,Qak _,rfl,HH.out⟩
   case round=>
    obtain ⟨k,hk,rfl,hany⟩:=hrel;by_cases hlt:k<m
    ·have hkI:(k:Int)<(m:Int):=by omega
     obtain ⟨l,hl⟩: ∃l,L[k]?=some l:=⟨_,Qad (by rw [HM.out];exact hlt)⟩;obtain ⟨ad,Al,cl,us,rfl,hc0,hlc,hclm,hul,hud⟩:=q8b hcl hcd hl;obtain ⟨a,ha,hstep,hend⟩:=x3s hany.out hl;obtain ⟨p,hp⟩: ∃p,l.length=p:=⟨_,rfl⟩;rw [hp] at hc0 hlc
     have hp63:p≤9223372036854775807:=by simp only [maxLen] at hclm;omega
     have HP:=hide hp;have HA:=hide ha;have HST:=hide hstep;have HEN:=hide hend;clear hl hp ha hstep hend hany
     go_wp2_with fail
     go_loop [7,8] (fun q j=>∃(t:Nat) (x:Bool),t≤p∧j= .int .i64 t∧q= .bool x∧Hid (if x=true then allO (z0g R f) (l.drop t)=some a else a=false)) (fun _ j=>p - (intOf j).toNat)
     case atStart=>exact ⟨0,true,Qak _,rfl,rfl,HA.out⟩
     case round=>
      obtain ⟨t,x,ht,rfl,rfl,hx⟩:=hrel;by_cases hlt2:t<p
      ·have htI:(t:Int)<(p:Int):=by omega
       cases x with
       |false=>
        go_wp2_with fail
        go_round
        case rel=>exact ⟨t+1,false,by omega,by go_num,rfl,hx⟩
        case measure=>simp [intOf];omega
       |true=>
        obtain ⟨y,hy⟩: ∃y,l[t]?=some y:=⟨_,Qad (by rw [HP.out];exact hlt2)⟩;obtain ⟨adl,rfl,hcs⟩:=z11 hul hud hy;have hx':allO (z0g R f) (l.drop t)=some a:=hx.out;obtain ⟨z,hz,hz1,hz2⟩:=q4k hx' hy;have hcall:=IH.out y z hz;have HZ:=hide (show if z=true then allO (z0g R f) (l.drop (t+1))=some a else a=false by cases z with|true=>exact hz1 rfl|false=>exact hz2 rfl);clear hy hz hz1 hz2 hx'
        go_wp2_with fail
        refine hcall.mono ?_;rintro e w' ⟨rfl,rfl⟩;clear hcall
        go_wp2_with fail
        go_round
        case rel=>exact ⟨t+1,z,by omega,by go_num,rfl,HZ⟩
        case measure=>simp [intOf];omega
      ·obtain rfl:t=p:=by omega
       have hxa:x=a:=by
        have h1:=hx.out
        cases x with
        |true=>rw [if_pos rfl,Qbo (by rw [HP.out];exact Qab _),allO] at h1;injection h1
        |false=>rw [if_neg (by decide)] at h1;exact h1.symm
       subst hxa
       cases x with
       |true=>
        have hbt:=HEN.out rfl;subst hbt
        go_wp2_with fail
        go_ret;exact ⟨rfl,rfl⟩
       |false=>
        have hst:=HST.out rfl;have HS2:=hide hst;clear hst
        go_wp2_with fail
        go_round
        case rel=>exact ⟨k+1,by omega,by go_num,HS2⟩
        case measure=>simp [intOf];omega
    ·obtain rfl:k=m:=by omega
     have hbf:b=false:=by
      have h1:=hany.out;rw [Qbo (by rw [HM.out];exact Qab _),anyO] at h1;injection h1 with h1;exact h1.symm
     subst hbf
     go_wp2_with fail
     go_ret;exact ⟨rfl,rfl⟩
def y3b (g:List Txt→Option Bool) (nu:Txt→Option Bool) (R:List RuleD) (t:TokD):List Txt→Option Bool
 |[]=>some false
 |s::r=>
  if s=[]∨1000<s.length then none
  else if y2a s=true then
   match anyO g (y01 R s) with
   |none=>none
   |some true=>some true
   |some false=>match nu s with
    |none=>none
    |some true=>y3b g nu R t r
    |some false=>some false
  else some (y0n s t)
def begF (R:List RuleD) (nf:Nat) (t:TokD):Nat→List Txt→Option Bool
 |0,_=>none
 |f+1,l=>y3b (begF R nf t f) (z0g R nf) R t l
theorem q4l {g:List Txt→Option Bool} {nu:Txt→Option Bool} {R:List RuleD} {t:TokD} {l:List Txt} {k:Nat} {s:Txt} {b:Bool} (h:y3b g nu R t (l.drop k)=some b) (hk:l[k]?=some s):
  0<s.length∧s.length≤1000∧(y2a s=false→b=y0n s t)∧
   (y2a s=true→ ∃a,anyO g (y01 R s)=some a∧(a=true→b=true)∧(a=false→ ∃z,nu s=some z∧(z=true→y3b g nu R t (l.drop (k+1))=some b)∧(z=false→b=false))):=by
 obtain ⟨hk',rfl⟩:=Qac.1 hk;rw [Qa1 hk',y3b] at h;by_cases h0:l[k]=[]∨1000<l[k].length
 ·rw [if_pos h0] at h;cases h
 rw [if_neg h0] at h;refine ⟨Qbt.2 (fun e=>h0 (.inl e)),by omega,fun hr=>?_,fun hr=>?_⟩
 ·rw [hr,if_neg (by decide)] at h;injection h with h;exact h.symm
 ·rw [hr,if_pos rfl] at h
  cases ha:anyO g (y01 R l[k]) with
  |none=>rw [ha] at h;cases h
  |some a=>
   rw [ha] at h
   cases a with
   |true=>injection h with h;exact ⟨true,rfl,fun _=>h.symm,fun e=>by cases e⟩
   |false=>
    refine ⟨false,rfl,fun e=>(by cases e),fun _=>?_⟩
    cases hz:nu l[k] with
    |none=>rw [hz] at h;cases h
    |some z=>
     rw [hz] at h
     cases z with
     |true=>exact ⟨true,rfl,fun _=>h,fun e=>by cases e⟩
     |false=>injection h with h;exact ⟨false,rfl,fun e=>(by cases e),fun _=>h.symm⟩
def TokAt (w:World) (g:Nat) (t:TokD):Prop:=w.heap[g]?=some (.cells #[.int .i64 t.kind,.int .i64 t.line,.int .i64 t.col,.int .i64 t.start,.int .i64 t.stop,.string (str t.text),.string (str t.value)] 148 (0,0))
theorem TokAt.lt {w:World} {g:Nat} {t:TokD} (h:TokAt w g t):g<w.heap.size:=(Qan.1 h).1
theorem TokAt.below {w w':World} {g:Nat} {t:TokD} (h:TokAt w g t) (hb:Below w.heap.size w w'):TokAt w' g t:=(hb.block g h.lt).trans h
theorem TokAt.cell {w:World} {g:Nat} {t:TokD} (h:TokAt w g t) (i:Nat):w.cell? ⟨g,i,none⟩=(#[.int .i64 t.kind,.int .i64 t.line,.int .i64 t.col,.int .i64 t.start,.int .i64 t.stop,.string (str t.text),.string (str t.value)]:Array Value)[i]?:=cell_of_row w g i _ _ (0,0) h
set_option maxRecDepth 100000 in
set_option maxHeartbeats 8000000 in
theorem z5n (B:Nat) (R:List RuleD) (A:Option Addr) (n c:Nat) (t:TokD) (nf:Nat):
  ∀(f:Nat) (l:List Txt) (b:Bool) (As:Option Addr) (m cs:Nat) (w:World),Reads w (Lo B) (.list R.length (y3x R)) (.slice A n c)→Reads w (Lo B) (.list l.length (strL l)) (.slice As m cs)→B≤w.heap.size→begF R nf t f l=some b→
  Calls Tryz.prog 173 #[.slice A n c,.slice As m cs,tokV t] w fun e w'=>e= .returned (.bool b)∧Below w.heap.size w w'
 |0,l,b,As,m,cs,w,_,_,_,h=>by cases h
 |f+1,l,b,As,m,cs,w,hR,hl,hB,h=>by
  have IH:=hide (z5n B R A n c t nf f);rw [begF] at h;have HH:=hide h;clear h;obtain ⟨A',c',us,he,hnl,hcl,hul,hud⟩:=y0k hl;injection he with e1 e2 e3;subst e1 e2 e3;obtain ⟨m,hm⟩: ∃m,l.length=m:=⟨_,rfl⟩;have HM:=hide hm;rw [hm] at hnl ⊢
  have hm63:m≤9223372036854775807:=by simp only [maxLen] at hcl;omega
  clear hm hl;obtain ⟨kind,line,col,start,stop,text,value⟩:=t;go_enter Tryz.func173,Tryz.ntmps173
  go_wp2_with fail
  have hblk:TokAt (w.alloc (.cells #[.int .i64 kind,.int .i64 line,.int .i64 col,.int .i64 start,.int .i64 stop,.string (str text),.string (str value)] 148)) w.heap.size ⟨kind,line,col,start,stop,text,value⟩:=heap_alloc_new w _;have hb01:Below w.heap.size w (w.alloc (.cells #[.int .i64 kind,.int .i64 line,.int .i64 col,.int .i64 start,.int .i64 stop,.string (str text),.string (str value)] 148)):=(Below.refl _ _).alloc (Qab _) _;obtain ⟨g,hg⟩: ∃g,w.heap.size=g:=⟨_,rfl⟩;have keepR: ∀w',Below w.heap.size w w'→Reads w' (Lo B) (.list R.length (y3x R)) (.slice A n c):=fun w' hb=>Reads.keep (fun _ h=>h) (fun p hp=>hb.cell (Qap hp hB)) _ _ hR;have keepS: ∀w',Below w.heap.size w w'→ReadsL w' (Lo B) (strL l) us∧RdS w' (Lo B) As us:=fun w' hb=>⟨ReadsL.keep (fun _ h=>h) (fun p hp=>hb.cell (Qap hp hB)) _ _ hul,hud.keep (fun _ h=>h) (fun p hp=>hb.cell (Qap hp hB))⟩;have KR:=hide keepR;have KS:=hide keepS;generalize w.alloc (.cells #[.int .i64 kind,.int .i64 line,.int .i64 col,.int .i64 start,.int .i64 stop,.string (str text),.string (str value)] 148)=w1 at hblk hb01 ⊢;rw [hg] at hblk ⊢;clear keepR keepS hul hud hR
  go_loopw [7] (fun i wr=>∃k:Nat,k≤m∧i= .int .i64 k∧Hid (y3b (begF R nf ⟨kind,line,col,start,stop,text,value⟩ f) (z0g R nf) R ⟨kind,line,col,start,stop,text,value⟩ (l.drop k)=some b)∧TokAt wr g ⟨kind,line,col,start,stop,text,value⟩∧Below w.heap.size w wr) (fun i _=>m - (intOf i).toNat)
  case atStart=>exact ⟨0,Qak _,rfl,HH.out,hblk,hb01⟩
  case round=>
   clear hblk hb01;obtain ⟨k,hk,rfl,hbeg,hblk,hb⟩:=hrel;by_cases hlt:k<m
   ·have hkI:(k:Int)<(m:Int):=by omega
    obtain ⟨s,hs⟩: ∃s,l[k]?=some s:=⟨_,Qad (by rw [HM.out];exact hlt)⟩;obtain ⟨hs0,hs1,hsf,hsr⟩:=q4l hbeg.out hs;obtain ⟨hul,hud⟩:=KS.out _ hb;obtain ⟨ads,rfl,hcs⟩:=z11 hul hud hs;have HS:=hide hs;clear hs hul hud
    cases hru:y2a s with
    |false=>
     have hbf:=hsf hru;subst hbf;have HRU:=hide hru;clear hru hsr hsf
     go_wp2_with fail
     refine (y97 s _ hs0).mono ?_;rintro e wr ⟨rfl,rfl⟩;rw [HRU.out]
     go_wp2_with fail
     have t0:=hblk.cell 0;have t1:=hblk.cell 1;have t2:=hblk.cell 2;have t3:=hblk.cell 3;have t4:=hblk.cell 4;have t5:=hblk.cell 5;have t6:=hblk.cell 6;have hbd:Below w.heap.size w wr.drew:=below_drewN hb 1
     have hs63:s.length≤1099511627776:=by omega
     go_region_with (go_at_call 141
                     refine (x3r s ⟨kind,line,col,start,stop,text,value⟩ wr.drew hs0 hs63).mono ?_
                     rintro e w9 ⟨rfl,hb9⟩)
     all_goals (go_wp2_with fail;go_ret;exact ⟨rfl,hbd.trans (hb9.mono hbd.size)⟩)
    |true=>
     obtain ⟨a,ha,haT,haF⟩:=hsr hru;have HRU:=hide hru;have HAT:=hide haT;have HAF:=hide haF;clear hru hsr hsf haT haF
     go_wp2_with fail
     refine (y97 s _ hs0).mono ?_;rintro e wr ⟨rfl,rfl⟩;rw [HRU.out]
     go_wp2_with fail
     refine (y9f (Lo B) R A n c s _ (KR.out _ hb)).mono ?_;rintro e wr ⟨v,rfl,rfl,hv⟩;obtain ⟨Ac,cc,vs,rfl,hmc,hcm,hcl',hcd⟩:=y0k hv;obtain ⟨L,hL⟩: ∃L,y01 R s=L:=⟨_,rfl⟩;rw [hL] at ha hcl' hmc;rw [hL];obtain ⟨q,hq⟩: ∃q,L.length=q:=⟨_,rfl⟩;rw [hq] at hmc;rw [hq]
     have hq63:q≤9223372036854775807:=by simp only [maxLen] at hcm;omega
     have HQ:=hide hq;have HA:=hide ha
     have KC:Hid (∀w',Below wr.heap.size wr w'→ReadsL w' (Lo B) (chL L) vs∧RdS w' (Lo B) Ac vs):=fun w' hb'=>
      ⟨ReadsL.keep (fun _ h=>h) (fun p hp=>hb'.cell (Qap hp (Qah hB hb.size))) _ _ hcl',hcd.keep (fun _ h=>h) (fun p hp=>hb'.cell (Qap hp (Qah hB hb.size)))⟩
     clear ha hq hL hv hcl' hcd
     go_wp2_with fail
     obtain ⟨wo,hwo⟩: ∃wo:World,wo=wr:=⟨_,rfl⟩;rw [←hwo] at hblk hb hcs KC ⊢;clear hwo wr
     go_loopw [9] (fun i wr=>∃j:Nat,j≤q∧i= .int .i64 j∧Hid (anyO (begF R nf ⟨kind,line,col,start,stop,text,value⟩ f) (L.drop j)=some a)∧TokAt wr g ⟨kind,line,col,start,stop,text,value⟩∧Below wo.heap.size wo wr) (fun i _=>q - (intOf i).toNat)
     case atStart=>exact ⟨0,Qak _,rfl,HA.out,hblk,Below.refl _ _⟩
     case round=>
      obtain ⟨j,hj,rfl,hany,hblk',hb'⟩:=hrel;have hB':=hb.trans (hb'.mono hb.size);by_cases hlt2:j<q
      ·have hjI:(j:Int)<(q:Int):=by omega
       obtain ⟨x,hx⟩: ∃x,L[j]?=some x:=⟨_,Qad (by rw [HQ.out];exact hlt2)⟩;obtain ⟨y,hy,hyF,hyT⟩:=x3s hany.out hx;obtain ⟨hcl2,hcd2⟩:=KC.out _ hb';obtain ⟨ad,Al,cl,us2,rfl,hc0,hlc,hclm,hul2,hud2⟩:=q8b hcl2 hcd2 hx;have hlr:Reads wr.drew (Lo B) (.list x.length (strL x)) (.slice Al x.length cl):=y19 hlc hclm (ReadsL.keep (w:=wr) (w':=wr.drew) (S:=Lo B) (S':=Lo B) (fun _ h=>h) (fun _ _=>rfl) _ _ hul2) (RdS.keep (w:=wr) (w':=wr.drew) (S:=Lo B) (S':=Lo B) hud2 (fun _ h=>h) (fun _ _=>rfl));have hRr:Reads wr.drew (Lo B) (.list R.length (y3x R)) (.slice A n c):=KR.out _ (below_drewN hB' 1);have hbd:Below wo.heap.size wo wr.drew:=below_drewN hb' 1;have hblkd:TokAt wr.drew g ⟨kind,line,col,start,stop,text,value⟩:=hblk';have hBd:B≤wr.drew.heap.size:=Qah hB hB'.size;have HY:=hide hy;have HYF:=hide hyF;have HYT:=hide hyT;obtain ⟨p,hp⟩: ∃p,x.length=p:=⟨_,rfl⟩;have hcall:=IH.out x y Al x.length cl wr.drew hRr hlr hBd HY.out;rw [hp] at hc0 hcall;have t0:=hblk'.cell 0;have t1:=hblk'.cell 1;have t2:=hblk'.cell 2;have t3:=hblk'.cell 3;have t4:=hblk'.cell 4;have t5:=hblk'.cell 5;have t6:=hblk'.cell 6;clear hx hy hyF hyT hcl2 hcd2 hul2 hud2 hlr hRr hp
       go_wp2_with fail
       go_region_with (go_at_call 173
                       refine hcall.mono ?_
                       rintro e w9 ⟨rfl,hb9⟩)
       all_goals
        clear hcall;have hb39:=hbd.trans (hb9.mono hbd.size);have hblk9:=hblkd.below hb9
        cases y with
        |true=>
         have h1:=HAT.out (HYT.out rfl);subst h1
         go_wp2_with fail
         go_ret;exact ⟨rfl,by first|exact hb.trans (hb39.mono hb.size)|(rw [←hg];exact hb.trans (hb39.mono hb.size))⟩
        |false=>
         have h1:=HYF.out rfl;have H1:=hide h1;clear h1
         go_wp2_with fail
         go_roundw
         case rel=>exact ⟨j+1,by omega,by go_num,H1,hblk9,hb39⟩
         case measure=>simp [intOf];omega
      ·obtain rfl:j=q:=by omega
       have haf:a=false:=by
        have h1:=hany.out;rw [Qbo (by rw [HQ.out];exact Qab _),anyO] at h1;injection h1 with h1;exact h1.symm
       obtain ⟨z,hz,hzT,hzF⟩:=HAF.out haf;have hcs':=(hb'.cell (p:=ads.add k) (World.block_lt_of_cell? _ _ hcs)).trans hcs;have hnull:=y7x (Lo B) R A n c _ (KR.out _ hB') nf s z hz;have HZT:=hide hzT;have HZF:=hide hzF;clear hz hzT hzF
       go_wp2_with fail
       refine hnull.mono ?_;rintro e wr ⟨rfl,rfl⟩;clear hnull
       cases z with
       |true=>
        have H1:=hide (HZT.out rfl)
        go_wp2_with fail
        go_roundw
        case rel=>exact ⟨k+1,by omega,by go_num,H1,hblk',hB'⟩
        case measure=>simp [intOf];omega
       |false=>
        have h1:=HZF.out rfl;subst h1
        go_wp2_with fail
        go_ret;exact ⟨rfl,hB'⟩
   ·obtain rfl:k=m:=by omega
    have hbf:b=false:=by
     have h1:=hbeg.out;rw [Qbo (by rw [HM.out];exact Qab _),y3b] at h1;injection h1 with h1;exact h1.symm
    subst hbf
    go_wp2_with fail
    go_ret;exact ⟨rfl,hb⟩
def choF (g:List Txt→Option Bool):List (List Txt)→Option (Option (List Txt))
 |[]=>some none
 |c::r=>match g c with
  |none=>none
  |some true=>some (some c)
  |some false=>choF g r
theorem q4m {g:List Txt→Option Bool} {l:List (List Txt)} {k:Nat} {x:List Txt} {o:Option (List Txt)} (h:choF g (l.drop k)=some o) (hk:l[k]?=some x): ∃a,g x=some a∧(a=false→choF g (l.drop (k+1))=some o)∧(a=true→o=some x):=by
 obtain ⟨hk',rfl⟩:=Qac.1 hk;rw [Qa1 hk',choF] at h
 cases hg:g l[k] with
 |none=>rw [hg] at h;cases h
 |some a=>
  rw [hg] at h
  cases a with
  |false=>exact ⟨false,rfl,fun _=>h,fun e=>by cases e⟩
  |true=>injection h with h;exact ⟨true,rfl,fun e=>(by cases e),fun _=>h.symm⟩
def y5g (R:List RuleD) (nf bf:Nat) (t:TokD) (s:Txt):Option (List Txt×Bool):=
 match choF (begF R nf t bf) (y01 R s) with
 |none=>none
 |some (some c)=>some (c,true)
 |some none=>match z0g R nf s with
  |none=>none
  |some z=>some ([],z)
set_option maxRecDepth 100000 in
set_option maxHeartbeats 8000000 in
theorem x57 (B:Nat) (R:List RuleD) (A:Option Addr) (n c:Nat) (t:TokD) (nf bf:Nat) (s:Txt) (p:List Txt×Bool) (w:World) (hR:Reads w (Lo B) (.list R.length (y3x R)) (.slice A n c)) (hB:B≤w.heap.size) (h:y5g R nf bf t s=some p):
  Calls Tryz.prog 140 #[.slice A n c,.string (str s),tokV t] w fun e w'=>∃v,e= .returned (.tuple #[v,.bool p.2])∧Reads w' (Lo B) (.list p.1.length (strL p.1)) v∧Below w.heap.size w w':=by
 unfold y5g at h
 obtain ⟨o,ho⟩: ∃o,choF (begF R nf t bf) (y01 R s)=some o:=by
  cases ho:choF (begF R nf t bf) (y01 R s) with
  |none=>rw [ho] at h;cases h
  |some o=>exact ⟨o,rfl⟩
 rw [ho] at h;have HO:=hide ho;have HH:=hide h;clear ho h;obtain ⟨kind,line,col,start,stop,text,value⟩:=t;go_enter Tryz.func140,Tryz.ntmps140
 go_wp2_with fail
 have hblk:TokAt (w.alloc (.cells #[.int .i64 kind,.int .i64 line,.int .i64 col,.int .i64 start,.int .i64 stop,.string (str text),.string (str value)] 148)) w.heap.size ⟨kind,line,col,start,stop,text,value⟩:=heap_alloc_new w _;have hb01:Below w.heap.size w (w.alloc (.cells #[.int .i64 kind,.int .i64 line,.int .i64 col,.int .i64 start,.int .i64 stop,.string (str text),.string (str value)] 148)):=(Below.refl _ _).alloc (Qab _) _;obtain ⟨g,hg⟩: ∃g,w.heap.size=g:=⟨_,rfl⟩;have keepR: ∀w',Below w.heap.size w w'→Reads w' (Lo B) (.list R.length (y3x R)) (.slice A n c):=fun w' hb=>Reads.keep (fun _ h=>h) (fun p hp=>hb.cell (Qap hp hB)) _ _ hR;have KR:=hide keepR;generalize w.alloc (.cells #[.int .i64 kind,.int .i64 line,.int .i64 col,.int .i64 start,.int .i64 stop,.string (str text),.string (str value)] 148)=w1 at hblk hb01 ⊢;rw [hg] at hblk ⊢;clear keepR hR;refine (y9f (Lo B) R A n c s _ (KR.out _ hb01)).mono ?_;rintro e w1 ⟨v,rfl,rfl,hv⟩;obtain ⟨Ac,cc,vs,rfl,hmc,hcm,hcl',hcd⟩:=y0k hv;obtain ⟨L,hL⟩: ∃L,y01 R s=L:=⟨_,rfl⟩;have ho:=HO.out;rw [hL] at hcl' hmc ho;rw [hL];obtain ⟨q,hq⟩: ∃q,L.length=q:=⟨_,rfl⟩;rw [hq] at hmc;rw [hq]
 have hq63:q≤9223372036854775807:=by simp only [maxLen] at hcm;omega
 have HQ:=hide hq;have HA:=hide ho
 have KC:Hid (∀w',Below w.heap.size w1 w'→ReadsL w' (Lo B) (chL L) vs∧RdS w' (Lo B) Ac vs):=fun w' hb'=>
  ⟨ReadsL.keep (fun _ h=>h) (fun p hp=>hb'.cell (Qap hp hB)) _ _ hcl',hcd.keep (fun _ h=>h) (fun p hp=>hb'.cell (Qap hp hB))⟩
 clear ho hq hL hv hcl' hcd HO
 go_wp2_with fail
 go_loopw [9] (fun i wr=>∃j:Nat,j≤q∧i= .int .i64 j∧Hid (choF (begF R nf ⟨kind,line,col,start,stop,text,value⟩ bf) (L.drop j)=some o)∧TokAt wr g ⟨kind,line,col,start,stop,text,value⟩∧Below w1.heap.size w1 wr) (fun i _=>q - (intOf i).toNat)
 case atStart=>exact ⟨0,Qak _,rfl,HA.out,hblk,Below.refl _ _⟩
 case round=>
  clear hblk;obtain ⟨j,hj,rfl,hany,hblk',hb'⟩:=hrel;have hB':=hb01.trans (hb'.mono hb01.size);have hbw:=hb'.mono hb01.size;by_cases hlt2:j<q
  ·have hjI:(j:Int)<(q:Int):=by omega
   obtain ⟨x,hx⟩: ∃x,L[j]?=some x:=⟨_,Qad (by rw [HQ.out];exact hlt2)⟩;obtain ⟨y,hy,hyF,hyT⟩:=q4m hany.out hx;obtain ⟨hcl2,hcd2⟩:=KC.out _ hbw;obtain ⟨ad,Al,cl,us2,rfl,hc0,hlc,hclm,hul2,hud2⟩:=q8b hcl2 hcd2 hx;have hlw:Reads wr (Lo B) (.list x.length (strL x)) (.slice Al x.length cl):=y19 hlc hclm hul2 hud2;have hlr:Reads wr.drew (Lo B) (.list x.length (strL x)) (.slice Al x.length cl):=Reads.keep (w:=wr) (w':=wr.drew) (S:=Lo B) (S':=Lo B) (fun _ h=>h) (fun _ _=>rfl) _ _ hlw;have hRr:Reads wr.drew (Lo B) (.list R.length (y3x R)) (.slice A n c):=KR.out _ (below_drewN hB' 1);have hbd:Below w1.heap.size w1 wr.drew:=below_drewN hb' 1;have hblkd:TokAt wr.drew g ⟨kind,line,col,start,stop,text,value⟩:=hblk';have hBd:B≤wr.drew.heap.size:=Qah hB hB'.size;have hadd:(ad.add j).block<wr.drew.heap.size:=World.block_lt_of_cell? _ _ hc0;have HY:=hide hy;have HYF:=hide hyF;have HYT:=hide hyT;obtain ⟨p',hp⟩: ∃p,x.length=p:=⟨_,rfl⟩;have hcall:=z5n B R A n c ⟨kind,line,col,start,stop,text,value⟩ nf bf x y Al x.length cl wr.drew hRr hlr hBd HY.out;have HLW:=hide hlr;have HP:=hide hp;rw [hp] at hc0 hcall;have t0:=hblk'.cell 0;have t1:=hblk'.cell 1;have t2:=hblk'.cell 2;have t3:=hblk'.cell 3;have t4:=hblk'.cell 4;have t5:=hblk'.cell 5;have t6:=hblk'.cell 6;clear hx hy hyF hyT hcl2 hcd2 hul2 hud2 hlr hRr hp hlw
   go_wp2_with fail
   go_region_with (go_at_call 173
                   refine hcall.mono ?_
                   rintro e w9 ⟨rfl,hb9⟩)
   all_goals
    clear hcall;have hb39:=hbd.trans (hb9.mono hbd.size);have hblk9:=hblkd.below hb9;have hc9:=(hb9.cell (p:=ad.add j) hadd).trans hc0
    cases y with
    |true=>
     have h1:=HYT.out rfl;have h2:=HH.out;rw [h1] at h2;injection h2 with h2;have h3:Reads w9 (Lo B) (.list x.length (strL x)) (.slice Al x.length cl):=Reads.keep (fun _ h=>h) (fun p hp=>hb9.cell (Qap hp hBd)) _ _ HLW.out;have H3:=hide h3;have H2:=hide h2;clear h1 h2 h3 t0 t1 t2 t3 t4 t5 t6 hc0
     go_wp2_with fail
     go_ret2
     rw [←H2.out];have h4:=H3.out;rw [HP.out] at h4;exact ⟨_,rfl,by rw [HP.out];exact h4,by first|exact hb01.trans (hb39.mono hb01.size)|(rw [←hg];exact hb01.trans (hb39.mono hb01.size))⟩
    |false=>
     have h1:=HYF.out rfl;have H1:=hide h1;clear h1
     go_wp2_with fail
     go_roundw
     case rel=>exact ⟨j+1,by omega,by go_num,H1,hblk9,hb39⟩
     case measure=>simp [intOf];omega
  ·obtain rfl:j=q:=by omega
   have hon:o=none:=by
    have h1:=hany.out;rw [Qbo (by rw [HQ.out];exact Qab _),choF] at h1;injection h1 with h1;exact h1.symm
   have h2:=HH.out;rw [hon] at h2;dsimp only at h2
   cases hz:z0g R nf s with
   |none=>rw [hz] at h2;cases h2
   |some z=>
    rw [hz] at h2;injection h2 with h2;have hnull:=y7x (Lo B) R A n c _ (KR.out _ hB') nf s z hz;have H2:=hide h2;clear h2 hz
    go_wp2_with fail
    refine hnull.mono ?_;rintro e wr ⟨rfl,rfl⟩;clear hnull
    go_wp2_with fail
    go_ret2
    rw [←H2.out];exact ⟨_,rfl,z29,by first|exact hB'|(rw [←hg];exact hB')⟩
end Go.Proofs.YtbpgkkoeehopjaaGreat.gram
