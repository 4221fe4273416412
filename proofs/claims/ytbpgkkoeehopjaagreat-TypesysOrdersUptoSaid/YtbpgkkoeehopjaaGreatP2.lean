/- Part 2 of a proof: see the text that holds the statement. -/
import Derived.Test.YtbpgkkoeehopjaaGreatP1
import Derived.Lib.MapLaws
import Derived.Lib.ValidU
import Derived.Lib.QuoteLoop
import Derived.Lib.Small
import Derived.Lib.FieldsU
import Derived.WalkSmall
import Derived.Lib.OthersKept
import Derived.Lib.RuneCountTail
import Derived.Deep.QuietTactic
import Derived.BigQuiet
import Derived.Deep.LoopGhost
set_option linter.unusedVariables false
set_option linter.unusedSimpArgs false
namespace Go.Proofs.YtbpgkkoeehopjaaGreat.lex
open Go.RowKit words enc tree gram
set_option maxRecDepth 100000
set_option maxHeartbeats 2000000 in
theorem q31 (c:Int) (w:World) (h:z14 c=false):Calls Tryz.prog 217 #[.int .i32 c] w fun e w'=>e= .returned (.bool false)∧w'=w:=by
 unfold z14 at h;have hs:=fun w=>y56 c w
 cases h1:y7r c with
 |false=>
  rw [h1] at hs;clear h h1;go_enter Tryz.func217,Tryz.ntmps217
  go_wp2_with (first|(go_at_call 167;refine (hs _).mono ?_;rintro e w' ⟨rfl,rfl⟩))
  go_ret;exact ⟨rfl,rfl⟩
 |true=>
  rw [h1] at hs h
  have hc:c=34∨c=92∨c=10∨c=13:=by
   simp only [Bool.true_and,Bool.and_eq_false_iff,bne_eq_false_iff_eq] at h;omega
  clear h h1;rcases hc with rfl|rfl|rfl|rfl
  all_goals
   go_enter Tryz.func217,Tryz.ntmps217
   go_wp2_with (first|(go_at_call 167;refine (hs _).mono ?_;rintro e w' ⟨rfl,rfl⟩))
   go_ret;exact ⟨rfl,rfl⟩
theorem x8u (c:Int) (w:World):Calls Tryz.prog 217 #[.int .i32 c] w fun e w'=>e= .returned (.bool (z14 c))∧w'=w:=by
 cases h:z14 c with
 |true=>exact x8s c w h
 |false=>exact q31 c w h
def x1a (h l:Int):Int×Bool:=if h<55296∨56319<h∨l<56320∨57343<l then (0,false) else (65536+(h - 55296)*1024+(l - 56320),true)
set_option maxHeartbeats 4000000 in
theorem q32 (h l:Int) (w:World):Calls Tryz.prog 220 #[.int .i32 h,.int .i32 l] w fun e w'=>e= .returned (.tuple #[.int .i32 (x1a h l).1,.bool (x1a h l).2])∧w'=w:=by
 obtain ⟨r1,r2,hr⟩: ∃r1 r2,x1a h l=(r1,r2):=⟨_,_,rfl⟩;rw [hr];unfold x1a at hr;by_cases h1:h<55296
 ·rw [if_pos (.inl h1)] at hr;injection hr with e1 e2;subst e1 e2;go_enter Tryz.func220,Tryz.ntmps220
  go_wp2_with fail
  go_ret2
  exact ⟨rfl,rfl⟩
 by_cases h2:56319<h
 ·rw [if_pos (.inr (.inl h2))] at hr;injection hr with e1 e2;subst e1 e2;go_enter Tryz.func220,Tryz.ntmps220
  go_wp2_with fail
  go_ret2
  exact ⟨rfl,rfl⟩
 by_cases h3:l<56320
 ·rw [if_pos (.inr (.inr (.inl h3)))] at hr;injection hr with e1 e2;subst e1 e2;go_enter Tryz.func220,Tryz.ntmps220
  go_wp2_with fail
  go_ret2
  exact ⟨rfl,rfl⟩
 by_cases h4:57343<l
 ·rw [if_pos (.inr (.inr (.inr h4)))] at hr;injection hr with e1 e2;subst e1 e2;go_enter Tryz.func220,Tryz.ntmps220
  go_wp2_with fail
  go_ret2
  exact ⟨rfl,rfl⟩
 rw [if_neg (by omega)] at hr;injection hr with e1 e2
 have w1:wrap32 (h - 55296)=h - 55296:=by simp [wrap32];omega
 have w2:wrap32 ((h - 55296)*1024)=(h - 55296)*1024:=by simp [wrap32];omega
 have w3:wrap32 (65536+(h - 55296)*1024)=65536+(h - 55296)*1024:=by simp [wrap32];omega
 have w4:wrap32 (l - 56320)=l - 56320:=by simp [wrap32];omega
 have w5:wrap32 (65536+(h - 55296)*1024+(l - 56320))=65536+(h - 55296)*1024+(l - 56320):=by simp [wrap32];omega
 subst e1 e2;go_enter Tryz.func220,Tryz.ntmps220
 go_wp2_with fail
 go_ret2
 exact ⟨rfl,rfl⟩
def z0a:List Int→Int→Int
 |[],n=>n
 |z::r,n=>if hexF z<0 then -1 else z0a r (n*16+hexF z)
def y6q (s:List Int) (i:Nat):Int:=if s.length<i+6 then -1 else if s[i]?=some 92∧s[i+1]?=some 117 then z0a ((s.drop (i+2)).take 4) 0 else -1
theorem z8p (c:Int): -1≤hexF c∧hexF c≤15:=by
 unfold hexF
 repeat (first|omega|split)
theorem z15: ∀(l:List Int) (n:Int) (m:Nat),l.length≤m→0≤n→n<65536 / 16 ^ m→ -1≤z0a l n∧z0a l n<65536
 |[],n,m,_,h0,h=>by
  have:(65536:Int) / 16 ^ m≤65536:=Int.ediv_le_self _ (by omega);rw [z0a];omega
 |z::r,n,0,hl,_,_=>by simp at hl
 |z::r,n,m+1,hl,h0,h=>by
  rw [z0a];split
  ·omega
  ·have hb:=z8p z;refine z15 r _ m (by simpa using hl) (by omega) ?_
   have h2:(65536:Int) / 16 ^ (m+1)=65536 / 16 ^ m / 16:=by rw [Int.pow_succ,Int.ediv_ediv_of_nonneg (by exact Int.pow_nonneg (by omega))]
   rw [h2] at h;omega
theorem x5u (s:List Int) (i:Nat): -1≤y6q s i∧y6q s i<65536:=by
 unfold y6q;split
 ·omega
 ·split
  ·exact z15 _ 0 4 (by rw [Qau];omega) (by omega) (by decide)
  ·omega
set_option maxHeartbeats 16000000 in
theorem q33 (A:Option Addr) (n c B:Nat) (s:List Int) (w:World) (hr:Rd w B A (s.map (Value.int .i32))) (hn:s.length=n) (h63:n≤1099511627776) (i:Nat) (hi:i≤1099511627776):
  Calls Tryz.prog 219 #[.slice A n c,.int .i64 i] w fun e w'=>e= .returned (.int .i32 (y6q s i))∧w'=w:=by
 obtain ⟨r,hrr⟩: ∃r,y6q s i=r:=⟨_,rfl⟩;rw [hrr];unfold y6q at hrr;rw [hn] at hrr;by_cases h6:n<i+6
 ·rw [if_pos h6] at hrr;subst hrr
  have hI:(n:Int)<(i:Int)+6:=by omega
  clear hn;go_enter Tryz.func219,Tryz.ntmps219
  go_wp2_with fail
  go_ret;exact ⟨rfl,rfl⟩
 rw [if_neg h6] at hrr
 have hI: ¬(n:Int)<(i:Int)+6:=by omega
 have hiI:(i:Int)<(n:Int):=by omega
 have hiI1:(i:Int)+1<(n:Int):=by omega
 obtain ⟨y,hy⟩: ∃z,s[i]?=some z:=⟨_,Qad (by omega)⟩;obtain ⟨z,hz⟩: ∃z,s[i+1]?=some z:=⟨_,Qad (by omega)⟩;obtain ⟨ad,rfl,hcy⟩:=y2g hr hy;obtain ⟨ad',e1,hcz⟩:=y2g hr hz;injection e1 with e1;subst e1;rw [y3l] at hcz;rw [hy,hz] at hrr;simp only [Option.some.injEq] at hrr;have HN:=hide hn;clear hn hy hz;by_cases h1:y=92
 ·by_cases h2:z=117
  ·rw [if_pos ⟨h1,h2⟩] at hrr;subst h1 h2;have HR:=hide hrr;clear hrr;go_enter Tryz.func219,Tryz.ntmps219
   go_wp2_with fail
   go_loopw [5,6,7] (fun vn vk _ wr=>∃(j:Nat) (m:Int),j≤4∧vk= .int .i64 ((i+2+j:Nat):Int)∧vn= .int .i32 m∧0≤m∧m<65536 / 16 ^ (4 - j)∧Hid (z0a ((s.drop (i+2+j)).take (4 - j)) m=r)∧wr=w) (fun _ vk _ _=>n - (intOf vk).toNat)
   case atStart=>exact ⟨0,0,by omega,by go_num,rfl,by omega,by decide,HR,rfl⟩
   case round=>
    obtain ⟨j,m,hj,rfl,rfl,hm0,hm1,hp,rfl⟩:=hrel
    have hm2:m<65536:=by
     have:(65536:Int) / 16 ^ (4 - j)≤65536:=Int.ediv_le_self _ (by omega);omega
    by_cases hlt:j<4
    ·have hkI:((i+2+j:Nat):Int)<(i:Int)+6:=by omega
     have hkn:((i+2+j:Nat):Int)<(n:Int):=by omega
     have hkn':i+2+j<n:=by omega
     obtain ⟨z,hz⟩: ∃z,s[i+2+j]?=some z:=⟨_,Qad (by rw [HN.out];exact hkn')⟩;obtain ⟨ad',e1,hc⟩:=y2g hr hz;injection e1 with e1;subst e1;have h0:=hp.out;obtain ⟨hk',hzz⟩:=Qac.1 hz
     have ht:(s.drop (i+2+j)).take (4 - j)=z::(s.drop (i+2+(j+1))).take (4 - (j+1)):=by
      rw [Qa1 hk',hzz]
      have e:4 - j=(4 - (j+1))+1:=by omega
      rw [e,List.take_succ_cons];rfl
     rw [ht,z0a] at h0;have hb:=z8p z;obtain ⟨q,hq⟩: ∃q,hexF z=q:=⟨_,rfl⟩;have hcall:=fun w=>q73 z w;rw [hq] at h0 hb hcall
     have hm4:m<4096:=by
      have hj':j=0∨j=1∨j=2∨j=3:=by omega
      rcases hj' with rfl|rfl|rfl|rfl<;>simp at hm1<;>omega
     have hnext:0≤q→m*16+q<65536 / 16 ^ (4 - (j+1)):=by
      intro hq0
      have hj':j=0∨j=1∨j=2∨j=3:=by omega
      rcases hj' with rfl|rfl|rfl|rfl<;>simp at hm1 ⊢ <;>omega
     clear hz hzz hq ht hk' hm1;obtain ⟨kk,hkk⟩: ∃kk,i+2+j=kk:=⟨_,rfl⟩;have HK:=hide hkk;rw [hkk] at hkI hkn hkn' hc
     have hkk1:(i+2+(j+1))=kk+1:=by omega
     rw [hkk1] at h0;rw [hkk];clear hkk hkk1 hp;by_cases hneg:q<0
     ·rw [if_pos hneg] at h0;subst h0
      go_wp2_with (first|(go_at_call 222;refine (hcall _).mono ?_;rintro e w' ⟨rfl,rfl⟩))
      go_ret;exact ⟨rfl,rfl⟩
     ·rw [if_neg hneg] at h0;have H0:=hide h0;have hnx:=hnext (by omega)
      have w1:wrap32 q=q:=by simp [wrap32];omega
      have w2:wrap32 (m*16)=m*16:=by simp [wrap32];omega
      have w3:wrap32 (m*16+q)=m*16+q:=by simp [wrap32];omega
      have HX:=hide hnx;clear h0 hnext hnx
      go_wp2_with (first|(go_at_call 222;refine (hcall _).mono ?_;rintro e w' ⟨rfl,rfl⟩))
      go_roundw
      case rel=>exact ⟨j+1,m*16+q,by omega,by have:=HK.out;go_num,rfl,by omega,HX.out,by have e:=HK.out;rw [show i+2+(j+1)=kk+1 by omega];exact H0,trivial⟩
      case measure=>simp [intOf];omega
    ·obtain rfl:j=4:=by omega
     have h0:=hp.out
     have hkI: ¬((i+2+4:Nat):Int)<(i:Int)+6:=by omega
     have hr0:r=m:=by
      rw [←h0]
      have e:(s.drop (i+2+4)).take (4 - 4)=[]:=by simp
      rw [e,z0a]
     subst hr0;clear hp h0 hm1 HR
     go_wp2_with fail
     go_ret;exact ⟨rfl,rfl⟩
  ·rw [if_neg (by omega)] at hrr;subst hrr h1
   have b1:((z:Int) !=117)=true:=by rw [Qa8];exact h2
   clear h2;go_enter Tryz.func219,Tryz.ntmps219
   go_wp2_with fail
   go_ret;exact ⟨rfl,rfl⟩
 ·rw [if_neg (by omega)] at hrr;subst hrr
  have b1:((y:Int) !=92)=true:=by rw [Qa8];exact h1
  clear h1;go_enter Tryz.func219,Tryz.ntmps219
  go_wp2_with fail
  go_ret;exact ⟨rfl,rfl⟩
def y84 (s:List Int) (i:Nat):Int×Nat:=match s[i]? with
 |none=>(0,0)
 |some z=>if z14 z=true then (z,1)
  else if z≠92 then (0,0)
  else match s[i+1]? with
   |none=>(0,0)
   |some y=>if 0≤z5h y then (z5h y,2)
    else if y6q s i<0∨(56320≤y6q s i∧y6q s i≤57343) then (0,0)
    else if 55296≤y6q s i∧y6q s i≤56319 then (if (x1a (y6q s i) (y6q s (i+6))).2=true then ((x1a (y6q s i) (y6q s (i+6))).1,12) else (0,0))
    else (y6q s i,6)
theorem x8v (s:List Int) (i:Nat):(y84 s i).2≤12:=by
 unfold y84
 (repeat' split)<;>simp
set_option maxHeartbeats 16000000 in
theorem x8w (A:Option Addr) (n c B:Nat) (s:List Int) (w:World) (hr:Rd w B A (s.map (Value.int .i32))) (hn:s.length=n) (h63:n≤1099511627770) (i:Nat) (hi:i<n):
  Calls Tryz.prog 213 #[.slice A n c,.int .i64 i] w fun e w'=>e= .returned (.tuple #[.int .i32 (y84 s i).1,.int .i64 (y84 s i).2])∧w'=w:=by
 obtain ⟨r1,r2,hrr⟩: ∃r1 r2,y84 s i=(r1,r2):=⟨_,_,rfl⟩;rw [hrr];unfold y84 at hrr
 have hiI:(i:Int)<(n:Int):=by omega
 obtain ⟨z,hz⟩: ∃z,s[i]?=some z:=⟨_,Qad (by omega)⟩;have hu:=fun w hr j hj=>q33 A n c B s w hr hn (by omega) j hj;obtain ⟨ad,rfl,hcz⟩:=y2g hr hz;rw [hz] at hrr;simp only at hrr;have hpl:=fun w=>x8u z w
 cases hp:z14 z with
 |true=>
  rw [hp,if_pos rfl] at hrr;rw [hp] at hpl;injection hrr with e1 e2;subst e1 e2;clear hn hz hp hu;go_enter Tryz.func213,Tryz.ntmps213
  go_wp2_with (first|(go_at_call 217;refine (hpl _).mono ?_;rintro e w' ⟨rfl,rfl⟩))
  go_ret2
  exact ⟨rfl,rfl⟩
 |false=>
  rw [hp,if_neg (by decide)] at hrr;rw [hp] at hpl;by_cases h92:z=92
  ·rw [if_neg (by omega)] at hrr;subst h92;by_cases hi1:i+1<n
   ·obtain ⟨y,hy⟩: ∃z,s[i+1]?=some z:=⟨_,Qad (by omega)⟩
    have hiI1: ¬(n:Int)≤(i:Int)+1:=by omega
    have hiI2:(i:Int)+1<(n:Int):=by omega
    obtain ⟨ad',e1,hcy⟩:=y2g hr hy;injection e1 with e1;subst e1;rw [y3l] at hcy;rw [hy] at hrr;simp only at hrr;have hsh:=fun w=>x8t y w;obtain ⟨q,hq⟩: ∃q,z5h y=q:=⟨_,rfl⟩;rw [hq] at hrr hsh;clear hn hz hp hy hq;by_cases hs0:0≤q
    ·rw [if_pos hs0] at hrr;injection hrr with e1 e2;subst e1 e2;go_enter Tryz.func213,Tryz.ntmps213
     go_wp2_with (first|(go_at_call 217;refine (hpl _).mono ?_;rintro e w' ⟨rfl,rfl⟩)|(go_at_call 218;refine (hsh _).mono ?_;rintro e w' ⟨rfl,rfl⟩))
     go_ret2
     exact ⟨rfl,rfl⟩
    rw [if_neg hs0] at hrr;have hu1:=fun w hr=>hu w hr i (by omega);have hu2: ∀w,Rd w B (some ad) (s.map (Value.int .i32))→Calls Tryz.prog 219 #[.slice (some ad) n c,.int .i64 ((i:Int)+6)] w fun e w'=>e= .returned (.int .i32 (y6q s (i+6)))∧w'=w:=fun w hr=>hu w hr (i+6) (by omega);obtain ⟨u,hue⟩: ∃u,y6q s i=u:=⟨_,rfl⟩;obtain ⟨v,hve⟩: ∃v,y6q s (i+6)=v:=⟨_,rfl⟩;rw [hue,hve] at hrr;rw [hue] at hu1;rw [hve] at hu2;have hub:=x5u s i;rw [hue] at hub;clear hue hve hu;by_cases hu0:u<0
    ·rw [if_pos (.inl hu0)] at hrr;injection hrr with e1 e2;subst e1 e2;go_enter Tryz.func213,Tryz.ntmps213
     go_wp2_with (first|(go_at_call 217;refine (hpl _).mono ?_;rintro e w' ⟨rfl,rfl⟩)|(go_at_call 218;refine (hsh _).mono ?_;rintro e w' ⟨rfl,rfl⟩)|(go_at_call 219;refine (hu1 _ hr).mono ?_;rintro e w' ⟨rfl,rfl⟩))
     go_ret2
     exact ⟨rfl,rfl⟩
    have hu0':0≤u:=by omega
    by_cases hd1:56320≤u
    ·by_cases hd2:u≤57343
     ·rw [if_pos (.inr ⟨hd1,hd2⟩)] at hrr;injection hrr with e1 e2;subst e1 e2;go_enter Tryz.func213,Tryz.ntmps213
      go_wp2_with (first|(go_at_call 217;refine (hpl _).mono ?_;rintro e w' ⟨rfl,rfl⟩)|(go_at_call 218;refine (hsh _).mono ?_;rintro e w' ⟨rfl,rfl⟩)|(go_at_call 219;refine (hu1 _ hr).mono ?_;rintro e w' ⟨rfl,rfl⟩))
      go_ret2
      exact ⟨rfl,rfl⟩
     ·rw [if_neg (by omega),if_neg (by omega)] at hrr;injection hrr with e1 e2;subst e1 e2
      have hx1:55296≤u:=by omega
      have hx2: ¬u≤56319:=by omega
      go_enter Tryz.func213,Tryz.ntmps213
      go_wp2_with (first|(go_at_call 217;refine (hpl _).mono ?_;rintro e w' ⟨rfl,rfl⟩)|(go_at_call 218;refine (hsh _).mono ?_;rintro e w' ⟨rfl,rfl⟩)|(go_at_call 219;refine (hu1 _ hr).mono ?_;rintro e w' ⟨rfl,rfl⟩))
      go_ret2
      exact ⟨rfl,rfl⟩
    ·rw [if_neg (by omega)] at hrr;by_cases hx1:55296≤u
     ·have hx2:u≤56319:=by omega
      rw [if_pos ⟨hx1,hx2⟩] at hrr;have hj:=fun w=>q32 u v w;obtain ⟨j1,j2,hje⟩: ∃j1 j2,x1a u v=(j1,j2):=⟨_,_,rfl⟩;rw [hje] at hrr hj;simp only at hrr hj;clear hje
      cases j2 with
      |true=>
       rw [if_pos rfl] at hrr;injection hrr with e1 e2;subst e1 e2;go_enter Tryz.func213,Tryz.ntmps213
       go_wp2_with (first|(go_at_call 217;refine (hpl _).mono ?_;rintro e w' ⟨rfl,rfl⟩)|(go_at_call 218;refine (hsh _).mono ?_;rintro e w' ⟨rfl,rfl⟩)|(go_at_call 219;refine (hu1 _ hr).mono ?_;clear hu1;rintro e w' ⟨rfl,rfl⟩)|(go_at_call 219;refine (hu2 _ hr).mono ?_;rintro e w' ⟨rfl,rfl⟩)|(go_at_call 220;refine (hj _).mono ?_;rintro e w' ⟨rfl,rfl⟩))
       go_ret2
       exact ⟨rfl,rfl⟩
      |false=>
       rw [if_neg (by decide)] at hrr;injection hrr with e1 e2;subst e1 e2;go_enter Tryz.func213,Tryz.ntmps213
       go_wp2_with (first|(go_at_call 217;refine (hpl _).mono ?_;rintro e w' ⟨rfl,rfl⟩)|(go_at_call 218;refine (hsh _).mono ?_;rintro e w' ⟨rfl,rfl⟩)|(go_at_call 219;refine (hu1 _ hr).mono ?_;clear hu1;rintro e w' ⟨rfl,rfl⟩)|(go_at_call 219;refine (hu2 _ hr).mono ?_;rintro e w' ⟨rfl,rfl⟩)|(go_at_call 220;refine (hj _).mono ?_;rintro e w' ⟨rfl,rfl⟩))
       go_ret2
       exact ⟨rfl,rfl⟩
     ·rw [if_neg (by omega)] at hrr;injection hrr with e1 e2;subst e1 e2;go_enter Tryz.func213,Tryz.ntmps213
      go_wp2_with (first|(go_at_call 217;refine (hpl _).mono ?_;rintro e w' ⟨rfl,rfl⟩)|(go_at_call 218;refine (hsh _).mono ?_;rintro e w' ⟨rfl,rfl⟩)|(go_at_call 219;refine (hu1 _ hr).mono ?_;rintro e w' ⟨rfl,rfl⟩))
      go_ret2
      exact ⟨rfl,rfl⟩
   ·rw [Qbg (by omega)] at hrr;simp only at hrr;injection hrr with e1 e2;subst e1 e2
    have hiI1:(n:Int)≤(i:Int)+1:=by omega
    clear hn hz hp hu;go_enter Tryz.func213,Tryz.ntmps213
    go_wp2_with (first|(go_at_call 217;refine (hpl _).mono ?_;rintro e w' ⟨rfl,rfl⟩))
    go_ret2
    exact ⟨rfl,rfl⟩
  ·rw [if_pos h92] at hrr;injection hrr with e1 e2;subst e1 e2
   have b1:((z:Int) !=92)=true:=by rw [Qa8];exact h92
   clear hn hz hp hu h92;go_enter Tryz.func213,Tryz.ntmps213
   go_wp2_with (first|(go_at_call 217;refine (hpl _).mono ?_;rintro e w' ⟨rfl,rfl⟩))
   go_ret2
   exact ⟨rfl,rfl⟩
def z2i (s:List Int):Nat→Nat→Option (List Int)
 |0,_=>some []
 |g+1,i=>if s.length≤i then some [] else if (y84 s i).2=0 then none else (z2i s g (i+(y84 s i).2)).map ((y84 s i).1:: ·)
def escF (s:List Int):Option (List Int):=z2i s s.length 0
def y6r (s:List Int):Txt×Int:=match escF s with
 |none=>([],60)
 |some l=>((encS l).data.toList,0)
set_option maxHeartbeats 8000000 in
theorem x5v (A:Option Addr) (n c B:Nat) (s:List Int) (w:World) (hr:Rd w B A (s.map (Value.int .i32))) (hB:B≤w.heap.size) (hn:s.length=n) (h63:n≤1099511627700):
  Calls Tryz.prog 206 #[.slice A n c] w fun e w'=>e= .returned (.tuple #[.string (str (y6r s).1),.int .i64 (y6r s).2])∧Below w.heap.size w w':=by
 obtain ⟨i0,hi0,hz0,hz1,hz2⟩:=info_parts y95;obtain ⟨r1,r2,hrr⟩: ∃r1 r2,y6r s=(r1,r2):=⟨_,_,rfl⟩;rw [hrr];have HR:=hide hrr;have HN:=hide hn
 have HE:Hid ((z2i s n 0).map ([]++ ·)=escF s):=by
  show (z2i s n 0).map ([]++ ·)=escF s
  unfold escF;rw [hn];cases z2i s n 0<;>simp
 clear hn hrr;go_enter Tryz.func206,Tryz.ntmps206
 go_wp2_with fail
 go_loopw [4,5,6,7] (fun v iv _ _ wr=>∃(k g:Nat) (dn:List Int),k≤n+12∧n≤k+g∧dn.length≤k∧iv= .int .i64 k∧wr.ownsRow w.heap.size 21 1 v dn.length (dn.map (Value.int .i32))∧Hid ((z2i s g k).map (dn++ ·)=escF s)∧Below w.heap.size w wr) (fun _ iv _ _ _=>n+12 - (intOf iv).toNat)
 case atStart=>exact ⟨0,n,[],by omega,by omega,by simp,rfl,World.ownsRow_nil _ _ _ _,HE,Below.refl _ _⟩
 case round=>
  clear HE;obtain ⟨k,g,dn,hk,hg,hdn,rfl,hown,he,hb⟩:=hrel;obtain ⟨Av,cv,rfl,_,hcv⟩:=y0e hown;by_cases hlt:k<n
  ·have hkI:(k:Int)<(n:Int):=by omega
   have hcall:=x8w A n c B s wr (hr.below' hb hB) HN.out (by omega) k hlt;obtain ⟨g,rfl⟩: ∃g',g=g'+1:=⟨g - 1,by omega⟩;have h0:=he.out;rw [z2i,if_neg (by rw [HN.out];omega)] at h0;have hpl:=x8v s k;obtain ⟨p,q,hpq⟩: ∃p q,y84 s k=(p,q):=⟨_,_,rfl⟩;rw [hpq] at h0 hcall hpl;simp only at h0 hcall hpl;clear hpq he;by_cases hq0:q=0
   ·rw [if_pos hq0] at h0;have hrr:=HR.out;unfold y6r at hrr;rw [←h0] at hrr;simp only [Option.map_none] at hrr;injection hrr with e1 e2;subst e1 e2 hq0;clear h0
    go_wp2_with fail
    refine hcall.mono ?_;rintro e wr ⟨rfl,rfl⟩;clear hcall
    go_wp2_with fail
    go_ret2
    exact ⟨rfl,hb⟩
   ·rw [if_neg hq0] at h0
    have hnext:Hid ((z2i s g (k+q)).map ((dn++[p])++ ·)=escF s):=by
     show (z2i s g (k+q)).map ((dn++[p])++ ·)=escF s
     rw [←h0]
     cases z2i s g (k+q)<;>simp
    have b1:((q:Int)==0)=false:=by rw [Qa3];omega
    clear h0
    go_wp2_with fail
    refine hcall.mono ?_;rintro e wr ⟨rfl,rfl⟩;clear hcall
    go_wp2_with (at_builtin;refine y0b _ rfl _ _ 187 rfl w.heap.size 21 i0 (.int .i32 0) 1 4 Tryz.underlying187 hi0 hz0 hz1 hz2 rfl (by decide) _ _ _ rfl (hown.alloc _) _ _ 1 1 [_] rfl (by rfl) (y3f _ [_] _ (Qaw _)) (y33 [_]) (by simp only [maxLen];omega) (by omega) (Qah hb.size (by simp)) ?_)
    intro v2 w2 hown2 hg2 hat2;have hb2:=y0d (hb.alloc hb.size _) (hown.alloc _) (Qab _) hg2 (Qah hb.size (by simp))
    have hown3:w2.ownsRow w.heap.size 21 1 v2 (dn++[p]).length ((dn++[p]).map (Value.int .i32)):=by
     rw [Qae,Qas];exact hown2
    go_wp2_with fail
    go_roundw
    case rel=>exact ⟨k+q,g,dn++[p],by omega,by omega,by rw [Qae,Qbj];omega,by go_num,hown3,hnext,hb2⟩
    case measure=>simp [intOf];omega
  ·have hkI: ¬(k:Int)<(n:Int):=by omega
   have h0:=he.out
   have hes:z2i s g k=some []:=by
    cases g with
    |zero=>rfl
    |succ g=>rw [z2i,if_pos (by rw [HN.out];omega)]
   rw [hes] at h0;simp only [Option.map_some,List.append_nil] at h0;have hrr:=HR.out;unfold y6r at hrr;rw [←h0] at hrr;simp only at hrr;injection hrr with e1 e2;subst e2
   have e3:str r1=encS dn:=by rw [←e1];exact str_of _
   have E3:=hide e3;clear he h0 hes e1 e3
   go_wp2_with fail
   refine (y41 Av dn.length cv wr.heap.size dn _ (Rd.of_own hown) (Qab _) rfl (by omega)).mono ?_;rintro e w2 ⟨rfl,hb2⟩;have hB2:=hb.trans (hb2.mono hb.size)
   go_wp2_with fail
   go_ret2
   exact ⟨by rw [E3.out];rfl,hB2⟩
end Go.Proofs.YtbpgkkoeehopjaaGreat.lex
namespace Go.Proofs.YtbpgkkoeehopjaaGreat.utf
open Go.Lib
def Bad (l:List UInt8):Prop:=(decodeL l).1=65533∧(decodeL l).2=1
instance (l:List UInt8):Decidable (Bad l):=inferInstanceAs (Decidable (_∧_))
def dec:Nat→List UInt8→List Int×Nat
 |0,_=>([],0)
 |f+1,l=>if l=[]∨Bad l then ([],0) else (((decodeL l).1:Int)::(dec f (l.drop (decodeL l).2)).1,(decodeL l).2+(dec f (l.drop (decodeL l).2)).2)
def decF (l:List UInt8):List Int×Nat:=dec l.length l
theorem x1b (l:List UInt8) (h:l≠[]):(l.drop (decodeL l).2).length<l.length:=by
 have h1:=decodeL_width l;have h2:0<l.length:=Qbt.2 h;rw [Qav];omega
theorem z6z: ∀(f:Nat) (l:List UInt8),l.length≤f→dec f l=decF l
 |0,l,h=>by
  have:l=[]:=Qa0 (by omega);subst this;rfl
 |f+1,l,h=>by
  by_cases hl:l=[]
  ·subst hl;rfl
  ·have hlt:=x1b l hl;obtain ⟨m,hm⟩: ∃m,l.length=m+1:=⟨l.length - 1,by have:=Qbt.2 hl;omega⟩;unfold decF;rw [hm];unfold dec;by_cases hb:l=[]∨Bad l
   ·rw [if_pos hb,if_pos hb]
   ·rw [if_neg hb,if_neg hb,z6z f _ (by omega),z6z m _ (by omega)]
theorem z0b:decF []=([],0):=rfl
theorem z0c {l:List UInt8} (h:Bad l):decF l=([],0):=by
 cases l with
 |nil=>rfl
 |cons b l=>unfold decF;simp only [List.length_cons,dec];rw [if_pos (.inr h)]
theorem y57 {l:List UInt8} (hl:l≠[]) (h: ¬Bad l):decF l=(((decodeL l).1:Int)::(decF (l.drop (decodeL l).2)).1,(decodeL l).2+(decF (l.drop (decodeL l).2)).2):=by
 obtain ⟨m,hm⟩: ∃m,l.length=m+1:=⟨l.length - 1,by have:=Qbt.2 hl;omega⟩;have hlt:=x1b l hl
 have e:decF l=dec (m+1) l:=by unfold decF;rw [hm]
 rw [e];simp only [dec];rw [if_neg (by rintro (h1|h1);exact hl h1;exact h h1),z6z m _ (by omega)]
theorem z2n {P:List UInt8→Prop} (hn:P []) (hb: ∀l,l≠[]→Bad l→P l) (hg: ∀l,l≠[]→ ¬Bad l→P (l.drop (decodeL l).2)→P l): ∀l,P l:=by
 have key: ∀n l,List.length l=n→P l:=by
  intro n
  induction n using Nat.strongRecOn with
  |_ n ih=>
   intro l h;by_cases hl:l=[]
   ·subst hl;exact hn
   by_cases h1:Bad l
   ·exact hb l hl h1
   ·exact hg l hl h1 (ih _ (by have:=x1b l hl;omega) _ rfl)
 exact fun l=>key _ l rfl
theorem x8x: ∀l,(decF l).2≤l.length:=by
 refine z2n (by simp [z0b]) (fun l _ h=>by rw [z0c h];simp) (fun l hl h ih=>?_);rw [y57 hl h];have:=decodeL_le l hl;rw [Qav] at ih;dsimp only;omega
theorem z2o: ∀l,(decF l).1.length≤(decF l).2:=by
 refine z2n (by simp [z0b]) (fun l _ h=>by rw [z0c h];simp) (fun l hl h ih=>?_);rw [y57 hl h];have:=decodeL_width l;simp only [List.length_cons];omega
theorem z0d (l:List UInt8):validRune ((decodeL l).1:Int)=true:=by
 have h:=decodeN_valid l.length (l.getD 0 0).toNat (l.getD 1 0).toNat (l.getD 2 0).toNat (l.getD 3 0).toNat (l.getD 0 0).toNat_lt;rw [←decodeL_N] at h;unfold validRune;rw [decide_eq_true_eq];omega
theorem x5w: ∀l,∀c∈(decF l).1,validRune c=true:=by
 refine z2n (by simp [z0b]) (fun l _ h=>by rw [z0c h];simp) (fun l hl h ih=>?_);rw [y57 hl h];intro c hc;rcases Qbd.1 hc with rfl|hc
 ·exact z0d l
 ·exact ih c hc
def encB (zs:List Int):List UInt8:=zs.flatMap encodeRune
theorem z8q (z:Int) (zs:List Int):encB (z::zs)=encodeRune z++encB zs:=rfl
theorem x8y: ∀l,encB (decF l).1=l.take (decF l).2:=by
 refine z2n (by simp [z0b,encB]) (fun l _ h=>by rw [z0c h];simp [encB]) (fun l hl h ih=>?_);rw [y57 hl h];dsimp only;rw [z8q,ih,encode_decode l hl h,List.take_add]
theorem x8z (r:Int) (h:validRune r=true):(0≤r∧r<55296)∨(57343<r∧r≤1114111):=Qa6 h
theorem x80 (x:Int) (h0:0≤x) (h1:x<256):(x.toNat.toUInt8.toNat:Int)=x:=by
 obtain ⟨n,rfl⟩:=Int.eq_ofNat_of_zero_le h0;simp;omega
theorem y85 (x:Int) (h0:0≤x) (h1:x<256):x.toNat.toUInt8.toNat=x.toNat:=by have:=x80 x h0 h1;omega
theorem z3e (r:Int):1≤(encodeRune r).length∧(encodeRune r).length≤4:=by
 have:=encodeRuneZ_length r;simpa [encodeRune] using this
theorem y5w (r:Int) (h:validRune r=true) (t:List UInt8):decodeL (encodeRune r++t)=(r.toNat,(encodeRune r).length):=by
 have hr:=x8z r h;obtain ⟨n,rfl⟩:=Int.eq_ofNat_of_zero_le (a:=r) (by omega);rw [decodeL_N];unfold encodeRune;by_cases h1:(n:Int)≤127
 ·rw [encodeRuneZ_one (by omega) h1];have e0:=y85 (n:Int) (by omega) (by omega);simp only [List.map_cons,List.map_nil,List.cons_append,List.nil_append,List.getD_cons_zero,e0,decodeN];rw [if_pos (by omega)];rfl
 by_cases h2:(n:Int)≤2047
 ·rw [encodeRuneZ_two (by omega) h2];have e0:=y85 (192+(n:Int) / 64) (by omega) (by omega);have e1:=y85 (128+(n:Int) % 64) (by omega) (by omega);simp only [List.map_cons,List.map_nil,List.cons_append,List.nil_append,List.getD_cons_zero,List.getD_cons_succ,e0,e1,List.length_cons,decodeN];rw [if_neg (by omega),if_pos ⟨by omega,by omega,by omega⟩,if_pos (by omega)];refine Prod.ext ?_ rfl;dsimp only;omega
 by_cases h3:(n:Int)≤65535
 ·rw [encodeRuneZ_three (by omega)];have e0:=y85 (224+(n:Int) / 4096) (by omega) (by omega);have e1:=y85 (128+(n:Int) / 64 % 64) (by omega) (by omega);have e2:=y85 (128+(n:Int) % 64) (by omega) (by omega);simp only [List.map_cons,List.map_nil,List.cons_append,List.nil_append,List.getD_cons_zero,List.getD_cons_succ,e0,e1,e2,List.length_cons,decodeN];rw [if_neg (by omega),if_neg (by omega),if_pos ⟨by omega,⟨by omega,by omega⟩,by omega,by omega⟩,if_pos ⟨by omega,by omega⟩];refine Prod.ext ?_ rfl;dsimp only;omega
 ·rw [encodeRuneZ_four (by omega) (by omega)];have e0:=y85 (240+(n:Int) / 262144) (by omega) (by omega);have e1:=y85 (128+(n:Int) / 4096 % 64) (by omega) (by omega);have e2:=y85 (128+(n:Int) / 64 % 64) (by omega) (by omega);have e3:=y85 (128+(n:Int) % 64) (by omega) (by omega);simp only [List.map_cons,List.map_nil,List.cons_append,List.nil_append,List.getD_cons_zero,List.getD_cons_succ,e0,e1,e2,e3,List.length_cons,decodeN];rw [if_neg (by omega),if_neg (by omega),if_neg (by omega),if_pos ⟨by omega,⟨by omega,by omega⟩,⟨by omega,by omega⟩,by omega,by omega⟩,if_pos ⟨by omega,by omega⟩];refine Prod.ext ?_ rfl;dsimp only;omega
theorem y86 (r:Int) (h:validRune r=true) (t:List UInt8): ¬Bad (encodeRune r++t):=by
 unfold Bad;rw [y5w r h t];rintro ⟨h1,h2⟩;dsimp only at h1 h2;have hr:=x8z r h
 obtain rfl:r=65533:=by omega
 revert h2
 decide
theorem z8r (zs:List Int) (h: ∀z∈zs,validRune z=true) (t:List UInt8):decF (encB zs++t)=(zs++(decF t).1,(encB zs).length+(decF t).2):=by
 induction zs with
 |nil=>simp [encB]
 |cons z zs ih=>
  have hz:=h z (by simp);have hlen:=z3e z;rw [z8q,Qat]
  have hne:encodeRune z++(encB zs++t)≠[]:=by
   intro e;have:=congrArg List.length e;rw [Qae,List.length_nil] at this;omega
  rw [y57 hne (y86 z hz _),y5w z hz];dsimp only;rw [List.drop_left,ih (fun y hy=>h y (by simp [hy]))]
  have e:((z.toNat:Nat):Int)=z:=by have:=x8z z hz;omega
  simp only [e,List.cons_append,Qae,Nat.add_assoc]
def putL (c:Int):List Int:=if validRune c=true then encodeRuneZ c else []
def y7i (n:Nat):Int:=[0,128,32,16,8].getD n 0
def ints (l:List UInt8):List Int:=l.map fun b=>(b.toNat:Int)
def numL (g:List Int):Int:=(g.drop 1).foldl (fun n b=>n*64+b % 64) (g.headD 0 % y7i g.length)
def Hit (l:List UInt8) (k:Nat):Prop:=putL (numL (ints (l.take k)))=ints (l.take k)
theorem y9g (r:Int):ints (encodeRune r)=encodeRuneZ r:=by
 unfold ints encodeRune;rw [List.map_map]
 have h: ∀x∈encodeRuneZ r,((fun b:UInt8=>(b.toNat:Int))∘fun x:Int=>x.toNat.toUInt8) x=id x:=fun x hx=>by
  have:=encodeRuneZ_byte r x hx;exact x80 x this.1 this.2
 rw [List.map_congr_left h,List.map_id]
theorem x3k {a b:List UInt8} (h:ints a=ints b):a=b:=by
 unfold ints at h;exact (List.map_inj_right (f:=fun b:UInt8=>(b.toNat:Int)) (fun x y e=>Qb1.1 (by have e':(x.toNat:Int)=(y.toNat:Int):=e;omega))).1 h
theorem x1c (r:Int) (h:validRune r=true):numL (encodeRuneZ r)=r:=by
 have hr:=x8z r h;by_cases h1:r≤127
 ·rw [encodeRuneZ_one (by omega) h1];simp [numL,y7i];omega
 by_cases h2:r≤2047
 ·rw [encodeRuneZ_two (by omega) h2];simp [numL,y7i];omega
 by_cases h3:r≤65535
 ·rw [encodeRuneZ_three (by omega)];simp [numL,y7i];omega
 ·rw [encodeRuneZ_four (by omega) (by omega)];simp [numL,y7i];omega
theorem q34 {l:List UInt8} {k:Nat} (hk:1≤k) (hl:k≤l.length) (h:Hit l k):l≠[]∧ ¬Bad l∧decodeL l=((numL (ints (l.take k))).toNat,k)∧validRune (numL (ints (l.take k)))=true:=by
 unfold Hit at h;generalize hr:numL (ints (l.take k))=r at h ⊢
 have hlen:(l.take k).length=k:=by rw [Qau];omega
 have hv:validRune r=true:=by
  cases hv:validRune r with
  |true=>rfl
  |false=>
   unfold putL at h;rw [hv] at h;have:=congrArg List.length h;simp [ints] at this;omega
 have e:encodeRune r=l.take k:=x3k (by rw [y9g,←h];unfold putL;rw [if_pos hv])
 have el:l=encodeRune r++l.drop k:=by rw [e,List.take_append_drop]
 refine ⟨by rintro rfl;simp at hl;omega,?_,?_,hv⟩
 ·rw [el];exact y86 r hv _
 ·rw [el,y5w r hv,e,hlen]
theorem q35 {l:List UInt8} (hl:l≠[]) (h: ¬Bad l):Hit l (decodeL l).2∧(decodeL l).2≤4∧(decodeL l).2≤l.length:=by
 have e:=encode_decode l hl h;have hv:=z0d l;refine ⟨?_,?_,decodeL_le l hl⟩
 ·unfold Hit;rw [←e,y9g,x1c _ hv];unfold putL;rw [if_pos hv]
 ·have:=(z3e ((decodeL l).1:Int)).2;rw [e,Qau] at this;have:=decodeL_le l hl;omega
def oneL (l:List UInt8):Int×Nat:=if l=[]∨Bad l then (0,0) else (((decodeL l).1:Int),(decodeL l).2)
theorem q36 {l:List UInt8} {k:Nat} (hk:1≤k) (hl:k≤l.length) (h:Hit l k):oneL l=(numL (ints (l.take k)),k):=by
 obtain ⟨h1,h2,h3,h4⟩:=q34 hk hl h;unfold oneL;rw [if_neg (by rintro (x|x);exact h1 x;exact h2 x),h3];have:=x8z _ h4;refine Prod.ext ?_ rfl;dsimp only;omega
theorem z8s {l:List UInt8} (h: ∀k,1≤k→k≤4→k≤l.length→ ¬Hit l k):oneL l=(0,0):=by
 unfold oneL;by_cases hl:l=[]
 ·rw [if_pos (.inl hl)]
 by_cases hb:Bad l
 ·rw [if_pos (.inr hb)]
 ·obtain ⟨h1,h2,h3⟩:=q35 hl hb;exact absurd h1 (h _ (decodeL_width l) h2 h3)
end Go.Proofs.YtbpgkkoeehopjaaGreat.utf
namespace Go.Proofs.YtbpgkkoeehopjaaGreat.dec
open Go.RowKit words enc utf
theorem z60 {w:World} {B B' e size n:Nat} {v:Value} {xs:List Value} (h:w.ownsRow B e size v n xs) (hB:B'≤B):w.ownsRow B' e size v n xs:=by
 refine ⟨h.1,?_⟩;rcases h.2 with h2|⟨g,cap,cur,hv,hg,r⟩
 ·exact .inl h2
 ·exact .inr ⟨g,cap,cur,hv,by omega,r⟩
theorem y22 {w w':World} {B e size n:Nat} {v:Value} {xs:List Value} (h:w.ownsRow B e size v n xs) (hb:Below w.heap.size w w'):w'.ownsRow B e size v n xs:=
 h.kept (row:=none) ⟨hb.os,hb.tape,hb.output,hb.size,fun i hi _=>hb.block i hi⟩ (by cases v.ownBlock<;>simp)
def At (l:List UInt8) (pos:Nat) (acc:List Int):Prop:=pos≤l.length∧decF l=(acc++(decF (l.drop pos)).1,pos+(decF (l.drop pos)).2)∧acc.length≤pos
theorem q37 (l:List UInt8):At l 0 []:=⟨by omega,by simp,by simp⟩
theorem at_bad {l:List UInt8} {pos:Nat} {acc:List Int} (h:At l pos acc) (hb:Bad (l.drop pos)):decF l=(acc,pos):=by
 rw [h.2.1,z0c hb];simp
theorem at_end {l:List UInt8} {pos:Nat} {acc:List Int} (h:At l pos acc) (hp: ¬pos<l.length):decF l=(acc,l.length):=by
 have e:pos=l.length:=by have:=h.1;omega
 rw [h.2.1,e,List.drop_length];simp [z0b]
theorem q74 {l:List UInt8} {pos:Nat} {acc:List Int} (h:At l pos acc) (hp:pos<l.length) (hb: ¬Bad (l.drop pos)):
  At l (pos+(Lib.decodeL (l.drop pos)).2) (acc++[((Lib.decodeL (l.drop pos)).1:Int)]):=by
 have hne:l.drop pos≠[]:=by intro e;have:=congrArg List.length e;rw [Qav,List.length_nil] at this;omega
 have hle:=Lib.decodeL_le (l.drop pos) hne;have hw:=Lib.decodeL_width (l.drop pos);rw [Qav] at hle;refine ⟨by omega,?_,by rw [Qae,Qbj];have:=h.2.2;omega⟩;rw [h.2.1,y57 hne hb,List.drop_drop];simp only [Qat,List.singleton_append,Nat.add_assoc]
def x81 (l:List UInt8) (w:World) (e:Ending) (w':World):Prop:=
 ∃v,e= .returned (.tuple #[v,.int .i64 (decF l).2])∧w'.ownsRow w.heap.size 21 1 v (decF l).1.length ((decF l).1.map (Value.int .i32))∧Below w.heap.size w w'
theorem rd_one (w:World) (B:Nat) (z:Int) (hB:w.heap.size<B):Rd (w.alloc (.cells #[.int .i32 z] 21)) B (some ⟨w.heap.size,0,none⟩) ([z].map (Value.int .i32)):=
 y3f w ([z].map (Value.int .i32)) 21 hB
end Go.Proofs.YtbpgkkoeehopjaaGreat.dec
namespace Go.Proofs.YtbpgkkoeehopjaaGreat.ref
open Go.RowKit words enc utf dec
theorem x82 (l:List UInt8):(Lib.byteCells l).length=l.length:=by simp [Lib.byteCells]
theorem z61 {w:World} {B:Nat} {A:Option Addr} {l:List UInt8} {k:Nat} (h:Rd w B A (Lib.byteCells l)) (hk:k<l.length):
  ∃ad b,A=some ad∧l[k]?=some b∧ad.block<B∧w.cell? (ad.add k)=some (.int .u8 (b.toNat:Int)):=by
 obtain ⟨ad,e,hb,hc⟩:=h.at (k:=k) (by rw [x82];exact hk);exact ⟨ad,l[k],e,Qad hk,hb,by rw [hc];simp [Lib.byteCells]⟩
def x83 (l l':List UInt8):Bool:=decide (l=l')
theorem x3l {a b:Bool} (h:a=b):Ending.returned (.bool a)= .returned (.bool b):=by rw [h]
theorem y3m {α:Type} {l:List α} {k:Nat} {x:α} (h:l[k]?=some x):l.take (k+1)=l.take k++[x]:=by
 obtain ⟨hk,rfl⟩:=Qac.1 h;exact Qbk hk
theorem q38 (A A':Option Addr) (n c c' B B':Nat) (l l':List UInt8) (w:World) (hr:Rd w B A (Lib.byteCells l)) (hr':Rd w B' A' (Lib.byteCells l')) (hl:l.length=n) (hl':l'.length=n) (hn:n≤maxLen):
  Calls Tryz.prog 188 #[.slice A n c,.slice A' n c'] w fun e w'=>e= .returned (.bool (x83 l l'))∧ ∃k,w'=w.drewN k:=by
 unfold maxLen at hn;have HL:=hide hl;have HL':=hide hl';clear hl hl';go_enter Tryz.func188,Tryz.ntmps188
 go_wp2
 go_loopw [5] (fun i wr=>∃k:Nat,k≤n∧i= .int .i64 k∧Hid (l.take k=l'.take k)∧ ∃m,wr=w.drewN m) (fun i _=>n - (intOf i).toNat)
 case atStart=>exact ⟨0,Qak _,rfl,rfl,0,rfl⟩
 case round=>
  obtain ⟨k,hk,rfl,heq,m,rfl⟩:=hrel;by_cases hlt:k<n
  ·obtain ⟨ad,z,rfl,hz,had,hc⟩:=z61 hr (k:=k) (by rw [HL.out];exact hlt);obtain ⟨ad',z',rfl,hz',had',hc'⟩:=z61 hr' (k:=k) (by rw [HL'.out];exact hlt);have HZ:=hide hz;have HZ':=hide hz';clear hz hz'
   have hkI:(k:Int)<(n:Int):=by omega
   by_cases hzz:z=z'
   ·subst hzz
    go_wp2_with fail
    go_quiet (fail)
    go_wp2_with fail
    go_roundw
    case rel=>exact ⟨k+1,by omega,by go_num,(by show l.take (k+1)=l'.take (k+1);rw [y3m HZ.out,y3m HZ'.out,heq.out]),_,rfl⟩
    case measure=>simp [intOf];omega
   ·have hne:((z.toNat:Int)==(z'.toNat:Int))=false:=by
     rw [Qa3];intro e;exact hzz (Qb1.1 (by omega))
    have hne':((z.toNat:Int) !=(z'.toNat:Int))=true:=by rw [bne,hne];rfl
    have hf:x83 l l'=false:=Qa4 (fun e=>hzz (by subst e;have h1:=HZ.out;rw [HZ'.out] at h1;exact (Option.some.inj h1).symm));have HF:=hide hf;clear hf hzz
    go_wp2_with fail
    go_quiet (fail)
    go_wp2_with fail
    go_ret;exact ⟨x3l HF.out.symm,_,World.drewN_drewN _ _ _⟩
  ·have ht:x83 l l'=true:=Qa5 (by
    have:=heq.out;rw [Qaj (by rw [HL.out];omega),Qaj (by rw [HL'.out];omega)] at this
    exact this)
   have HT:=hide ht;clear ht
   go_wp2
   go_ret;exact ⟨x3l HT.out.symm,_,rfl⟩
def z1a (g:List Int) (k:Nat):Int:=((g.take k).drop 1).foldl (fun n b=>n*64+b % 64) (g.headD 0 % y7i g.length)
theorem x84 (g:List Int):z1a g g.length=numL g:=by unfold z1a numL;rw [List.take_length]
theorem z5i {g:List Int} {k:Nat} {b:Int} (hk:1≤k) (h:g[k]?=some b):z1a g (k+1)=z1a g k*64+b % 64:=by
 unfold z1a;rw [y3m h,List.drop_append_of_le_length (by rw [Qau];have:=(Qac.1 h).1;omega),List.foldl_append];rfl
theorem z8t {g:List Int} (h:g≠[]):z1a g 1=g.headD 0 % y7i g.length:=by
 cases g with
 |nil=>exact absurd rfl h
 |cons x r=>rfl
theorem x85 (n:Nat) (h1:1≤n) (h4:n≤4):8≤y7i n∧y7i n≤128:=by
 have:n=1∨n=2∨n=3∨n=4:=by omega
 rcases this with rfl|rfl|rfl|rfl<;>decide
theorem x3m (g:List Int) (h1:1≤g.length) (h4:g.length≤4): ∀k,1≤k→k≤g.length→0≤z1a g k∧z1a g k<128*64 ^ (k - 1)
 |0,h,_=>by omega
 |1,_,_=>by
  rw [z8t (by rintro rfl;simp at h1)];have hf:=x85 g.length h1 h4;have a:=Int.emod_nonneg (g.headD 0) (b:=y7i g.length) (by omega);have b:=Int.emod_lt_of_pos (g.headD 0) (b:=y7i g.length) (by omega);simp only [Nat.sub_self,Int.pow_zero];omega
 |k+2,_,hk=>by
  have ih:=x3m g h1 h4 (k+1) (by omega) (by omega);have hg:g[k+1]?=some g[k+1]:=Qad (by omega);rw [z5i (by omega) hg]
  have e:(128:Int)*64 ^ (k+2 - 1)=128*64 ^ (k+1 - 1)*64:=by
   rw [show k+2 - 1=k+1 from by omega,show k+1 - 1=k from by omega,Int.pow_succ];omega
  rw [e];omega
theorem x5x (g:List Int) (h1:1≤g.length) (h4:g.length≤4) (k:Nat) (hk1:1≤k) (hk:k≤g.length):0≤z1a g k∧z1a g k≤33554432:=by
 have h:=x3m g h1 h4 k hk1 hk
 have:k=1∨k=2∨k=3∨k=4:=by omega
 rcases this with rfl|rfl|rfl|rfl<;>simp at h<;>omega
theorem x86 {l:List UInt8} {k:Nat} {b:UInt8} (h:l[k]?=some b):(ints l)[k]?=some (b.toNat:Int):=by
 unfold ints;rw [Qbz,h];rfl
theorem y6s (l:List UInt8):(ints l).length=l.length:=by simp [ints]
theorem q75 {a b:Int} (h:a=b):Ending.returned (.int .i32 a)= .returned (.int .i32 b):=by rw [h]
theorem x5y (A:Option Addr) (n c B:Nat) (l:List UInt8) (w:World) (hr:Rd w B A (Lib.byteCells l)) (hl:l.length=n) (h1:1≤n) (h4:n≤4):
  Calls Tryz.prog 186 #[.slice A n c] w fun e w'=>e= .returned (.int .i32 (numL (ints l)))∧Below w.heap.size w w':=by
 have HL:=hide hl
 have hB:n=1∨n=2∨n=3∨n=4:=by omega
 clear hl;obtain ⟨ad,z,rfl,hz,had,hc⟩:=z61 hr (k:=0) (by rw [HL.out];omega);have HZ:=hide hz;clear hz
 have hc0:w.cell? ad=some (.int .u8 (z.toNat:Int)):=by rw [show ad.add 0=ad by unfold Addr.add;simp] at hc;exact hc
 have hzb:(z.toNat:Int)≤255:=by have:=z.toNat_lt;omega
 have hc1: ∀o,(w.alloc o).cell? ad=some (.int .u8 (z.toNat:Int)):=fun o=>(World.cell?_alloc_lt w o ad (World.block_lt_of_cell? w ad hc0)).trans hc0
 have hst:z1a (ints l) 1=(z.toNat:Int) % y7i l.length:=by
  have h0:=x86 HZ.out;rw [z8t (by rintro e;rw [e] at h0;simp at h0),y6s]
  congr 1
  cases hh:ints l with
  |nil=>rw [hh] at h0;simp at h0
  |cons x r=>rw [hh] at h0;simpa using h0
 rw [HL.out] at hst;have HST:=hide hst;clear hst;have HG:=hide (x5x (ints l) (by rw [y6s,HL.out];exact h1) (by rw [y6s,HL.out];exact h4));rcases hB with rfl|rfl|rfl|rfl
 all_goals
  go_enter Tryz.func186,Tryz.ntmps186
  go_wp2_with fail
  go_quiet (fail)
  go_wp2_with fail
  go_loop [4,5] (fun t i=>∃k:Nat,1≤k∧k≤l.length∧i= .int .i64 k∧t= .int .i64 (z1a (ints l) k)) (fun _ i=>4 - (intOf i).toNat)
  case atStart=>exact ⟨1,by omega,by rw [HL.out];omega,rfl,by rw [HST.out];rfl⟩
  case round=>
   obtain ⟨k,hk1,hk,rfl,rfl⟩:=hrel;obtain ⟨g1,g2⟩:=HG.out k hk1 (by rw [y6s];exact hk);by_cases hlt:k<l.length
   ·obtain ⟨ad',z',ea,hz',had',hc'⟩:=z61 hr (k:=k) hlt;injection ea with ea;subst ea;have hck: ∀o,(w.alloc o).cell? (ad.add k)=some (.int .u8 (z'.toNat:Int)):=fun o=>(World.cell?_alloc_lt w o _ (World.block_lt_of_cell? w _ hc')).trans hc'
    have hzb':(z'.toNat:Int)≤255:=by have:=z'.toNat_lt;omega
    have HZ':=hide hz';have hlt':=hlt;rw [HL.out] at hlt' hk;clear hz' hlt hc'
    first
     |(exfalso;omega)
     |(go_wp2_with fail
       go_round
       case rel=>exact ⟨k+1,by omega,by rw [HL.out];omega,by go_num,by rw [z5i hk1 (x86 HZ'.out)]⟩
       case measure=>simp [intOf];omega)
   ·have hfin:z1a (ints l) k=numL (ints l):=by rw [←x84,y6s];congr 1;omega
    have HF:=hide hfin;have hge:=hlt;rw [HL.out] at hge hk;clear hfin hlt
    go_wp2_with fail
    go_ret;exact ⟨q75 HF.out,below_drewN ((Below.refl _ _).alloc (Qab _) _) _⟩
end Go.Proofs.YtbpgkkoeehopjaaGreat.ref
namespace Go.Proofs.YtbpgkkoeehopjaaGreat.ln
def ch (zs:List Int) (i:Nat):Int:=zs.getD i 0
theorem q39 {zs:List Int} {i:Nat} {z:Int} (h:zs[i]?=some z):ch zs i=z:=by
 unfold ch;rw [List.getD_eq_getElem?_getD,h];rfl
def y2v (zs:List Int) (i:Nat):Bool:=decide (ch zs i=10∨(ch zs i=13∧ ¬(i+1<zs.length∧ch zs (i+1)=10)))
theorem q4a {zs:List Int} {i:Nat} (h:ch zs i=10):y2v zs i=true:=Qa5 (.inl h)
theorem x3n {zs:List Int} {i:Nat} (h:ch zs i=13) (h': ¬(i+1<zs.length∧ch zs (i+1)=10)):y2v zs i=true:=Qa5 (.inr ⟨h,h'⟩)
theorem x5z {zs:List Int} {i:Nat} (h:ch zs i=13) (h1:i+1<zs.length) (h2:ch zs (i+1)=10):y2v zs i=false:=Qa4 (by omega)
theorem x1d {zs:List Int} {i:Nat} (h:ch zs i≠10) (h':ch zs i≠13):y2v zs i=false:=Qa4 (by omega)
theorem of_end {zs:List Int} {i:Nat} (h:y2v zs i=true):ch zs i=10∨(ch zs i=13∧ ¬(i+1<zs.length∧ch zs (i+1)=10)):=Qa6 h
theorem z5j {zs:List Int} {i:Nat} (h:y2v zs i=false):ch zs i≠10∧(ch zs i=13→i+1<zs.length∧ch zs (i+1)=10):=by
 have:=of_decide_eq_false h;exact ⟨fun e=>this (.inl e),fun e=>Classical.not_not.1 fun hh=>this (.inr ⟨e,hh⟩)⟩
def st (zs:List Int):Nat→Nat
 |0=>0
 |k+1=>if y2v zs k=true then k+1 else st zs k
def y0f (zs:List Int):Nat→List Nat
 |0=>[0]
 |k+1=>if y2v zs k=true then y0f zs k++[k+1] else y0f zs k
def cut (zs:List Int) (a b:Nat):List Int:=(zs.take b).drop a
def y7t (zs:List Int) (a b:Nat):Nat:=if ch zs (b - 1)=10∧a<b - 1∧ch zs (b - 2)=13 then b - 2 else b - 1
def done (zs:List Int):Nat→List (List Int)
 |0=>[]
 |k+1=>if y2v zs k=true then done zs k++[cut zs (st zs k) (y7t zs (st zs k) (k+1))] else done zs k
def cur (zs:List Int) (k:Nat):List Int:=if st zs k<k∧ch zs (k - 1)=13 then cut zs (st zs k) (k - 1) else cut zs (st zs k) k
def y1t (zs:List Int):List (List Int):=done zs zs.length++[cut zs (st zs zs.length) zs.length]
theorem x3o {zs:List Int} {k:Nat} (h:y2v zs k=true):st zs (k+1)=k+1:=by simp [st,h]
theorem x1e {zs:List Int} {k:Nat} (h:y2v zs k=false):st zs (k+1)=st zs k:=by simp [st,h]
theorem st_le (zs:List Int): ∀k,st zs k≤k
 |0=>Qab _
 |k+1=>by
  have:=st_le zs k;unfold st
  split<;>omega
theorem x87 (zs:List Int): ∀k i,st zs k≤i→i<k→y2v zs i=false
 |0,i,_,h=>by omega
 |k+1,i,h1,h2=>by
  cases he:y2v zs k with
  |true=>rw [x3o he] at h1;omega
  |false=>
   rw [x1e he] at h1;by_cases hi:i=k
   ·subst hi;exact he
   ·exact x87 zs k i h1 (by omega)
theorem x88 (zs:List Int) (a:Nat):cut zs a a=[]:=by
 unfold cut;rw [List.drop_eq_nil_iff,Qau];omega
theorem y34 {zs:List Int} {a b:Nat} (hb:b≤zs.length):(cut zs a b).length=b - a:=by
 unfold cut;rw [Qav,Qau];omega
theorem q76 {zs:List Int} {k i:Nat} (h1:st zs k≤i) (h2:i<k) (h3:ch zs i=13):i+1=k∧k<zs.length∧ch zs k=10:=by
 obtain ⟨_,hf⟩:=z5j (x87 zs k i h1 h2);obtain ⟨ha,hb⟩:=hf h3;by_cases hk:i+1<k
 ·have:=x87 zs k (i+1) (by omega) hk;exact absurd hb (z5j this).1
 ·have:i+1=k:=by omega
  subst this;exact ⟨rfl,ha,hb⟩
theorem x89 {zs:List Int} {k:Nat} (h: ¬(k<zs.length∧ch zs k=10)):cur zs k=cut zs (st zs k) k:=by
 unfold cur;rw [if_neg];rintro ⟨h1,h2⟩;have:=q76 (zs:=zs) (k:=k) (i:=k - 1) (by omega) (by omega) h2;exact h ⟨this.2.1,this.2.2⟩
theorem q4b {zs:List Int} {k:Nat} (he:y2v zs k=true):done zs (k+1)=done zs k++[cur zs k]∧cur zs (k+1)=[]:=by
 constructor
 ·show (if y2v zs k=true then done zs k++[cut zs (st zs k) (y7t zs (st zs k) (k+1))] else done zs k)=_
  rw [if_pos he]
  congr 2
  rcases of_end he with h|⟨h,h'⟩
  ·unfold y7t cur;simp only [Nat.add_sub_cancel]
   have e:k+1 - 2=k - 1:=by omega
   rw [e];by_cases hc:st zs k<k∧ch zs (k - 1)=13
   ·rw [if_pos ⟨h,hc.1,hc.2⟩,if_pos hc]
   ·rw [if_neg (fun hh=>hc ⟨hh.2.1,hh.2.2⟩),if_neg hc]
  ·rw [x89 (by omega)];unfold y7t;simp only [Nat.add_sub_cancel];rw [if_neg (by omega)]
 ·unfold cur;rw [x3o he,if_neg (by omega),x88]
theorem y1s {zs:List Int} {k:Nat} (h:y2v zs k=true):y0f zs (k+1)=y0f zs k++[k+1]:=by simp [y0f,h]
theorem y1j {zs:List Int} {k:Nat} (h:y2v zs k=false):y0f zs (k+1)=y0f zs k:=by simp [y0f,h]
theorem y8d (zs:List Int): ∀k,1≤(y0f zs k).length
 |0=>by simp [y0f]
 |k+1=>by
  have:=y8d zs k
  cases he:y2v zs k with
  |true=>rw [y1s he];simp
  |false=>rw [y1j he];exact this
theorem y8e (zs:List Int): ∀k,(y0f zs k).length≤k+1
 |0=>by simp [y0f]
 |k+1=>by
  have:=y8e zs k
  cases he:y2v zs k with
  |true=>rw [y1s he];simp;omega
  |false=>rw [y1j he];omega
theorem y6t (zs:List Int): ∀k,(y0f zs k)[(y0f zs k).length - 1]?=some (st zs k)
 |0=>by simp [y0f,st]
 |k+1=>by
  cases he:y2v zs k with
  |true=>rw [y1s he,x3o he];simp
  |false=>rw [y1j he,x1e he];exact y6t zs k
theorem y2h (zs:List Int): ∀(k j s:Nat),(y0f zs k)[j]?=some s→s≤k
 |0,j,s,h=>by
  have:s∈[0]:=Qaf h;simp at this;omega
 |k+1,j,s,h=>by
  cases he:y2v zs k with
  |true=>
   rw [y1s he,List.getElem?_append] at h;split at h
   ·have:=y2h zs k j s h;omega
   ·have:s∈[k+1]:=Qaf h;simp at this;omega
  |false=>
   rw [y1j he] at h;have:=y2h zs k j s h;omega
theorem y6u (zs:List Int): ∀(k j a b:Nat),(y0f zs k)[j]?=some a→(y0f zs k)[j+1]?=some b→a<b
 |0,j,a,b,_,h=>by simp [y0f] at h
 |k+1,j,a,b,h1,h2=>by
  cases he:y2v zs k with
  |true=>
   rw [y1s he] at h1 h2;rw [List.getElem?_append] at h1 h2;by_cases hj:j+1<(y0f zs k).length
   ·rw [if_pos hj] at h2;rw [if_pos (by omega)] at h1;exact y6u zs k j a b h1 h2
   ·rw [if_neg hj] at h2;have hb:b∈[k+1]:=Qaf h2;simp at hb
    have hj2:j+1 - (y0f zs k).length<1:=by
     have:=(Qac.1 h2).1;simpa using this
    rw [if_pos (by omega)] at h1;have:=y2h zs k j a h1;omega
  |false=>
   rw [y1j he] at h1 h2;exact y6u zs k j a b h1 h2
theorem z0e (zs:List Int): ∀k,(done zs k).length+1=(y0f zs k).length
 |0=>by simp [done,y0f]
 |k+1=>by
  have:=z0e zs k
  cases he:y2v zs k with
  |true=>rw [y1s he,(q4b he).1];simp;omega
  |false=>
   rw [y1j he,show done zs (k+1)=done zs k by simp [done,he]];exact this
theorem x1f (zs:List Int): ∀(k j a b:Nat),(y0f zs k)[j]?=some a→(y0f zs k)[j+1]?=some b→(done zs k)[j]?=some (cut zs a (y7t zs a b))
 |0,j,a,b,_,h=>by simp [y0f] at h
 |k+1,j,a,b,h1,h2=>by
  have hl:=z0e zs k
  cases he:y2v zs k with
  |true=>
   have hd:done zs (k+1)=done zs k++[cut zs (st zs k) (y7t zs (st zs k) (k+1))]:=by
    show (if y2v zs k=true then _ else _)=_
    rw [if_pos he]
   rw [y1s he] at h1 h2;rw [hd];rw [List.getElem?_append] at h1 h2;by_cases hj:j+1<(y0f zs k).length
   ·rw [if_pos hj] at h2;rw [if_pos (by omega)] at h1;rw [List.getElem?_append,if_pos (by omega)];exact x1f zs k j a b h1 h2
   ·rw [if_neg hj] at h2
    have hj2:j+1 - (y0f zs k).length<1:=by
     have:=(Qac.1 h2).1;simpa using this
    have hb:b∈[k+1]:=Qaf h2;simp at hb;subst hb;rw [if_pos (by omega)] at h1;have hlast:=y6t zs k
    have e:(y0f zs k).length - 1=j:=by omega
    rw [e,h1] at hlast;injection hlast with ea;subst ea;rw [List.getElem?_append,if_neg (by omega)]
    have e2:j - (done zs k).length=0:=by omega
    rw [e2];rfl
  |false=>
   rw [y1j he] at h1 h2;rw [show done zs (k+1)=done zs k by simp [done,he]];exact x1f zs k j a b h1 h2
theorem q4c {zs:List Int} {j a b:Nat} (h1:(y0f zs zs.length)[j]?=some a) (h2:(y0f zs zs.length)[j+1]?=some b):(y1t zs)[j]?=some (cut zs a (y7t zs a b)):=by
 have hl:=z0e zs zs.length;have:=(Qac.1 h2).1;unfold y1t;rw [List.getElem?_append,if_pos (by omega)];exact x1f zs zs.length j a b h1 h2
theorem q4d {zs:List Int} {j a:Nat} (h1:(y0f zs zs.length)[j]?=some a) (h2: ¬j+1<(y0f zs zs.length).length):(y1t zs)[j]?=some (cut zs a zs.length):=by
 have hl:=z0e zs zs.length;have hj:=(Qac.1 h1).1;have hlast:=y6t zs zs.length
 have e:(y0f zs zs.length).length - 1=j:=by omega
 rw [e,h1] at hlast;injection hlast with ea;subst ea;unfold y1t;rw [List.getElem?_append,if_neg (by omega)]
 have e2:j - (done zs zs.length).length=0:=by omega
 rw [e2];rfl
theorem lines_len (zs:List Int):(y1t zs).length=(y0f zs zs.length).length:=by
 have:=z0e zs zs.length;unfold y1t;rw [Qae,Qbj];omega
end Go.Proofs.YtbpgkkoeehopjaaGreat.ln
namespace Go.Proofs.YtbpgkkoeehopjaaGreat.lines
open Go.RowKit words enc dec ref ln
structure RowsOwn (w:World) (B:Nat) (cs:List Value) (L:List (List Int)):Prop where
 len:cs.length=L.length
 rows: ∀(j:Nat) (l:List Int),L[j]?=some l→ ∃v,cs[j]?=some v∧w.ownsRow B 21 1 v l.length (l.map (Value.int .i32))
 apart: ∀(i j:Nat) (u v:Value),cs[i]?=some u→cs[j]?=some v→i≠j→u.ownBlock=none∨u.ownBlock≠v.ownBlock
theorem y3a {w:World} {B:Nat} {cs:List Value} {L:List (List Int)} (h:RowsOwn w B cs L) {v:Value} (hv:v∈cs): ∃l:List Int,w.ownsRow B 21 1 v l.length (l.map (Value.int .i32)):=by
 obtain ⟨j,hj,rfl⟩:=List.getElem_of_mem hv;obtain ⟨u,hu,ho⟩:=h.rows j (L[j]'(by rw [←h.len];exact hj)) (Qad _);rw [Qad hj] at hu;injection hu with hu;subst hu;exact ⟨_,ho⟩
theorem q4e (w:World) (B:Nat):RowsOwn w B [] []:=⟨rfl,fun j l h=>by simp at h,fun i j u v h=>by simp at h⟩
theorem y2b {w w':World} {B:Nat} {cs:List Value} {L:List (List Int)} {row:Option Nat} (h:RowsOwn w B cs L) (hg:w.grownBy w' row) (hne: ∀v∈cs,v.ownBlock=none∨v.ownBlock≠row):RowsOwn w' B cs L:=
 ⟨h.len,fun j l hl=>by
   obtain ⟨v,hv,ho⟩:=h.rows j l hl
   exact ⟨v,hv,ho.kept hg (hne v (Qaf hv))⟩,h.apart⟩
theorem z5e {w w':World} (hb:Below w.heap.size w w') (row:Option Nat):w.grownBy w' row:=⟨hb.os,hb.tape,hb.output,hb.size,fun i hi _=>hb.block i hi⟩
theorem y47 {w w':World} {B:Nat} {cs:List Value} {L:List (List Int)} (h:RowsOwn w B cs L) (hb:Below w.heap.size w w'):RowsOwn w' B cs L:=
 y2b h (z5e hb none) fun v _=>by cases v.ownBlock<;>simp
theorem y58 {w:World} {B:Nat} {cs:List Value} {L:List (List Int)} {v:Value} {l:List Int} (h:RowsOwn w B cs L) (hv:w.ownsRow B 21 1 v l.length (l.map (Value.int .i32)))
  (hap: ∀u∈cs,u.ownBlock=none∨u.ownBlock≠v.ownBlock):RowsOwn w B (cs++[v]) (L++[l]):=by
 have hlen:=h.len;refine ⟨by simp [hlen],fun j x hx=>?_,fun i j a b ha hb hij=>?_⟩
 ·rw [List.getElem?_append] at hx;split at hx
  ·rename_i hj;obtain ⟨u,hu,ho⟩:=h.rows j x hx;exact ⟨u,by rw [List.getElem?_append,if_pos (by omega)];exact hu,ho⟩
  ·rename_i hj;have hx':=Qaf hx;have hj1:=(Qac.1 hx).1;simp at hx' hj1;subst hx';exact ⟨v,by rw [List.getElem?_append,if_neg (by omega),show j - cs.length=0 by omega];rfl,hv⟩
 ·rw [List.getElem?_append] at ha hb;by_cases hi:i<cs.length
  ·rw [if_pos hi] at ha;by_cases hj:j<cs.length
   ·rw [if_pos hj] at hb;exact h.apart i j a b ha hb hij
   ·rw [if_neg hj] at hb;have:=Qaf hb;simp at this;subst this;exact hap a (Qaf ha)
  ·rw [if_neg hi] at ha;have h1:=Qaf ha;have h2:=(Qac.1 ha).1;simp at h1 h2;subst h1;by_cases hj:j<cs.length
   ·rw [if_pos hj] at hb;rcases hap b (Qaf hb) with h3|h3
    ·by_cases h4:a.ownBlock=none
     ·exact .inl h4
     ·exact .inr (by rw [h3];exact h4)
    ·exact .inr (fun e=>h3 e.symm)
   ·rw [if_neg hj] at hb;have h3:=(Qac.1 hb).1;simp at h3;omega
theorem y23 {w:World} {B B' e e' s s' n n':Nat} {v v':Value} {xs xs':List Value} (h:w.ownsRow B e s v n xs) (h':w.ownsRow B' e' s' v' n' xs') (hne:e≠e'):v.ownBlock=none∨v.ownBlock≠v'.ownBlock:=by
 rcases h.2 with ⟨rfl,_⟩|⟨g,cap,cur,rfl,_,hg,_⟩
 ·exact .inl rfl
 ·rcases h'.2 with ⟨rfl,_⟩|⟨g',cap',cur',rfl,_,hg',_⟩
  ·exact .inr (by simp [Value.ownBlock])
  ·refine .inr fun ee=>?_
   have:g=g':=by simpa [Value.ownBlock] using ee
   subst this;rw [hg] at hg';injection hg' with hg';injection hg' with _ ht;exact hne ht
theorem x50:(Tryz.prog.info? 187).map (fun i=>(i.zero,i.size,i.bytes))=some (some (.slice none 0 0),1,24):=by kernel_rfl
theorem y8f (w:World) (B:Nat) (v:Value) (hB:w.heap.size<B):Rd (w.alloc (.cells #[v] 187)) B (some ⟨w.heap.size,0,none⟩) [v]:=
 y3f w [v] 187 hB
def x9a (zs:List Int) (w:World) (e:Ending) (w':World):Prop:=
 ∃v cs,e= .returned v∧w'.ownsRow w.heap.size 187 1 v cs.length cs∧RowsOwn w' w.heap.size cs (y1t zs)∧Below w.heap.size w w'
end Go.Proofs.YtbpgkkoeehopjaaGreat.lines
namespace Go.Proofs.YtbpgkkoeehopjaaGreat.lex
open Go.RowKit words enc tree gram ln
def blkF (s:List Int) (i:Nat):Nat→Nat→Option Nat
 |0,_=>none
 |f+1,j=>match s[j]? with
  |none=>none
  |some c=>if c<0 then some i
   else if c=92∧y1k s (j+1) 34=true then blkF s i f (j+4)
   else if y1k s j 34=true then some (j+3)
   else blkF s i f (j+1)
def escT (s:List Int) (i:Nat):Bool:=decide (s[i]?=some 92∧y1k s (i+1) 34=true)
theorem z8u {s:List Int} {i:Nat} {c:Int} (h:y1k s i c=true):i+2<s.length:=by
 have h:=(Qa6 h).2.2;exact (Qac.1 h).1
theorem z2p {s:List Int} {i:Nat} (h:escT s i=true):i+3<s.length:=by
 have:=z8u (Qa6 h).2;omega
def y9h (s:List Int):Nat→Nat→Int→Int→Bool
 |0,_,_,_=>true
 |g+1,i,q,l=>match s[i]? with
  |none=>(l !=34)&&(l !=92)
  |some z=>if y7r z=false then false
   else if escT s i=true then y9h s g (i+4) 0 0
   else if z=34 then (if q+1=3 then false else y9h s g (i+1) (q+1) z)
   else y9h s g (i+1) 0 z
def z8v (s:List Int):Bool:=y9h s (s.length+1) 0 0 0
def y7u (s:List Int):Nat→Nat→List Int
 |0,_=>[]
 |g+1,i=>match s[i]? with
  |none=>[]
  |some z=>if escT s i=true then 34::34::34::y7u s g (i+4) else z::y7u s g (i+1)
def y81 (s:List Int):List Int:=y7u s (s.length+1) 0
theorem z1b (s:List Int): ∀g i,i≤s.length→(y7u s g i).length+i≤s.length
 |0,i,h=>by simp [y7u];exact h
 |g+1,i,h=>by
  unfold y7u
  cases hz:s[i]? with
  |none=>simpa using h
  |some z=>
   have hi:=(Qac.1 hz).1;dsimp only;split
   ·rename_i he;have h4:=z2p he;have:=z1b s g (i+4) (by omega);simp only [List.length_cons];omega
   ·have:=z1b s g (i+1) (by omega);simp only [List.length_cons];omega
theorem z8w (s:List Int):(y81 s).length≤s.length:=by have:=z1b s (s.length+1) 0 (Qak _);unfold y81;omega
def z8x (c:Int):Bool:=(c==9)||(c==32)
def indF (s:List Int):Nat:=(s.takeWhile z8x).length
theorem z0f {α:Type} (p:α→Bool) (l:List α):(l.takeWhile p).length≤l.length:=by
 induction l with
 |nil=>simp
 |cons a l ih=>rw [List.takeWhile_cons];split<;>simp<;>omega
theorem x1g (s:List Int):indF s≤s.length:=z0f _ _
def y7j (s:List Int):Bool:=decide (indF s=s.length)
def x3p (x:List Int) (l:Int):Int:=if indF x<x.length∧(l<0∨(indF x:Int)<l) then indF x else l
def y7v:List (List Int)→Int→Int
 |[],l=>l
 |x::r,l=>y7v r (x3p x l)
def y5x (ls:List (List Int)):Int:=if y7v (ls.drop 1) (-1)<0 then 0 else y7v (ls.drop 1) (-1)
theorem x51 (ls:List (List Int)):0≤y5x ls:=by unfold y5x;split<;>omega
theorem x9b (x:List Int) (l N:Int) (h:l≤N) (hx:(x.length:Int)≤N):x3p x l≤N:=by have:=x1g x;unfold x3p;split<;>omega
theorem z5k: ∀(ls:List (List Int)) (l N:Int),l≤N→(∀x∈ls,(x.length:Int)≤N)→y7v ls l≤N
 |[],l,N,h,_=>h
 |x::r,l,N,h,hx=>z5k r _ N (x9b x l N h (hx x (by simp))) fun y hy=>hx y (by simp [hy])
theorem x52 (ls:List (List Int)) (N:Nat) (h: ∀x∈ls,x.length≤N):y5x ls≤N:=by
 have:=z5k (ls.drop 1) (-1) N (by omega) (fun x hx=>by have:=h x (List.mem_of_mem_drop hx);omega)
 unfold y5x;split<;>omega
def cutF (n:Nat):List (List Int)→List (List Int)
 |[]=>[]
 |l::r=>l::r.map (·.drop n)
theorem x3q (n:Nat) (ls:List (List Int)):(cutF n ls).length=ls.length:=by cases ls<;>simp [cutF]
theorem x9c (n:Nat) {ls:List (List Int)} {k:Nat} {x:List Int} (h:ls[k]?=some x):(cutF n ls)[k]?=some (if k=0 then x else x.drop n):=by
 cases ls with
 |nil=>simp at h
 |cons l r=>cases k with
  |zero=>simpa [cutF] using h
  |succ k=>simp only [List.getElem?_cons_succ] at h;simp [cutF,h]
def x53 (c:List (List Int)):Nat:=(c.takeWhile y7j).length
def toGo (c:List (List Int)) (f:Nat):Nat→Nat
 |0=>0
 |t+1=>if f<t+1∧(c[t]?.map y7j).getD false=true then toGo c f t else t+1
def y4v (ls:List (List Int)):List (List Int):=
 let c:=cutF (y5x ls).toNat ls
 (c.take (toGo c (x53 c) c.length)).drop (x53 c)
def z3f:List (List Int)→List Int
 |[]=>[]
 |l::r=>l++r.flatMap (10:: ·)
def z3g (s:List Int):Txt×Int:=if z8v s=true then ((encS (z3f (y4v ((y1t s).map y81)))).data.toList,0) else ([],60)
theorem lines_len (zs:List Int): ∀l∈y1t zs,l.length≤zs.length:=by
 have hd: ∀k,k≤zs.length→ ∀l∈done zs k,l.length≤zs.length:=by
  intro k
  induction k with
  |zero=>intro _ l hl;simp [done] at hl
  |succ k ih=>
   intro hk l hl;unfold done at hl;split at hl
   ·rcases Qbf.1 hl with hl|hl
    ·exact ih (by omega) l hl
    ·obtain rfl:=Qax.1 hl;unfold cut;simp only [Qav,Qau];omega
   ·exact ih (by omega) l hl
 intro l hl;rcases Qbf.1 hl with hl|hl
 ·exact hd _ (Qab _) l hl
 ·obtain rfl:=Qax.1 hl;unfold cut;simp only [Qav,Qau];omega
theorem x9d (zs:List Int):(y1t zs).length≤zs.length+1:=by
 have hd: ∀k,(done zs k).length≤k:=by
  intro k
  induction k with
  |zero=>simp [done]
  |succ k ih=>
   unfold done;split
   ·rw [Qae,Qbj];omega
   ·omega
 unfold y1t;rw [Qae,Qbj];have:=hd zs.length;omega
end Go.Proofs.YtbpgkkoeehopjaaGreat.lex
namespace Go.Proofs.YtbpgkkoeehopjaaGreat.lex
open Go.RowKit words enc tree gram
set_option maxRecDepth 100000
set_option maxHeartbeats 4000000 in
theorem x9e (A:Option Addr) (n c B:Nat) (s:List Int) (w:World) (hr:Rd w B A (s.map (Value.int .i32))) (hn:s.length=n) (h63:n≤1099511627776) (f i r:Nat) (hi:i≤n) (h:blkF s i f (i+3)=some r):
  Calls Tryz.prog 203 #[.slice A n c,.int .i64 i] w fun e w'=>e= .returned (.int .i64 r)∧w'=w:=by
 have HN:=hide hn;have HH:=hide h;have hth:=fun w hr j hj=>z3c A n c B s w hr hn h63 j hj 34;clear hn h;go_enter Tryz.func203,Tryz.ntmps203
 go_wp2_with fail
 go_loopg [5] f (fun fu iv wr=>∃k:Nat,iv= .int .i64 k∧Hid (blkF s i fu k=some r)∧wr=w)
 case atStart=>exact ⟨i+3,by go_num,HH.out,rfl⟩
 case round=>
  obtain ⟨k,rfl,hk,rfl⟩:=hrel
  cases gk with
  |zero=>have h0:=hk.out;rw [blkF] at h0;cases h0
  |succ fu=>
   have h0:=hk.out;rw [blkF] at h0
   cases hz:s[k]? with
   |none=>rw [hz] at h0;cases h0
   |some z=>
    rw [hz] at h0;dsimp only at h0;have hkn:=z8o hz HN.out
    have hkI:(k:Int)<(n:Int):=by omega
    obtain ⟨ad,rfl,hc⟩:=y2g hr hz;have hth1:=fun w hr=>hth w hr (k+1) (by omega);have hth0:=fun w hr=>hth w hr k (by omega);rw [show (((k+1:Nat):Int))=(k:Int)+1 by omega] at hth1;clear hth hz hk;by_cases hneg:z<0
    ·rw [if_pos hneg] at h0;injection h0 with h0;subst h0
     have hz0: ¬(0:Int)≤z:=by omega
     go_wp2_with fail
     go_ret;exact ⟨rfl,rfl⟩
    rw [if_neg hneg] at h0
    have hz0:(0:Int)≤z:=by omega
    by_cases h92:z=92
    ·subst h92
     cases h3:y1k s (k+1) 34 with
     |true=>
      rw [h3,if_pos ⟨rfl,rfl⟩] at h0;rw [h3] at hth1;have H1:=hide h0;have hl:=z8u h3;have:=HN.out;clear h0 h3
      go_wp2_with (first|(go_at_call 202;refine (hth1 _ hr).mono ?_;rintro e w' ⟨rfl,rfl⟩))
      go_roundg fu
      case rel=>exact ⟨k+4,by go_num,H1.out,rfl⟩
      case measure=>omega
     |false=>
      rw [if_neg (by rw [h3];simp)] at h0;rw [h3] at hth1
      cases h4:y1k s k 34 with
      |true=>
       rw [h4,if_pos rfl] at h0;rw [h4] at hth0;injection h0 with h0;subst h0;clear h3 h4
       go_wp2_with (first|(go_at_call 202;refine (hth1 _ hr).mono ?_;clear hth1;rintro e w' ⟨rfl,rfl⟩)|(go_at_call 202;refine (hth0 _ hr).mono ?_;rintro e w' ⟨rfl,rfl⟩))
       go_ret;exact ⟨by go_num,rfl⟩
      |false=>
       rw [h4,if_neg (by decide)] at h0;rw [h4] at hth0;have H1:=hide h0;clear h0 h3 h4
       go_wp2_with (first|(go_at_call 202;refine (hth1 _ hr).mono ?_;clear hth1;rintro e w' ⟨rfl,rfl⟩)|(go_at_call 202;refine (hth0 _ hr).mono ?_;rintro e w' ⟨rfl,rfl⟩))
       go_roundg fu
       case rel=>exact ⟨k+1,by go_num,H1.out,rfl⟩
       case measure=>omega
    ·rw [if_neg (fun h=>h92 h.1)] at h0
     have b92:((z:Int)==92)=false:=by rw [Qa3];exact h92
     cases h4:y1k s k 34 with
     |true=>
      rw [h4,if_pos rfl] at h0;rw [h4] at hth0;injection h0 with h0;subst h0;clear h4 h92 hth1
      go_wp2_with (first|(go_at_call 202;refine (hth0 _ hr).mono ?_;rintro e w' ⟨rfl,rfl⟩))
      go_ret;exact ⟨by go_num,rfl⟩
     |false=>
      rw [h4,if_neg (by decide)] at h0;rw [h4] at hth0;have H1:=hide h0;clear h0 h4 h92 hth1
      go_wp2_with (first|(go_at_call 202;refine (hth0 _ hr).mono ?_;rintro e w' ⟨rfl,rfl⟩))
      go_roundg fu
      case rel=>exact ⟨k+1,by go_num,H1.out,rfl⟩
      case measure=>omega
set_option maxHeartbeats 4000000 in
theorem z3h (A:Option Addr) (n c B:Nat) (s:List Int) (w:World) (hr:Rd w B A (s.map (Value.int .i32))) (hn:s.length=n) (h63:n≤1099511627776) (i:Nat) (hi:i≤n):
  Calls Tryz.prog 214 #[.slice A n c,.int .i64 i] w fun e w'=>e= .returned (.bool (escT s i))∧w'=w:=by
 by_cases hlt:i+3<n
 ·have hltI:(i:Int)+3<(n:Int):=by omega
  have hi0:(i:Int)<(n:Int):=by omega
  have hi1:(i:Int)+1<(n:Int):=by omega
  have hi2:(i:Int)+2<(n:Int):=by omega
  obtain ⟨x0,h0⟩: ∃x,s[i]?=some x:=⟨_,Qad (by omega)⟩;obtain ⟨x1,h1⟩: ∃x,s[i+1]?=some x:=⟨_,Qad (by omega)⟩;obtain ⟨x2,h2⟩: ∃x,s[i+2]?=some x:=⟨_,Qad (by omega)⟩;obtain ⟨x3,h3⟩: ∃x,s[i+3]?=some x:=⟨_,Qad (by omega)⟩;obtain ⟨ad,rfl,c0⟩:=y2g hr h0;obtain ⟨ad',e1,c1⟩:=y2g hr h1;injection e1 with e1;subst e1;obtain ⟨ad',e1,c2⟩:=y2g hr h2;injection e1 with e1;subst e1;obtain ⟨ad',e1,c3⟩:=y2g hr h3;injection e1 with e1;subst e1;rw [y3l] at c1 c2 c3
  have hd:escT s i=(decide (x0=92)&&decide (x1=34)&&decide (x2=34)&&decide (x3=34)):=by
   unfold escT y1k;rw [h0,h1,show i+1+1=i+2 by omega,show i+1+2=i+3 by omega,h2,h3];simp [Bool.and_assoc]
  rw [hd];clear hd h0 h1 h2 h3 hn hi;by_cases e0:x0=92
  ·subst e0;by_cases e1:x1=34
   ·subst e1;by_cases e2:x2=34
    ·subst e2;by_cases e3:x3=34
     ·subst e3;go_enter Tryz.func214,Tryz.ntmps214
      go_wp2_with fail
      go_ret;exact ⟨rfl,rfl⟩
     ·have q3:((x3:Int)==34)=false:=by rw [Qa3];exact e3
      rw [Qa4 e3];clear e3;go_enter Tryz.func214,Tryz.ntmps214
      go_wp2_with fail
      go_ret;exact ⟨rfl,rfl⟩
    ·have q2:((x2:Int)==34)=false:=by rw [Qa3];exact e2
     rw [Qa4 e2];clear e2;go_enter Tryz.func214,Tryz.ntmps214
     go_wp2_with fail
     go_ret;exact ⟨rfl,rfl⟩
   ·have q1:((x1:Int)==34)=false:=by rw [Qa3];exact e1
    rw [Qa4 e1];clear e1;go_enter Tryz.func214,Tryz.ntmps214
    go_wp2_with fail
    go_ret;exact ⟨rfl,rfl⟩
  ·have q0:((x0:Int)==92)=false:=by rw [Qa3];exact e0
   rw [Qa4 e0];clear e0;go_enter Tryz.func214,Tryz.ntmps214
   go_wp2_with fail
   go_ret;exact ⟨rfl,rfl⟩
 ·have hltI: ¬((i:Int)+3<(n:Int)):=by omega
  have hd:escT s i=false:=by
   cases h:escT s i with
   |false=>rfl
   |true=>have:=z2p h;omega
  rw [hd];clear hd hn;go_enter Tryz.func214,Tryz.ntmps214
  go_wp2_with fail
  go_ret;exact ⟨rfl,rfl⟩
set_option maxHeartbeats 8000000 in
theorem z8y (A:Option Addr) (n c B:Nat) (s:List Int) (w:World) (hr:Rd w B A (s.map (Value.int .i32))) (hn:s.length=n) (h63:n≤1099511627770):
  Calls Tryz.prog 209 #[.slice A n c] w fun e w'=>e= .returned (.bool (z8v s))∧w'=w:=by
 obtain ⟨r,hrr⟩: ∃r,z8v s=r:=⟨_,rfl⟩;rw [hrr]
 have HE:Hid (y9h s (n+1) 0 0 0=r):=by show _=_;rw [←hrr];unfold z8v;rw [hn]
 have hes:=fun w hr j hj=>z3h A n c B s w hr hn (by omega) j hj;have HN:=hide hn;clear hn hrr;go_enter Tryz.func209,Tryz.ntmps209
 go_wp2_with fail
 go_loopw [3,4,5,6,7] (fun qv lv iv _ _ wr=>∃(k g:Nat) (q l:Int),k≤n∧n<k+g∧0≤q∧q≤2∧qv= .int .i64 q∧lv= .int .i32 l∧iv= .int .i64 k∧Hid (y9h s g k q l=r)∧wr=w) (fun _ _ iv _ _ _=>n - (intOf iv).toNat)
 case atStart=>exact ⟨0,n+1,0,0,by omega,by omega,by omega,by omega,rfl,rfl,rfl,HE,rfl⟩
 case round=>
  clear HE;obtain ⟨k,g,q,l,hk,hg,hq0,hq2,rfl,rfl,rfl,he,rfl⟩:=hrel;obtain ⟨g,rfl⟩: ∃g',g=g'+1:=⟨g - 1,by omega⟩;have h0:=he.out;rw [y9h] at h0;clear he;by_cases hlt:k<n
  ·have hkI:(k:Int)<(n:Int):=by omega
   obtain ⟨z,hz⟩: ∃z,s[k]?=some z:=⟨_,Qad (by rw [HN.out];exact hlt)⟩;rw [hz] at h0;dsimp only at h0;obtain ⟨ad,rfl,hc⟩:=y2g hr hz;have hec:=fun w hr=>hes w hr k (by omega);have hso:=fun w=>y56 z w;clear hz hes
   cases hs:y7r z with
   |false=>
    rw [hs,if_pos rfl] at h0;rw [hs] at hso;subst h0;clear hs
    go_wp2_with (first|(go_at_call 167;refine (hso _).mono ?_;rintro e w' ⟨rfl,rfl⟩))
    go_ret;exact ⟨rfl,rfl⟩
   |true=>
    rw [hs,if_neg (by decide)] at h0;rw [hs] at hso;clear hs
    cases h3:escT s k with
    |true=>
     rw [h3,if_pos rfl] at h0;rw [h3] at hec;have hl:=z2p h3;have:=HN.out;have H1:=hide h0;clear h0 h3
     go_wp2_with (first|(go_at_call 167;refine (hso _).mono ?_;rintro e w' ⟨rfl,rfl⟩)|(go_at_call 214;refine (hec _ hr).mono ?_;rintro e w' ⟨rfl,rfl⟩))
     go_roundw
     case rel=>exact ⟨k+4,g,0,0,by omega,by omega,by omega,by omega,rfl,rfl,by go_num,H1,trivial⟩
     case measure=>simp [intOf];omega
    |false=>
     rw [h3,if_neg (by decide)] at h0;rw [h3] at hec;clear h3;by_cases h34:z=34
     ·subst h34;rw [if_pos rfl] at h0;by_cases hq3:q+1=3
      ·rw [if_pos hq3] at h0
       obtain rfl:q=2:=by omega
       subst h0
       go_wp2_with (first|(go_at_call 167;refine (hso _).mono ?_;rintro e w' ⟨rfl,rfl⟩)|(go_at_call 214;refine (hec _ hr).mono ?_;rintro e w' ⟨rfl,rfl⟩))
       go_ret;exact ⟨rfl,rfl⟩
      ·rw [if_neg hq3] at h0;have H1:=hide h0
       have b3:(q+1==3)=false:=by rw [Qa3];exact hq3
       have hq1:q+1≤2:=by omega
       clear h0 hq3
       go_wp2_with (first|(go_at_call 167;refine (hso _).mono ?_;rintro e w' ⟨rfl,rfl⟩)|(go_at_call 214;refine (hec _ hr).mono ?_;rintro e w' ⟨rfl,rfl⟩))
       go_roundw
       case rel=>exact ⟨k+1,g,q+1,34,by omega,by omega,by omega,by omega,rfl,rfl,by go_num,H1,trivial⟩
       case measure=>simp [intOf];omega
     ·rw [if_neg h34] at h0;have H1:=hide h0
      have b34:((z:Int)==34)=false:=by rw [Qa3];exact h34
      clear h0 h34
      go_wp2_with (first|(go_at_call 167;refine (hso _).mono ?_;rintro e w' ⟨rfl,rfl⟩)|(go_at_call 214;refine (hec _ hr).mono ?_;rintro e w' ⟨rfl,rfl⟩))
      go_roundw
      case rel=>exact ⟨k+1,g,0,z,by omega,by omega,by omega,by omega,rfl,rfl,by go_num,H1,trivial⟩
      case measure=>simp [intOf];omega
  ·have hkI: ¬(k:Int)<(n:Int):=by omega
   rw [Qbg (by rw [HN.out];omega)] at h0;dsimp only at h0;clear hes;by_cases h34:l=34
   ·subst h34
    have:r=false:=by rw [←h0];rfl
    subst this;clear h0
    go_wp2_with fail
    go_ret;exact ⟨rfl,rfl⟩
   ·have b1:(l !=34)=true:=by rw [Qa8];exact h34
    rw [b1,Bool.true_and] at h0;subst h0;clear h34
    go_wp2_with fail
    go_ret;exact ⟨rfl,rfl⟩
set_option maxHeartbeats 2000000 in
theorem x9f (z:Int) (w:World):Calls Tryz.prog 223 #[.int .i32 z] w fun e w'=>e= .returned (.bool (z8x z))∧w'=w:=by
 unfold z8x;by_cases h9:z=9
 ·subst h9;go_enter Tryz.func223,Tryz.ntmps223
  go_wp2_with fail
  go_ret;exact ⟨rfl,rfl⟩
 ·have b9:((z:Int)==9)=false:=by rw [Qa3];exact h9
  rw [b9,Bool.false_or];clear h9;go_enter Tryz.func223,Tryz.ntmps223
  go_wp2_with fail
  go_ret;exact ⟨rfl,rfl⟩
theorem x1h {α:Type} {p:α→Bool}: ∀{l:List α} {k:Nat} {x:α},k≤(l.takeWhile p).length→l[k]?=some x→(p x=true→k+1≤(l.takeWhile p).length)∧(p x=false→(l.takeWhile p).length=k)
 |[],k,x,_,h=>by simp at h
 |a::l,0,x,_,h=>by
  simp only [List.getElem?_cons_zero,Option.some.injEq] at h;subst h;refine ⟨fun h=>by rw [List.takeWhile_cons,if_pos h];simp,fun h=>by rw [List.takeWhile_cons,if_neg (by rw [h];decide)];rfl⟩
 |a::l,k+1,x,hk,h=>by
  cases ha:p a with
  |false=>rw [List.takeWhile_cons,if_neg (by rw [ha];decide)] at hk;simp at hk
  |true=>
   rw [List.takeWhile_cons,if_pos ha,List.length_cons] at hk ⊢;have:=x1h (p:=p) (l:=l) (k:=k) (x:=x) (Nat.le_of_succ_le_succ hk) (by simpa using h);exact ⟨fun h=>by have:=this.1 h;omega,fun h=>by have:=this.2 h;omega⟩
set_option maxHeartbeats 4000000 in
theorem z5l (A:Option Addr) (n c B:Nat) (s:List Int) (w:World) (hr:Rd w B A (s.map (Value.int .i32))) (hn:s.length=n) (h63:n≤1099511627776):
  Calls Tryz.prog 221 #[.slice A n c] w fun e w'=>e= .returned (.int .i64 (indF s))∧w'=w:=by
 obtain ⟨r,hrr⟩: ∃r,indF s=r:=⟨_,rfl⟩;have hrn:=x1g s;rw [hrr,hn] at hrn;rw [hrr];have HR:=hide hrr;have HN:=hide hn;clear hn hrr;go_enter Tryz.func221,Tryz.ntmps221
 go_wp2_with fail
 go_loopw [3] (fun iv wr=>∃k:Nat,k≤r∧iv= .int .i64 k∧wr=w) (fun iv _=>n - (intOf iv).toNat)
 case atStart=>exact ⟨0,by omega,rfl,rfl⟩
 case round=>
  obtain ⟨k,hk,rfl,rfl⟩:=hrel;by_cases hlt:k<n
  ·have hkI:(k:Int)<(n:Int):=by omega
   obtain ⟨z,hz⟩: ∃z,s[k]?=some z:=⟨_,Qad (by rw [HN.out];exact hlt)⟩;obtain ⟨ad,rfl,hc⟩:=y2g hr hz;have hst:=x1h (p:=z8x) (by have:=HR.out;unfold indF at this;omega) hz;have hr2:=HR.out;unfold indF at hr2;rw [hr2] at hst;have hw:=fun w=>x9f z w
   cases hwz:z8x z with
   |true=>
    rw [hwz] at hst hw;have h1:=hst.1 rfl;clear hst hwz hr2 hz
    go_wp2_with (first|(go_at_call 223;refine (hw _).mono ?_;rintro e w' ⟨rfl,rfl⟩))
    go_roundw
    case rel=>exact ⟨k+1,by omega,by go_num,trivial⟩
    case measure=>simp [intOf];omega
   |false=>
    rw [hwz] at hst hw;obtain rfl:=hst.2 rfl;clear hst hwz hr2 hz
    go_wp2_with (first|(go_at_call 223;refine (hw _).mono ?_;rintro e w' ⟨rfl,rfl⟩))
    go_ret;exact ⟨rfl,rfl⟩
  ·have hkI: ¬(k:Int)<(n:Int):=by omega
   obtain rfl:k=r:=by omega
   go_wp2_with fail
   go_ret;exact ⟨rfl,rfl⟩
theorem z3i (A:Option Addr) (n c B:Nat) (s:List Int) (w:World) (hr:Rd w B A (s.map (Value.int .i32))) (hn:s.length=n) (h63:n≤1099511627776):
  Calls Tryz.prog 216 #[.slice A n c] w fun e w'=>e= .returned (.bool (y7j s))∧w'=w:=by
 have hi:=fun w hr=>z5l A n c B s w hr hn h63
 have hb:y7j s=(((indF s:Nat):Int)==(n:Int)):=by
  unfold y7j;rw [hn];by_cases h:indF s=n
  ·rw [Qa5 h,h];simp
  ·rw [Qa4 h];symm;rw [Qa3];omega
 rw [hb];generalize indF s=r at hi;clear hb hn;go_enter Tryz.func216,Tryz.ntmps216
 go_wp2_with (first|(go_at_call 221;refine (hi _ hr).mono ?_;rintro e w' ⟨rfl,rfl⟩))
 go_ret;exact ⟨rfl,rfl⟩
def z3j:Prop:=∀(A:Option Addr) (n c B:Nat) (s:List Int) (w:World),Rd w B A (s.map (Value.int .i32))→B≤w.heap.size→s.length=n→n≤c→c≤maxLen→n≤4000000→
  Calls Tryz.prog 204 #[.slice A n c] w fun e w'=>e= .returned (.tuple #[.string (str (z3g s).1),.int .i64 (z3g s).2])∧Below w.heap.size w w'
def y7m (s:List Int) (f i:Nat):Option (Nat×Int×Txt):=
 if y1k s i 34=true then (match blkF s i f (i+3) with
  |none=>none
  |some j=>if j=i then some (i,1,[])
   else if i+6≤j∧j≤s.length then (if (z3g ((s.drop (i+3)).take (j - 3 - (i+3)))).2=0 then some (j,7,(z3g ((s.drop (i+3)).take (j - 3 - (i+3)))).1) else some (i,1,[])) else none)
 else match quoF s i f (i+1) with
  |none=>none
  |some j=>if j=i then some (i,1,[])
   else if i+2≤j∧j≤s.length then (if (y6r ((s.drop (i+1)).take (j - 1 - (i+1)))).2=0 then some (j,6,(y6r ((s.drop (i+1)).take (j - 1 - (i+1)))).1) else some (i,1,[])) else none
set_option maxHeartbeats 8000000 in
theorem q4f (HB:z3j) (A:Option Addr) (n c B:Nat) (s:List Int) (w:World) (hr:Rd w B A (s.map (Value.int .i32))) (hB:B≤w.heap.size) (hn:s.length=n) (hnc:n≤c) (hcm:c≤maxLen) (h63:n≤4000000) (f i:Nat) (hi:i<n) (r:Nat×Int×Txt) (h:y7m s f i=some r):
  Calls Tryz.prog 196 #[.slice A n c,.int .i64 i] w fun e w'=>e= .returned (.tuple #[.int .i64 r.1,.int .i64 r.2.1,.string (str r.2.2)])∧Below w.heap.size w w':=by
 have hc63:c≤9223372036854775807:=by simpa [maxLen] using hcm
 unfold y7m at h;have hth:=z3c A n c B s w hr hn (by omega) i (by omega) 34
 cases h3:y1k s i 34 with
 |true=>
  rw [h3,if_pos rfl] at h;rw [h3] at hth
  cases hq:blkF s i f (i+3) with
  |none=>rw [hq] at h;cases h
  |some j=>
   rw [hq] at h;dsimp only at h;have hqu:=x9e A n c B s w hr hn (by omega) f i j (by omega) hq;by_cases hji:j=i
   ·rw [if_pos hji] at h;injection h with h;subst h hji;clear h3 hq;go_enter Tryz.func196,Tryz.ntmps196
    go_wp2_with (first|(go_at_call 202;refine hth.mono ?_;rintro e w' ⟨rfl,rfl⟩)|(go_at_call 203;refine hqu.mono ?_;rintro e w' ⟨rfl,rfl⟩))
    exact bodyPost_ret (v:=.tuple #[.int .i64 j,.int .i64 1,.string (str [])]) (by simp [results,Tryz.results196,go_sem];rfl) rfl ⟨rfl,Below.refl _ _⟩
   ·rw [if_neg hji] at h;by_cases hin:i+6≤j∧j≤s.length
    ·rw [if_pos hin] at h;obtain ⟨g1,g2⟩:=hin;obtain ⟨t,ht⟩: ∃t,(s.drop (i+3)).take (j - 3 - (i+3))=t:=⟨_,rfl⟩;have hrt:=(hr.drop (i+3)).take (j - 3 - (i+3));rw [←List.map_drop,←List.map_take,ht] at hrt;rw [ht] at h
     have htl:t.length=j - 3 - (i+3):=by rw [←ht,Qau,Qav];omega
     have hjI:((j:Int)==(i:Int))=false:=by rw [Qa3];omega
     obtain ⟨jj,hjj⟩: ∃jj,j=jj+3:=⟨j - 3,by omega⟩;subst hjj;rw [show jj+3 - 3 - (i+3)=jj - (i+3) by omega] at htl
     have hj1:(i:Int)+3≤(jj:Int):=by omega
     have hj2:(jj:Int)≤(c:Int):=by omega
     have hbc:=fun w hr hB=>HB (A.map (·.add (i+3))) (jj - (i+3)) (c - (i+3)) B t w hr hB htl (by omega) (by omega) (by omega)
     have hne: ¬c=i+3:=by omega
     have hmc:(i:Int)+3≤(c:Int):=by omega
     obtain ⟨v1,v2,hv⟩: ∃v1 v2,z3g t=(v1,v2):=⟨_,_,rfl⟩;rw [hv] at h hbc;dsimp only at h hbc;rw [show (fun x:Addr=>x.add (i+3))=fun x=>⟨x.block,x.off+(i+3),none⟩ from funext fun x=>y3l x (i+2)] at hrt hbc;clear h3 hq ht htl hji hv;by_cases hv0:v2=0
     ·rw [if_pos hv0] at h;injection h with h;subst h hv0;go_enter Tryz.func196,Tryz.ntmps196
      go_wp2_with (first|(go_at_call 202;refine hth.mono ?_;rintro e w' ⟨rfl,rfl⟩)|(go_at_call 203;refine hqu.mono ?_;rintro e w' ⟨rfl,rfl⟩)|(go_at_call 204;refine (hbc _ hrt hB).mono ?_;rintro e w2 ⟨rfl,hb2⟩))
      exact bodyPost_ret (v:=.tuple #[.int .i64 ((jj:Int)+3),.int .i64 7,.string (str v1)]) (by simp [results,Tryz.results196,go_sem]) rfl ⟨rfl,hb2⟩
     ·rw [if_neg hv0] at h;injection h with h;subst h
      have b0:((v2:Int)==0)=false:=by rw [Qa3];exact hv0
      clear hv0;go_enter Tryz.func196,Tryz.ntmps196
      go_wp2_with (first|(go_at_call 202;refine hth.mono ?_;rintro e w' ⟨rfl,rfl⟩)|(go_at_call 203;refine hqu.mono ?_;rintro e w' ⟨rfl,rfl⟩)|(go_at_call 204;refine (hbc _ hrt hB).mono ?_;rintro e w2 ⟨rfl,hb2⟩))
      exact bodyPost_ret (v:=.tuple #[.int .i64 i,.int .i64 1,.string (str [])]) (by simp [results,Tryz.results196,go_sem];rfl) rfl ⟨rfl,hb2⟩
    ·rw [if_neg hin] at h;cases h
 |false=>
  rw [h3,if_neg (by decide)] at h;rw [h3] at hth
  cases hq:quoF s i f (i+1) with
  |none=>rw [hq] at h;cases h
  |some j=>
   rw [hq] at h;dsimp only at h;have hqu:=x5r A n c B s w hr hn (by omega) f i j hi hq;by_cases hji:j=i
   ·rw [if_pos hji] at h;injection h with h;subst h hji;clear h3 hq;go_enter Tryz.func196,Tryz.ntmps196
    go_wp2_with (first|(go_at_call 202;refine hth.mono ?_;rintro e w' ⟨rfl,rfl⟩)|(go_at_call 205;refine hqu.mono ?_;rintro e w' ⟨rfl,rfl⟩))
    exact bodyPost_ret (v:=.tuple #[.int .i64 j,.int .i64 1,.string (str [])]) (by simp [results,Tryz.results196,go_sem];rfl) rfl ⟨rfl,Below.refl _ _⟩
   ·rw [if_neg hji] at h;by_cases hin:i+2≤j∧j≤s.length
    ·rw [if_pos hin] at h;obtain ⟨g1,g2⟩:=hin;obtain ⟨t,ht⟩: ∃t,(s.drop (i+1)).take (j - 1 - (i+1))=t:=⟨_,rfl⟩;have hrt:=(hr.drop (i+1)).take (j - 1 - (i+1));rw [←List.map_drop,←List.map_take,ht] at hrt;rw [ht] at h
     have htl:t.length=j - 1 - (i+1):=by rw [←ht,Qau,Qav];omega
     have hjI:((j:Int)==(i:Int))=false:=by rw [Qa3];omega
     obtain ⟨jj,hjj⟩: ∃jj,j=jj+1:=⟨j - 1,by omega⟩;subst hjj;rw [show jj+1 - 1 - (i+1)=jj - (i+1) by omega] at htl
     have hj1:(i:Int)+1≤(jj:Int):=by omega
     have hj2:(jj:Int)≤(c:Int):=by omega
     have hbc:=fun w hr hB=>x5v (A.map (·.add (i+1))) (jj - (i+1)) (c - (i+1)) B t w hr hB htl (by omega);obtain ⟨v1,v2,hv⟩: ∃v1 v2,y6r t=(v1,v2):=⟨_,_,rfl⟩;rw [hv] at h hbc;dsimp only at h hbc;rw [show (fun x:Addr=>x.add (i+1))=fun x=>⟨x.block,x.off+(i+1),none⟩ from funext fun x=>y3l x i] at hrt hbc;clear h3 hq ht htl hji hv;by_cases hv0:v2=0
     ·rw [if_pos hv0] at h;injection h with h;subst h hv0;go_enter Tryz.func196,Tryz.ntmps196
      go_wp2_with (first|(go_at_call 202;refine hth.mono ?_;rintro e w' ⟨rfl,rfl⟩)|(go_at_call 205;refine hqu.mono ?_;rintro e w' ⟨rfl,rfl⟩)|(go_at_call 206;refine (hbc _ hrt hB).mono ?_;rintro e w2 ⟨rfl,hb2⟩))
      exact bodyPost_ret (v:=.tuple #[.int .i64 ((jj:Int)+1),.int .i64 6,.string (str v1)]) (by simp [results,Tryz.results196,go_sem]) rfl ⟨rfl,hb2⟩
     ·rw [if_neg hv0] at h;injection h with h;subst h
      have b0:((v2:Int)==0)=false:=by rw [Qa3];exact hv0
      clear hv0;go_enter Tryz.func196,Tryz.ntmps196
      go_wp2_with (first|(go_at_call 202;refine hth.mono ?_;rintro e w' ⟨rfl,rfl⟩)|(go_at_call 205;refine hqu.mono ?_;rintro e w' ⟨rfl,rfl⟩)|(go_at_call 206;refine (hbc _ hrt hB).mono ?_;rintro e w2 ⟨rfl,hb2⟩))
      exact bodyPost_ret (v:=.tuple #[.int .i64 i,.int .i64 1,.string (str [])]) (by simp [results,Tryz.results196,go_sem];rfl) rfl ⟨rfl,hb2⟩
    ·rw [if_neg hin] at h;cases h
def oneF (s:List Int) (f i:Nat):Option (Nat×Int×Txt):=
 match s[i]? with
 |none=>none
 |some c=>
  if c= -2 then some (i,0,[])
  else if y7q c=true then (match y4g s f i with
   |none=>none
   |some j=>some (j,3,[]))
  else if y7h c=true∨c=45 then some ((numF s i).1,(numF s i).2,[])
  else if c=34 then y7m s f i
  else match y4h s i with
   |none=>none
   |some j=>if i<j then some (j,2,[]) else some (i,1,[])
set_option maxHeartbeats 4000000 in
theorem x1i (HB:z3j) (A:Option Addr) (n c B:Nat) (s:List Int) (w:World) (hr:Rd w B A (s.map (Value.int .i32))) (hB:B≤w.heap.size) (hn:s.length=n) (hnc:n≤c) (hcm:c≤maxLen) (h63:n≤4000000) (hlast:s.getLast?=some (-2)) (f i:Nat) (r:Nat×Int×Txt) (h:oneF s f i=some r):
  Calls Tryz.prog 170 #[.slice A n c,.int .i64 i] w fun e w'=>e= .returned (.tuple #[.int .i64 r.1,.int .i64 r.2.1,.string (str r.2.2)])∧Below w.heap.size w w':=by
 unfold oneF at h
 cases hz:s[i]? with
 |none=>rw [hz] at h;cases h
 |some z=>
  rw [hz] at h;dsimp only at h;have hin:=z8o hz hn
  have hinI:(i:Int)<(n:Int):=by omega
  obtain ⟨ad,rfl,hc⟩:=y2g hr hz;by_cases h2:z= -2
  ·rw [if_pos h2] at h;injection h with h;subst h h2;clear hz hn;go_enter Tryz.func170,Tryz.ntmps170
   go_wp2_with fail
   exact bodyPost_ret (v:=.tuple #[.int .i64 i,.int .i64 0,.string (str [])]) (by simp [results,Tryz.results170,go_sem];rfl) rfl ⟨rfl,Below.refl _ _⟩
  rw [if_neg h2] at h
  have b2:((z:Int)== -2)=false:=by rw [Qa3];exact h2
  cases hs:y7q z with
  |true=>
   rw [hs,if_pos rfl] at h
   cases hnm:y4g s f i with
   |none=>rw [hnm] at h;cases h
   |some j=>
    rw [hnm] at h;injection h with h;subst h;have hcall:=q3y (some ad) n c B s w hr hn (by omega) f i j hnm;have HS:=hide hs;clear hz hn hs hnm h2;go_enter Tryz.func170,Tryz.ntmps170
    go_wp2_with fail
    refine (y2u z _).mono ?_;rintro e w' ⟨rfl,rfl⟩;rw [HS.out]
    go_wp2_with fail
    refine hcall.mono ?_;rintro e w' ⟨rfl,rfl⟩
    go_wp2_with fail
    exact bodyPost_ret (v:=.tuple #[.int .i64 j,.int .i64 3,.string (str [])]) (by simp [results,Tryz.results170,go_sem];rfl) rfl ⟨rfl,Below.refl _ _⟩
  |false=>
   rw [hs,if_neg (by decide)] at h;by_cases hd:y7h z=true∨z=45
   ·rw [if_pos hd] at h;injection h with h;subst h;have hcall:=x09 (some ad) n c B s w hr hn (by omega) i hin (-2) hlast (by decide);obtain ⟨p,q,hpq⟩: ∃p q,numF s i=(p,q):=⟨_,_,rfl⟩;rw [hpq] at hcall ⊢;dsimp only at hcall ⊢;have HS:=hide hs;by_cases hd1:y7h z=true
    ·have HD:=hide hd1;clear hz hn hs hd hd1 h2 hpq hlast;go_enter Tryz.func170,Tryz.ntmps170
     go_wp2_with fail
     refine (y2u z _).mono ?_;rintro e w' ⟨rfl,rfl⟩;rw [HS.out]
     go_wp2_with fail
     refine (y7s z _).mono ?_;rintro e w' ⟨rfl,rfl⟩;rw [HD.out]
     go_wp2_with fail
     refine hcall.mono ?_;rintro e w2 ⟨rfl,rfl⟩
     go_wp2_with fail
     exact bodyPost_ret (v:=.tuple #[.int .i64 p,.int .i64 q,.string (str [])]) (by simp [results,Tryz.results170,go_sem];rfl) rfl ⟨rfl,Below.refl _ _⟩
    ·have HD:Hid (y7h z=false):=by show _=_;cases hh:y7h z with|true=>exact absurd hh hd1|false=>rfl
     have e45:z=45:=by rcases hd with h|h;exact absurd h hd1;exact h
     subst e45;clear hz hn hs hd hd1 h2 hpq hlast;go_enter Tryz.func170,Tryz.ntmps170
     go_wp2_with fail
     refine (y2u 45 _).mono ?_;rintro e w' ⟨rfl,rfl⟩;rw [HS.out]
     go_wp2_with fail
     refine (y7s 45 _).mono ?_;rintro e w' ⟨rfl,rfl⟩;rw [HD.out]
     go_wp2_with fail
     refine hcall.mono ?_;rintro e w2 ⟨rfl,rfl⟩
     go_wp2_with fail
     exact bodyPost_ret (v:=.tuple #[.int .i64 p,.int .i64 q,.string (str [])]) (by simp [results,Tryz.results170,go_sem];rfl) rfl ⟨rfl,Below.refl _ _⟩
   rw [if_neg hd] at h
   have hd1:y7h z=false:=by cases hh:y7h z with|true=>exact absurd (.inl hh) hd|false=>rfl
   have b45:((z:Int)==45)=false:=by rw [Qa3];exact fun e=>hd (.inr e)
   have HS:=hide hs;have HD:=hide hd1;by_cases h34:z=34
   ·rw [if_pos h34] at h;have hcall:=q4f HB (some ad) n c B s w hr hB hn hnc hcm h63 f i hin r h;subst h34;clear hz hn hs hd hd1 h2 h;go_enter Tryz.func170,Tryz.ntmps170
    go_wp2_with fail
    refine (y2u 34 _).mono ?_;rintro e w' ⟨rfl,rfl⟩;rw [HS.out]
    go_wp2_with fail
    refine (y7s 34 _).mono ?_;rintro e w' ⟨rfl,rfl⟩;rw [HD.out]
    go_wp2_with fail
    refine hcall.mono ?_;rintro e w2 ⟨rfl,hb2⟩
    go_wp2_with fail
    exact bodyPost_ret (v:=.tuple #[.int .i64 r.1,.int .i64 r.2.1,.string (str r.2.2)]) (by simp [results,Tryz.results170,go_sem]) rfl ⟨rfl,hb2⟩
   ·rw [if_neg h34] at h
    have b34:((z:Int)==34)=false:=by rw [Qa3];exact h34
    cases hp:y4h s i with
    |none=>rw [hp] at h;cases h
    |some j=>
     rw [hp] at h;dsimp only at h;have hcall:=x8r (some ad) n c B s w hr hn (by omega) i j hp;clear hz hn hs hd hd1 h2 h34 hp;by_cases hij:i<j
     ·rw [if_pos hij] at h;injection h with h;subst h
      have hijI:(i:Int)<(j:Int):=by omega
      go_enter Tryz.func170,Tryz.ntmps170
      go_wp2_with fail
      refine (y2u z _).mono ?_;rintro e w' ⟨rfl,rfl⟩;rw [HS.out]
      go_wp2_with fail
      refine (y7s z _).mono ?_;rintro e w' ⟨rfl,rfl⟩;rw [HD.out]
      go_wp2_with fail
      refine hcall.mono ?_;rintro e w2 ⟨rfl,q,rfl⟩
      go_wp2_with fail
      exact bodyPost_ret (v:=.tuple #[.int .i64 j,.int .i64 2,.string (str [])]) (by simp [results,Tryz.results170,go_sem];rfl) rfl ⟨rfl,below_drewN (Below.refl _ _) q⟩
     ·rw [if_neg hij] at h;injection h with h;subst h
      have hijI: ¬((i:Int)<(j:Int)):=by omega
      go_enter Tryz.func170,Tryz.ntmps170
      go_wp2_with fail
      refine (y2u z _).mono ?_;rintro e w' ⟨rfl,rfl⟩;rw [HS.out]
      go_wp2_with fail
      refine (y7s z _).mono ?_;rintro e w' ⟨rfl,rfl⟩;rw [HD.out]
      go_wp2_with fail
      refine hcall.mono ?_;rintro e w2 ⟨rfl,q,rfl⟩
      go_wp2_with fail
      exact bodyPost_ret (v:=.tuple #[.int .i64 i,.int .i64 1,.string (str [])]) (by simp [results,Tryz.results170,go_sem];rfl) rfl ⟨rfl,below_drewN (Below.refl _ _) q⟩
end Go.Proofs.YtbpgkkoeehopjaaGreat.lex
