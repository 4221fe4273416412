/- Part 6 of a proof: see the text that holds the statement. -/
import Derived.Test.YtbpgkkoeehopjaaGreatP5
import Derived.Deep.QuietTactic
import Derived.BigQuiet
import Derived.Deep.LoopGhost
set_option linter.unusedVariables false
set_option linter.unusedSimpArgs false
namespace Go.Proofs.YtbpgkkoeehopjaaGreat.hp
open Go.RowKit words enc tree gram lex rd dec dat held
set_option maxRecDepth 100000
set_option maxHeartbeats 40000000
attribute [local go_sem ↓] Go.wp_at_zero Go.wp_at_succ
structure Tk (K:World) (A:Option Addr) (n c:Nat) (toks:List TokD):Prop where
 dat:RD K (.list n (x58 toks)) (.slice A n c)
 len:toks.length=n
 le:n≤3000000
theorem Tk.sat {K K':World} {A:Option Addr} {n c:Nat} {toks:List TokD} (h:Tk K A n c toks) (hs:Sat K' K):Tk K' A n c toks:=⟨h.dat.sat hs,h.len,h.le⟩
abbrev tokC (t:TokD):List Value:=[.int .i64 t.kind,.int .i64 t.line,.int .i64 t.col,.int .i64 t.start,.int .i64 t.stop,.string (str t.text),.string (str t.value)]
theorem x9t {w0 w K:World} {M:List Ent} {A:Option Addr} {n c k:Nat} {toks:List TokD} {t:TokD} (H:Hp w0 w K M) (h:Tk K A n c toks) (ht:toks[k]?=some t): ∃ad,A=some ad∧At K (ad.add (k*7)) (tokC t)∧k<n∧(k:Int)<(n:Int)∧n≤3000000∧IntKind.i64.wrap ((k:Int)+1)=k+1:=by
 have hd:=h.dat;obtain ⟨ad,vs,h1,h2,h3,_,h5,h6⟩:=y74 (m:=7) (f:=tokL) (fun _=>rfl) hd ht (by omega);obtain ⟨r0,rfl,q0⟩:=h2.lit_inv;obtain ⟨r1,rfl,q1⟩:=q0.lit_inv;obtain ⟨r2,rfl,q2⟩:=q1.lit_inv;obtain ⟨r3,rfl,q3⟩:=q2.lit_inv;obtain ⟨r4,rfl,q4⟩:=q3.lit_inv;obtain ⟨r5,rfl,q5⟩:=q4.lit_inv;obtain ⟨r6,rfl,q6⟩:=q5.lit_inv;obtain rfl:=q6.nil_inv
 have hk:k<n:=by rw [←h.len];exact (Qac.1 ht).1
 have:=h.le;exact ⟨ad,h1,⟨h5,h6⟩,hk,by omega,h.le,IntWalk.i64_in _ (by omega)⟩
abbrev rdE (g:Nat) (A:Option Addr) (n c k:Nat):Ent:=.box g [.slice A n c,.int .i64 k] 145
section
variable {w0 w K : World} {M : List Ent} {g : Nat} {A : Option Addr} {n c k : Nat} {toks : List TokD} {t : TokD}
theorem is_hp (H:Hp w0 w K (rdE g A n c k::M)) (R:Tk K A n c toks) (ht:toks[k]?=some t) (x:Txt) {s:ByteArray} (hs:str x=s:=by with_unfolding_all rfl):
  Calls Tryz.prog 176 #[.pointer (some ⟨g,0,none⟩),.string s] w fun e w'=>e= .returned (.bool (isF t x))∧Hp w0 w' K (rdE g A n c k::M):=by
 obtain ⟨ad,rfl,hat,hk,hkI,hn,hwr⟩:=x9t H R ht;clear R;subst hs;obtain ⟨kind,line,col,start,stop,text,value⟩:=t
 show Calls _ _ _ _ fun e w'=>e= .returned (.bool (decide (text=x)&&(kind !=6)&&(kind !=7)))∧_
 refine q4q kind text x (fun b=>Calls Tryz.prog 176 #[.pointer (some ⟨g,0,none⟩),.string (str x)] w fun e w'=>e= .returned (.bool b)∧Hp w0 w' K (rdE g (some ad) n c k::M)) (fun q1=>?_) (fun q1 q2=>?_) (fun q1 q2 q3=>?_) (fun q1 q2 q3=>?_)
 all_goals
  go_enter Tryz.func176,Tryz.ntmps176
  go_wp2_with fail
  refine rB [] H ?_;clear H;intro w H;refine rT 0 H ?_;refine rT 1 H ?_;refine rT 2 H ?_;refine rT 3 H ?_;refine rT 4 H ?_;refine rT 5 H ?_;refine rT 6 H ?_;refine rT 7 H ?_;refine rT 8 H ?_;refine rT 9 H ?_;refine rW 10 H ?_;clear H;intro w _ H;refine rW 11 H ?_;clear H;intro w _ H;refine rE ?_
  go_wp2_with (first|(refine oL H ?_)|(refine oP H ?_;clear H;intro w _ H))
  go_ret;exact ⟨rfl,H.fin⟩
theorem y0x (H:Hp w0 w K (rdE g A n c k::M)) (R:Tk K A n c toks) (ht:toks[k]?=some t) (x:Txt) {s:ByteArray} (hs:str x=s:=by with_unfolding_all rfl):
  Calls Tryz.prog 145 #[.pointer (some ⟨g,0,none⟩),.string s] w fun e w'=>e= .returned (.bool (isF t x))∧Hp w0 w' K (rdE g A n c (if isF t x=true then k+1 else k)::M):=by
 obtain ⟨ad,rfl,hat,hk,hkI,hn,hwr⟩:=x9t H R ht;subst hs;have hcall:=is_hp H R ht x;obtain ⟨b,hb⟩: ∃b,isF t x=b:=⟨_,rfl⟩;rw [hb] at hcall ⊢;clear hb
 cases b<;>(
  go_enter Tryz.func145,Tryz.ntmps145
  go_wp2_with (first|(refine oL H ?_)|(refine oP H ?_;clear H;intro w _ H)|((with_reducible refine (hcall).mono ?_);clear H;rintro e w ⟨rfl,H⟩))
  go_ret
  exact ⟨rfl,H⟩)
theorem z3w (H:Hp w0 w K (rdE g A n c k::M)) (R:Tk K A n c toks) (ht:toks[k]?=some t):
  Calls Tryz.prog 177 #[.pointer (some ⟨g,0,none⟩)] w fun e w'=>e= .returned (tokV t)∧Hp w0 w' K (rdE g A n c (y0g n k)::M):=by
 obtain ⟨ad,rfl,hat,hk,hkI,hn,hwr⟩:=x9t H R ht;clear R;rcases (show (k+1<n∧y0g n k=k+1)∨(¬k+1<n∧y0g n k=k) by unfold y0g;split<;>simp_all) with ⟨hlt,hq⟩|⟨hlt,hq⟩
 all_goals
  rw [hq];clear hq;go_enter Tryz.func177,Tryz.ntmps177
  go_wp2_with (first|(refine oL H ?_)|(refine oP H ?_;clear H;intro w _ H))
  refine rB [] H ?_;clear H;intro w H;refine rT 0 H ?_;refine rT 1 H ?_;refine rT 2 H ?_;refine rT 3 H ?_;refine rT 4 H ?_;refine rT 5 H ?_;refine rT 6 H ?_;refine rT 7 H ?_;refine rT 8 H ?_;refine rT 9 H ?_;refine rW 10 H ?_;clear H;intro w _ H;refine rW 11 H ?_;clear H;intro w _ H;refine rE ?_
  go_wp2_with fail
  refine rB [] H ?_;clear H;intro w H;refine rT 0 H ?_;refine rT 1 H ?_;refine rT 2 H ?_;refine rT 3 H ?_;refine rT 4 H ?_;refine rT 5 H ?_;refine rT 6 H ?_;refine rT 7 H ?_;refine rT 8 H ?_;refine rT 9 H ?_;refine rT 10 H ?_;refine rE ?_
  go_wp2_with (first|(refine oL H ?_)|(refine oP H ?_;clear H;intro w _ H))
  refine oB H ?_;exact ⟨rfl,H.fin⟩
theorem y09 (H:Hp w0 w K (rdE g A n c k::M)) (R:Tk K A n c toks) (ht:toks[k]?=some t):
  Calls Tryz.prog 146 #[.pointer (some ⟨g,0,none⟩)] w fun e w'=>e= .returned (namedV (y1c t))∧Hp w0 w' K (rdE g A n c (y0g n k)::M):=by
 go_enter Tryz.func146,Tryz.ntmps146
 go_wp2_with (first|(refine oL H ?_)|(refine oP H ?_;clear H;intro w _ H)|((with_reducible refine (z3w H.up R ht).mono ?_);clear H;rintro e w ⟨rfl,H⟩))
 refine oB H ?_;exact ⟨rfl,H.fin⟩
theorem y4w (H:Hp w0 w K (rdE g A n c k::M)) (R:Tk K A n c toks) {r:NoteD×Nat} (hr:y6b toks k=some r):
  Calls Tryz.prog 144 #[.pointer (some ⟨g,0,none⟩)] w fun e w'=>e= .returned (noteV r.1)∧Hp w0 w' K (rdE g A n c r.2::M):=by
 obtain ⟨t,ht,rfl⟩:=Option.map_eq_some_iff.1 hr;obtain ⟨ad,rfl,hat,hk,hkI,hn,hwr⟩:=x9t H R ht;clear R hr ht;obtain ⟨kind,line,col,start,stop,text,value⟩:=t;rcases (show (kind=6∧(kind !=6)=false∧(kind !=7)=true)∨(kind=7∧(kind !=6)=true∧(kind !=7)=false)∨(¬(kind=6∨kind=7)∧(kind !=6)=true∧(kind !=7)=true) by simp;omega) with ⟨h,h6,h7⟩|⟨h,h6,h7⟩|⟨h,h6,h7⟩
 ·subst h;go_enter Tryz.func144,Tryz.ntmps144
  go_wp2_with (first|(refine oL H ?_)|(refine oP H ?_;clear H;intro w _ H))
  refine rB [] H ?_;clear H;intro w H;refine rT 0 H ?_;refine rT 1 H ?_;refine rT 2 H ?_;refine rT 3 H ?_;refine rT 4 H ?_;refine rT 5 H ?_;refine rT 6 H ?_;refine rT 7 H ?_;refine rT 8 H ?_;refine rT 9 H ?_;refine rW 10 H ?_;clear H;intro w _ H;refine rW 11 H ?_;clear H;intro w _ H;refine rE ?_
  go_wp2_with (first|(refine oL H ?_)|(refine oP H ?_;clear H;intro w _ H))
  refine oB H ?_;exact ⟨rfl,H.fin⟩
 ·subst h;go_enter Tryz.func144,Tryz.ntmps144
  go_wp2_with (first|(refine oL H ?_)|(refine oP H ?_;clear H;intro w _ H))
  refine rB [] H ?_;clear H;intro w H;refine rT 0 H ?_;refine rT 1 H ?_;refine rT 2 H ?_;refine rT 3 H ?_;refine rT 4 H ?_;refine rT 5 H ?_;refine rT 6 H ?_;refine rT 7 H ?_;refine rT 8 H ?_;refine rT 9 H ?_;refine rW 10 H ?_;clear H;intro w _ H;refine rW 11 H ?_;clear H;intro w _ H;refine rE ?_
  go_wp2_with (first|(refine oL H ?_)|(refine oP H ?_;clear H;intro w _ H))
  refine oB H ?_;exact ⟨rfl,H.fin⟩
 ·rw [if_neg h];go_enter Tryz.func144,Tryz.ntmps144
  go_wp2_with (first|(refine oL H ?_)|(refine oP H ?_;clear H;intro w _ H))
  refine rB [] H ?_;clear H;intro w H;refine rT 0 H ?_;refine rT 1 H ?_;refine rT 2 H ?_;refine rT 3 H ?_;refine rT 4 H ?_;refine rT 5 H ?_;refine rT 6 H ?_;refine rT 7 H ?_;refine rT 8 H ?_;refine rT 9 H ?_;refine rW 10 H ?_;clear H;intro w _ H;refine rW 11 H ?_;clear H;intro w _ H;refine rE ?_
  go_wp2_with (first|(refine oL H ?_)|(refine oP H ?_;clear H;intro w _ H))
  refine oB H ?_;exact ⟨rfl,H.fin⟩
end
section
variable {w0 w K : World} {M : List Ent} {g : Nat} {A : Option Addr} {n c k : Nat} {toks : List TokD} {t : TokD}
theorem z0k (H:Hp w0 w K (rdE g A n c k::M)) (R:Tk K A n c toks) (mark:Txt) (f:Nat) (hf:f≤3000000) {r:List NamedD×Nat} (hr:y35 toks mark f k=some r) {s:ByteArray} (hs:str mark=s:=by with_unfolding_all rfl):
  Calls Tryz.prog 149 #[.pointer (some ⟨g,0,none⟩),.string s] w fun e w'=>∃K' A' c',e= .returned (.slice A' r.1.length c')∧Sat K' K∧Hp w0 w' K' (rdE g A n c r.2::M)∧RD K' (.list r.1.length (y0v r.1)) (.slice A' r.1.length c'):=by
 subst hs;unfold y35 at hr;split at hr
 ·cases hr
 rename_i t ht;have hc:=y0x H R ht mark;have hlen:=R.len;generalize (if isF t mark=true then k+1 else k)=k1 at hr hc;have HR:=hide hr;clear hr ht;go_enter Tryz.func149,Tryz.ntmps149
 go_wp2_with (refine hc.mono ?_;clear hc H;rintro e w ⟨rfl,H⟩)
 replace H:=H.nilRow 113 3
 go_loopg [5,6] (f+1) (fun fu v b wr=>∃(k:Nat) (done:List NamedD) (more:Bool) (A':Option Addr) (c':Nat) (vs:List Value),fu≤f+1∧b= .bool more∧v= .slice A' done.length c'∧done.length+fu=f+1∧(more=true→Hid (1≤fu∧ ∃l,y3y toks mark (fu - 1) k=some (l,r.2)∧r.1=done++l))∧(more=false→Hid (r.1=done∧k=r.2))∧RL K (y0v done) vs∧Hp w0 wr K (.row 113 3 (.slice A' done.length c') done.length vs::rdE g A n c k::M))
 case atStart=>exact ⟨k1,[],true,none,0,[],Qab _,rfl,rfl,Nat.zero_add _,fun _=>⟨by omega,r.1,HR.out,rfl⟩,(fun e=>by cases e),.nil (Qab _),H⟩
 case round=>
  clear H;obtain ⟨k,done,more,A',c',vs,hfu,rfl,rfl,hdl,hm,hn,hvs,H⟩:=hrel
  cases more with
  |false=>
   have HN:=hn rfl;clear hm hn
   go_wp2_with fail
   go_ret;rw [HN.out.1,←HN.out.2];obtain ⟨K',hle,H,hd⟩:=H.freezeRow hvs;exact ⟨K',_,_,rfl,hle,H,hd⟩
  |true=>
   obtain ⟨hfu1,l,hl,hrl⟩:=(hm rfl).out;clear hm hn;obtain ⟨fu,rfl⟩: ∃x,gk=x+1:=⟨gk - 1,by omega⟩;rw [Nat.add_sub_cancel] at hl
   cases fu with
   |zero=>rw [y3y] at hl;cases hl
   |succ fu=>
   rw [y3y,hlen] at hl;split at hl
   ·cases hl
   rename_i t ht;split at hl
   ·cases hl
   rename_i t1 ht1;have hc1:=fun {w M} (h:Hp w0 w K (rdE g A n c k::M))=>y09 h R ht;have hc2:=fun {w M} (h:Hp w0 w K (rdE g A n c (y0g n k)::M))=>y0x h R ht1 mark;generalize y0g n k=k2 at hl hc1 hc2
   have hq:RL K (y0v (done++[y1c t])) (vs++namedC (y1c t)):=by rw [y64];exact hvs.app (.lit (.lit (.lit (.nil (Qab _)))))
   have hnx: ∃(b:Bool) (k3:Nat),isF t1 mark=b∧(if b=true then k2+1 else k2)=k3∧(b=true→Hid (1≤fu+1∧ ∃l,y3y toks mark (fu+1 - 1) k3=some (l,r.2)∧r.1=(done++[y1c t])++l))∧(b=false→Hid (r.1=done++[y1c t]∧k3=r.2)):=by
    refine ⟨_,_,rfl,rfl,fun hb=>?_,fun hb=>?_⟩
    ·rw [if_pos hb] at hl ⊢;split at hl
     ·cases hl
     rename_i q hq;injection hl with hl;injection hl with h1 h2;exact ⟨by omega,q.1,by rw [Nat.add_sub_cancel,hq,←h2],by rw [hrl,←h1];simp⟩
    ·rw [hb,if_neg (by decide)] at hl ⊢;injection hl with hl;injection hl with h1 h2;exact ⟨by rw [hrl,←h1],h2⟩
   obtain ⟨b,k3,hb,hk,hn1,hn2⟩:=hnx;rw [hb,hk] at hc2;clear hb hk hl hrl ht ht1
   go_wp2_with (first|(refine oL H ?_)|(refine oP H ?_;clear H;intro w _ H)|((with_reducible refine (hc1 H.up).mono ?_);clear H;rintro e w ⟨rfl,H⟩)|((with_reducible refine (hc2 H.up).mono ?_);clear H;rintro e w ⟨rfl,H⟩)|(refine oQ H ?_;clear H;intro A' c' w _ _ H;dsimp only [List.set] at H))
   go_roundg (fu+1)
   case rel=>exact ⟨k3,done++[y1c t],b,_,_,_,by omega,rfl,by rw [Qae];rfl,by rw [Qae,Qbj];omega,hn1,hn2,hq,by rw [Qae];exact H.fin⟩
   case measure=>omega
theorem q67 (R:Tk K A n c toks): ∀(f:Nat) {k:Nat} {r:(Txt×Txt)×Nat} {w0 w:World} {M:List Ent},Hp w0 w K (rdE g A n c k::M)→typF toks f k=some r→
  Calls Tryz.prog 178 #[.pointer (some ⟨g,0,none⟩)] w fun e w'=>e= .returned (typV r.1)∧Hp w0 w' K (rdE g A n c r.2::M):=by
 intro f
 induction f with
 |zero=>intro k r w0 w M H hr;rw [typF] at hr;cases hr
 |succ f ih=>
 intro k r w0 w M H hr;have hlen:=R.len;rw [typF,hlen] at hr;split at hr
 ·cases hr
 rename_i t ht;have hc:=fun {w M} (h:Hp w0 w K (rdE g A n c k::M))=>y0x h R ht [91] (s:=⟨#[91]⟩);obtain ⟨b,hb⟩: ∃b,isF t [91]=b:=⟨_,rfl⟩;rw [hb] at hr hc;clear hb
 cases b with
 |true=>
  rw [if_pos rfl] at hr hc;split at hr
  ·cases hr
  rename_i q hq;split at hr
  ·cases hr
  rename_i t1 ht1;split at hr
  case isFalse=>cases hr
  rename_i hle;obtain ⟨⟨an,bw0⟩,k1⟩:=q;have hc1:=fun {w M} (h:Hp w0 w K (rdE g A n c k1::M))=>y0x h R ht1 [93] (s:=⟨#[93]⟩);dsimp only at hr hc1 hle;obtain ⟨kt,hkt⟩: ∃x,(if isF t1 [93]=true then k1+1 else k1)=x:=⟨_,rfl⟩;rw [hkt] at hr hc1;have hih:=fun {w M} (h:Hp w0 w K (rdE g A n c (k+1)::M))=>ih h hq;have hsz:=y17 bw0;have HR:=hide hr;have hN:=hide (z0h bw0 93);clear hr ht ht1 hq hkt ih;go_enter Tryz.func178,Tryz.ntmps178
  go_upto_region 8 with (first|(refine oL H ?_)|(refine oP H ?_;clear H;intro w _ H)|((with_reducible refine (hc H.up).mono ?_);clear H;rintro e w ⟨rfl,H⟩)|((with_reducible refine (hih H.up).mono ?_);clear H;rintro e w ⟨rfl,H⟩)|((with_reducible refine (hc1 H.up).mono ?_);clear H;rintro e w ⟨rfl,H⟩))
  rw [hN.out] at H;have hbg:=HR.out;clear HR hN hc hc1 hih hsz;generalize bw0++[93]=bw at hbg H;unfold z2j at hbg;split at hbg
  case isFalse=>cases hbg
  rename_i hle;split at hbg
  ·cases hbg
  rename_i t3 ht3;have hsz:=y17 bw;obtain ⟨b,hb⟩: ∃b,isF t3 [33]=b:=⟨_,rfl⟩;have hc:=y0x H.up R ht3 [33] (s:=⟨#[33]⟩);rw [hb] at hbg hc;clear hb;have hN:=hide (z0h bw 33)
  cases b with
  |true=>
   rw [if_pos rfl] at hbg hc;injection hbg with hbg;subst hbg
   go_wp2_with (first|(refine oL H ?_)|(refine oP H ?_;clear H;intro w _ H)|((with_reducible refine hc.mono ?_);clear hc H;rintro e w ⟨rfl,H⟩))
   rw [hN.out] at H;refine oB H ?_;exact ⟨rfl,H.fin⟩
  |false=>
   rw [if_neg (by decide)] at hbg hc;injection hbg with hbg;subst hbg
   go_wp2_with (first|(refine oL H ?_)|(refine oP H ?_;clear H;intro w _ H)|((with_reducible refine hc.mono ?_);clear hc H;rintro e w ⟨rfl,H⟩))
   refine oB H ?_;exact ⟨rfl,H.fin⟩
 |false=>
  rw [if_neg (by decide)] at hr hc;have hc1:=fun {w M} (h:Hp w0 w K (rdE g A n c k::M))=>z3w h R ht;obtain ⟨kt,hkt⟩: ∃x,y0g n k=x:=⟨_,rfl⟩;rw [hkt] at hr hc1;obtain ⟨kind,line,col,start,stop,an,value⟩:=t;have HR:=hide hr;clear hr ht hkt ih;go_enter Tryz.func178,Tryz.ntmps178
  go_upto_region 8 with (first|(refine oL H ?_)|(refine oP H ?_;clear H;intro w _ H)|((with_reducible refine (hc H.up).mono ?_);clear H;rintro e w ⟨rfl,H⟩)|((with_reducible refine (hc1 H.up).mono ?_);clear H;rintro e w ⟨rfl,H⟩))
  have hbg:=HR.out;clear HR hc hc1;obtain ⟨bw,hbw⟩: ∃x:Txt,x=[]:=⟨_,rfl⟩;rw [←hbw] at hbg;rw [show (⟨#[]⟩:ByteArray)=str bw by rw [hbw];rfl] at H;clear hbw;unfold z2j at hbg;split at hbg
  case isFalse=>cases hbg
  rename_i hle;split at hbg
  ·cases hbg
  rename_i t3 ht3;have hsz:=y17 bw;obtain ⟨b,hb⟩: ∃b,isF t3 [33]=b:=⟨_,rfl⟩;have hc:=y0x H.up R ht3 [33] (s:=⟨#[33]⟩);rw [hb] at hbg hc;clear hb;have hN:=hide (z0h bw 33)
  cases b with
  |true=>
   rw [if_pos rfl] at hbg hc;injection hbg with hbg;subst hbg
   go_wp2_with (first|(refine oL H ?_)|(refine oP H ?_;clear H;intro w _ H)|((with_reducible refine hc.mono ?_);clear hc H;rintro e w ⟨rfl,H⟩))
   rw [hN.out] at H;refine oB H ?_;exact ⟨rfl,H.fin⟩
  |false=>
   rw [if_neg (by decide)] at hbg hc;injection hbg with hbg;subst hbg
   go_wp2_with (first|(refine oL H ?_)|(refine oP H ?_;clear H;intro w _ H)|((with_reducible refine hc.mono ?_);clear hc H;rintro e w ⟨rfl,H⟩))
   refine oB H ?_;exact ⟨rfl,H.fin⟩
end
set_option maxHeartbeats 4000000 in
theorem x6f (word:Txt) (w:World):
  Calls Tryz.prog 147 #[.string (str word)] w fun e w'=>e= .returned (.int .i64 (y43 word))∧Below w.heap.size w w':=by
 have hdef:z5r word ((y3w kindsT).drop 0) 0=y43 word:=rfl;obtain ⟨r,hr⟩: ∃r,y43 word=r:=⟨_,rfl⟩;rw [hr] at hdef ⊢;have HD:=hide hdef;clear hdef hr;go_enter Tryz.func147,Tryz.ntmps147
 go_wp2_with fail
 refine (z28 kindsT _ (by decide)).mono ?_;rintro e w1 ⟨v1,vs,rfl,hrow,hb1⟩;obtain ⟨A1,c1,rfl,_,hc1⟩:=y0e hrow.own;obtain ⟨A',c',vs',he,_,_,hrl,hrd⟩:=y0k hrow.list;injection he with e1 e2 e3;subst e1 e3;obtain ⟨n,hn⟩: ∃n,(y3w kindsT).length=n:=⟨_,rfl⟩
 have hn63:n≤1000:=by have:=(y94 kindsT (kindsT.length+1)).2;have e:kindsT.length=55:=rfl;unfold y3w at hn;omega
 have hdef:=HD.out;obtain ⟨l,hl⟩: ∃l,y3w kindsT=l:=⟨_,rfl⟩;rw [hl] at hrl hn hdef;rw [hl,hn];have HN:=hide hn;have HD:=hide hdef;clear hn hl hdef
 go_wp2_with fail
 go_loop [4] (fun i=>∃k:Nat,k≤n∧i= .int .i64 k∧Hid (z5r word (l.drop k) k=r)) (fun i=>n - (intOf i).toNat)
 case atStart=>exact ⟨0,Qak _,rfl,HD⟩
 case round=>
  obtain ⟨k,hk,rfl,hno⟩:=hrel;by_cases hlt:k<n
  ·have hkI:(k:Int)<(n:Int):=by omega
   obtain ⟨x,hx⟩: ∃x,l[k]?=some x:=⟨_,Qad (by rw [HN.out];exact hlt)⟩;obtain ⟨ad,rfl,c0⟩:=z11 hrl hrd hx;have hnx:=hno.out;obtain ⟨hk',hxe⟩:=Qac.1 hx;rw [Qa1 hk',hxe,z5r] at hnx;by_cases heq:x=word
   ·have e1:((str x).toList==(str word).toList)=true:=by rw [y5e];exact Qa5 heq
    rw [if_pos heq] at hnx;have HR:=hide hnx;clear heq hnx hx hxe hk'
    go_wp2_with fail
    go_ret;exact ⟨by rw [←HR.out];rfl,hb1⟩
   ·have e1:((str x).toList==(str word).toList)=false:=by rw [y5e];exact Qa4 heq
    rw [if_neg heq] at hnx;have HR:=hide hnx;clear heq hnx hx hxe hk'
    go_wp2_with fail
    go_round
    case rel=>exact ⟨k+1,by omega,by go_num,HR⟩
    case measure=>simp [intOf];omega
  ·obtain rfl:k=n:=by omega
   have hnx:=hno.out;rw [Qbo (by rw [HN.out];exact Qab _),z5r] at hnx;have HR:=hide hnx;clear hnx
   go_wp2_with fail
   go_ret;exact ⟨by rw [←HR.out];rfl,hb1⟩
theorem x9u {w0 w K:World} {M:List Ent} (H:Hp w0 w K M) (word:Txt):Calls Tryz.prog 147 #[.string (str word)] w fun e w'=>e= .returned (.int .i64 (y43 word))∧Hp w0 w' K M:=
 (x6f word w).mono fun e w' ⟨he,hb⟩=>⟨he,H.below hb⟩
section
variable {w0 w K : World} {M : List Ent} {g : Nat} {A : Option Addr} {n c k : Nat} {toks : List TokD} {t : TokD}
theorem q8g (H:Hp w0 w K M) (t:TokD):
  Calls Tryz.prog 198 #[tokV t] w fun e w'=>e= .returned (.agg #[.int .i64 (z65 t).1,.string (str (z65 t).2),.bool false,.slice none 0 0,.slice none 0 0,.int .i64 t.line,.int .i64 t.col])∧Hp w0 w' K M:=by
 obtain ⟨kind,line,col,start,stop,text,value⟩:=t;obtain ⟨d,hd⟩: ∃d,z65 ⟨kind,line,col,start,stop,text,value⟩=d:=⟨_,rfl⟩;rw [hd];unfold z65 at hd;dsimp only at hd ⊢;have q1:=y0m text [116,114,117,101];have q2:=y0m text [102,97,108,115,101];have q3:=y0m text [110,117,108,108];split at hd
 ·rename_i c1;rw [Qa5 c1] at q1;clear c1 q2 q3;subst hd;go_enter Tryz.func198,Tryz.ntmps198
  go_wp2_with (first|(refine oL H ?_)|(refine oP H ?_;clear H;intro w _ H))
  refine oB H ?_;exact ⟨rfl,H.fin⟩
 rename_i c1;rw [Qa4 c1] at q1;clear c1;split at hd
 ·rename_i c2;rw [Qa5 c2] at q2;clear c2 q3;subst hd;go_enter Tryz.func198,Tryz.ntmps198
  go_wp2_with (first|(refine oL H ?_)|(refine oP H ?_;clear H;intro w _ H))
  refine oB H ?_;exact ⟨rfl,H.fin⟩
 rename_i c2;rw [Qa4 c2] at q2;clear c2;split at hd
 ·rename_i c3;rw [Qa5 c3] at q3;clear c3;subst hd;go_enter Tryz.func198,Tryz.ntmps198
  go_wp2_with (first|(refine oL H ?_)|(refine oP H ?_;clear H;intro w _ H))
  refine oB H ?_;exact ⟨rfl,H.fin⟩
 rename_i c3;rw [Qa4 c3] at q3;clear c3;subst hd;go_enter Tryz.func198,Tryz.ntmps198
 go_wp2_with (first|(refine oL H ?_)|(refine oP H ?_;clear H;intro w _ H))
 refine oB H ?_;exact ⟨rfl,H.fin⟩
theorem q68 (L:Nat) (hL:L≤9000000): ∀(f k:Nat) (r:LitD×Nat) (w0 w K:World) (M:List Ent),Hp w0 w K (rdE g A n c k::M)→Tk K A n c toks→litF toks L f k=some r→
  Calls Tryz.prog 179 #[.pointer (some ⟨g,0,none⟩)] w fun e w'=>∃K' cs,e= .returned (.agg cs)∧Sat K' K∧Hp w0 w' K' (rdE g A n c r.2::M)∧RL K' (litL r.1) cs.toList:=by
 intro f
 induction f with
 |zero=>intro k r w0 w K M H R hr;rw [litF] at hr;cases hr
 |succ f ih=>
 intro k r w0 w K M H R hr;have hlen:=R.len;rw [litF] at hr;simp only [Qag] at hr;obtain ⟨t,ht,hr⟩:=hr;rw [hlen] at hr;have hc:=fun {w M} (h:Hp w0 w K (rdE g A n c k::M))=>z3w h R ht;generalize y0g n k=k1 at hr hc;clear ht;have hcw:=fun {w M} (h:Hp w0 w K M)=>q8g h t;obtain ⟨kind,line,col,start,stop,text,value⟩:=t;dsimp only at hr;have HIH:=hide ih;clear ih;split at hr
 ·rename_i k3;injection hr with hr;subst k3 hr;go_enter Tryz.func179,Tryz.ntmps179
  go_wp2_with (first|(refine oL H ?_)|(refine oP H ?_;clear H;intro w _ H)|((with_reducible refine (hc H.up).mono ?_);clear H;rintro e w ⟨rfl,H⟩)|((with_reducible refine (hcw H).mono ?_);clear H;rintro e w ⟨rfl,H⟩))
  refine oB H ?_;exact ⟨K,_,rfl,Sat.refl _,H.fin,y3o (Dat.nil (Qab _)) (Dat.nil (Qab _))⟩
 rename_i k3
 have b3:((kind:Int)==3)=false:=by rw [Qa3];exact k3
 clear k3 hcw;split at hr
 ·rename_i k4;injection hr with hr;subst k4 hr;go_enter Tryz.func179,Tryz.ntmps179
  go_wp2_with (first|(refine oL H ?_)|(refine oP H ?_;clear H;intro w _ H)|((with_reducible refine (hc H.up).mono ?_);clear H;rintro e w ⟨rfl,H⟩))
  refine oB H ?_;exact ⟨K,_,rfl,Sat.refl _,H.fin,y3o (Dat.nil (Qab _)) (Dat.nil (Qab _))⟩
 rename_i k4
 have b4:((kind:Int)==4)=false:=by rw [Qa3];exact k4
 clear k4;split at hr
 ·rename_i k5;injection hr with hr;subst k5 hr;go_enter Tryz.func179,Tryz.ntmps179
  go_wp2_with (first|(refine oL H ?_)|(refine oP H ?_;clear H;intro w _ H)|((with_reducible refine (hc H.up).mono ?_);clear H;rintro e w ⟨rfl,H⟩))
  refine oB H ?_;exact ⟨K,_,rfl,Sat.refl _,H.fin,y3o (Dat.nil (Qab _)) (Dat.nil (Qab _))⟩
 rename_i k5
 have b5:((kind:Int)==5)=false:=by rw [Qa3];exact k5
 clear k5;split at hr
 ·rename_i k67;injection hr with hr;subst hr;rcases k67 with k6|k7
  ·subst k6;go_enter Tryz.func179,Tryz.ntmps179
   go_wp2_with (first|(refine oL H ?_)|(refine oP H ?_;clear H;intro w _ H)|((with_reducible refine (hc H.up).mono ?_);clear H;rintro e w ⟨rfl,H⟩))
   refine oB H ?_;exact ⟨K,_,rfl,Sat.refl _,H.fin,y3o (Dat.nil (Qab _)) (Dat.nil (Qab _))⟩
  ·subst k7;go_enter Tryz.func179,Tryz.ntmps179
   go_wp2_with (first|(refine oL H ?_)|(refine oP H ?_;clear H;intro w _ H)|((with_reducible refine (hc H.up).mono ?_);clear H;rintro e w ⟨rfl,H⟩))
   refine oB H ?_;exact ⟨K,_,rfl,Sat.refl _,H.fin,y3o (Dat.nil (Qab _)) (Dat.nil (Qab _))⟩
 rename_i k67
 have b6:((kind:Int)==6)=false:=by rw [Qa3];exact fun e=>k67 (.inl e)
 have b7:((kind:Int)==7)=false:=by rw [Qa3];exact fun e=>k67 (.inr e)
 clear k67;have q1:=y0m text [91];split at hr
 ·rename_i hb;rw [Qa5 hb] at q1;simp only [Qag] at hr;obtain ⟨⟨items,k9⟩,hgo,hr⟩:=hr;injection hr with hr;subst hr;have HGO:=hide hgo;clear hb hgo;go_enter Tryz.func179,Tryz.ntmps179
  go_wp2_with (first|(refine oL H ?_)|(refine oA 2 H ?_;clear H;intro w gz H)|(refine oA 4 H ?_;clear H;intro w gl H)|(refine oP H ?_;clear H;intro w _ H)|((with_reducible refine (hc H.up).mono ?_);clear H;rintro e w ⟨rfl,H⟩))
  clear hc;replace H:Hp _ _ _ (.box gl _ _:: .box gz _ _::rdE g A n c _::M):=H.fin;replace H:=H.nilRow 121 7
  go_loopg [] L (fun fu wr=>∃(K':World) (k:Nat) (done:List LitD) (A':Option Addr) (c':Nat) (vs:List Value),fu≤L∧done.length+fu=L∧Hid (∃l,y4n toks (litF toks L f) fu k=some (l,k9)∧items=done++l)∧Sat K' K∧RL K' (litsL done) vs∧
   Hp w0 wr K' (.row 121 7 (.slice A' done.length c') done.length vs:: .box gl [.int .i64 8,.string ⟨#[]⟩,.bool false,.slice A' done.length c',.slice none 0 0,.int .i64 line,.int .i64 col] 121:: .box gz [.int .i64 0,.string ⟨#[]⟩,.bool false,.slice none 0 0,.slice none 0 0,.int .i64 0,.int .i64 0] 121::rdE g A n c k::M))
  case atStart=>exact ⟨K,k1,[],none,0,[],Qab _,Nat.zero_add _,⟨items,HGO.out,rfl⟩,Sat.refl _,.nil (Qab _),H⟩
  case round=>
   clear H;obtain ⟨K',k,done,A',c',vs,hfu,hdl,hl,hle,hvs,H⟩:=hrel;replace R:=R.sat hle;obtain ⟨l,hl,hrl⟩:=hl.out
   cases gk with
   |zero=>cases hl
   |succ fu=>
   unfold y4n at hl;simp only [Qag] at hl;obtain ⟨t2,ht2,hl⟩:=hl;have hc:=fun {w M} (h:Hp w0 w K' (rdE g A n c k::M))=>y0x h R ht2 [93] (s:=⟨#[93]⟩);obtain ⟨b,hb⟩: ∃b,isF t2 [93]=b:=⟨_,rfl⟩;rw [hb] at hc hl;clear hb ht2
   cases b with
   |true=>
    rw [if_pos rfl] at hl hc;injection hl with hl;injection hl with h1 h2;subst h1 h2;rw [List.append_nil] at hrl;subst hrl
    go_wp2_with (first|(refine oL H ?_)|(refine oP H ?_;clear H;intro w _ H)|((with_reducible refine (hc H.up).mono ?_);clear H;rintro e w ⟨rfl,H⟩))
    refine oB H ?_;replace H:Hp _ _ _ (.row 121 7 _ _ _::rdE g A n c _::M):=H.fin;obtain ⟨K2,hle2,H,hd⟩:=H.freezeRow hvs;exact ⟨K2,_,rfl,hle2.trans hle,H,y3o hd (Dat.nil (Qab _))⟩
   |false=>
    rw [if_neg (by decide)] at hl hc;simp only [Qag] at hl;obtain ⟨⟨d,k5⟩,hq,r2,hr2,hl⟩:=hl;injection hl with hl;injection hl with h1 h2;have HNX:Hid (∃l,y4n toks (litF toks L f) fu k5=some (l,k9)∧items=(done++[d])++l):=⟨r2.1,by rw [←h2];exact hr2,by rw [hrl,←h1];simp⟩;have hih:=fun {w M} (h:Hp w0 w K' (rdE g A n c k::M))=>HIH.out k _ w0 w K' M h R hq;clear h1 h2 hr2 hrl hq
    go_wp2_with (first|(refine oL H ?_)|(refine oP H ?_;clear H;intro w _ H)|((with_reducible refine (hc H.up).mono ?_);clear hc H;rintro e w ⟨rfl,H⟩)|((with_reducible refine (hih H.up).mono ?_);clear hih H;rintro e w ⟨K2,cs,rfl,hle2,H,he⟩;obtain ⟨dk,dt,db,di,df,dln,dcl⟩:=d;obtain ⟨Ai,ci,Af,cf,hcs,-,-⟩:=y0l he;obtain rfl:cs= #[_,_,_,_,_,_,_]:=Qal.1 hcs;clear hcs)|(refine oQ H ?_;clear H;intro A' c' w _ _ H;dsimp only [List.set] at H))
    go_roundg fu
    case rel=>exact ⟨K2,k5,done++[.mk dk dt db di df dln dcl],_,_,_,by omega,by rw [Qae,Qbj];omega,HNX,hle2.trans hle,by rw [z85];exact (hvs.sat hle2).app (by simpa [litsL] using he),by rw [Qae];exact H.fin⟩
    case measure=>omega
 ·rename_i hb;rw [Qa4 hb] at q1;simp only [Qag] at hr;obtain ⟨⟨items,k9⟩,hgo,hr⟩:=hr;injection hr with hr;subst hr;have HGO:=hide hgo;clear hb hgo;go_enter Tryz.func179,Tryz.ntmps179
  go_wp2_with (first|(refine oL H ?_)|(refine oA 2 H ?_;clear H;intro w gz H)|(refine oA 6 H ?_;clear H;intro w gl H)|(refine oP H ?_;clear H;intro w _ H)|((with_reducible refine (hc H.up).mono ?_);clear H;rintro e w ⟨rfl,H⟩))
  clear hc;replace H:Hp _ _ _ (.box gl _ _:: .box gz _ _::rdE g A n c _::M):=H.fin;replace H:=H.nilRow 219 10
  go_loopg [] L (fun fu wr=>∃(K':World) (k:Nat) (done:List PairD) (A':Option Addr) (c':Nat) (vs:List Value),fu≤L∧done.length+fu=L∧Hid (∃l,y1o toks [125] (litF toks L f) fu k=some (l,k9)∧items=done++l)∧Sat K' K∧RL K' (pairsL done) vs∧
   Hp w0 wr K' (.row 219 10 (.slice A' done.length c') done.length vs:: .box gl [.int .i64 9,.string ⟨#[]⟩,.bool false,.slice none 0 0,.slice A' done.length c',.int .i64 line,.int .i64 col] 121:: .box gz [.int .i64 0,.string ⟨#[]⟩,.bool false,.slice none 0 0,.slice none 0 0,.int .i64 0,.int .i64 0] 121::rdE g A n c k::M))
  case atStart=>exact ⟨K,k1,[],none,0,[],Qab _,Nat.zero_add _,⟨items,HGO.out,rfl⟩,Sat.refl _,.nil (Qab _),H⟩
  case round=>
   clear H;obtain ⟨K',k,done,A',c',vs,hfu,hdl,hl,hle,hvs,H⟩:=hrel;replace R:=R.sat hle;obtain ⟨l,hl,hrl⟩:=hl.out
   cases gk with
   |zero=>cases hl
   |succ fu=>
   unfold y1o at hl;simp only [Qag] at hl;obtain ⟨t2,ht2,hl⟩:=hl;rw [hlen] at hl;have hc:=fun {w M} (h:Hp w0 w K' (rdE g A n c k::M))=>y0x h R ht2 [125] (s:=⟨#[125]⟩);have hc2:=fun {w M} (h:Hp w0 w K' (rdE g A n c k::M))=>y09 h R ht2;obtain ⟨b,hb⟩: ∃b,isF t2 [125]=b:=⟨_,rfl⟩;rw [hb] at hc hl;clear hb ht2
   cases b with
   |true=>
    rw [if_pos rfl] at hl hc;injection hl with hl;injection hl with h1 h2;subst h1 h2;rw [List.append_nil] at hrl;subst hrl
    go_wp2_with (first|(refine oL H ?_)|(refine oP H ?_;clear H;intro w _ H)|((with_reducible refine (hc H.up).mono ?_);clear H;rintro e w ⟨rfl,H⟩))
    refine oB H ?_;replace H:Hp _ _ _ (.row 219 10 _ _ _::rdE g A n c _::M):=H.fin;obtain ⟨K2,hle2,H,hd⟩:=H.freezeRow hvs;exact ⟨K2,_,rfl,hle2.trans hle,H,y3o (Dat.nil (Qab _)) hd⟩
   |false=>
    rw [if_neg (by decide)] at hl hc;simp only [Qag] at hl;obtain ⟨t3,ht3,⟨d,k5⟩,hq,r2,hr2,hl⟩:=hl;injection hl with hl;injection hl with h1 h2;have HNX:Hid (∃l,y1o toks [125] (litF toks L f) fu k5=some (l,k9)∧items=(done++[PairD.mk t2.text d t2.line t2.col])++l):=⟨r2.1,by rw [←h2];exact hr2,by rw [hrl,←h1];simp⟩;generalize y0g n k=k2 at hc2 ht3 hq;have hc3:=fun {w M} (h:Hp w0 w K' (rdE g A n c k2::M))=>y0x h R ht3 [58] (s:=⟨#[58]⟩);generalize (if isF t3 [58]=true then k2+1 else k2)=k3 at hc3 hq;have hih:=fun {w M} (h:Hp w0 w K' (rdE g A n c k3::M))=>HIH.out k3 _ w0 w K' M h R hq;obtain ⟨kind2,dl,dc,start2,stop2,dn,value2⟩:=t2;clear h1 h2 hr2 hrl hq ht3
    go_wp2_with (first|(refine oL H ?_)|(refine oP H ?_;clear H;intro w _ H)|((with_reducible refine (hc H.up).mono ?_);clear hc H;rintro e w ⟨rfl,H⟩)|((with_reducible refine (hc2 H.up).mono ?_);clear hc2 H;rintro e w ⟨rfl,H⟩)|((with_reducible refine (hc3 H.up).mono ?_);clear hc3 H;rintro e w ⟨rfl,H⟩)|((with_reducible refine (hih H.up).mono ?_);clear hih H;rintro e w ⟨K2,cs,rfl,hle2,H,he⟩;obtain ⟨dk,dt,db,di,df,dln,dcl⟩:=d;obtain ⟨Ai,ci,Af,cf,hcs,-,-⟩:=y0l he;obtain rfl:cs= #[_,_,_,_,_,_,_]:=Qal.1 hcs;clear hcs)|(refine oQ H ?_;clear H;intro A' c' w _ _ H;dsimp only [List.set] at H))
    have hpe:RL K2 (pairL (.mk dn (.mk dk dt db di df dln dcl) dl dc)) [.string (str dn),.int .i64 dk,.string (str dt),.bool db,.slice Ai di.length ci,.slice Af df.length cf,.int .i64 dln,.int .i64 dcl,.int .i64 dl,.int .i64 dc]:=DatL.lit (DatL.app he (DatL.lit (DatL.lit (DatL.nil he.le))))
    go_roundg fu
    case rel=>exact ⟨K2,k5,done++[.mk dn (.mk dk dt db di df dln dcl) dl dc],_,_,_,by omega,by rw [Qae,Qbj];omega,HNX,hle2.trans hle,by rw [y8h];exact (hvs.sat hle2).app (by simpa [pairsL] using hpe),by rw [Qae];exact H.fin⟩
    case measure=>omega
end
section
variable {w0 w K : World} {M : List Ent} {g : Nat} {A : Option Addr} {n c k : Nat} {toks : List TokD} {t : TokD}
theorem y89 {α:Type} {f:α→List Leaf} {d:α} {vs:List Value} (h:RL K (f d) vs):RL K ([d].flatMap f) vs:=by rw [List.flatMap_singleton];exact h
theorem y5l (L:Nat) (hL:L≤9000000) (f:Nat) {r:List DirD×Nat} (H:Hp w0 w K (rdE g A n c k::M)) (R:Tk K A n c toks) (hr:y2c toks L f k=some r):
  Calls Tryz.prog 150 #[.pointer (some ⟨g,0,none⟩)] w fun e w'=>∃K' A' c',e= .returned (.slice A' r.1.length c')∧Sat K' K∧Hp w0 w' K' (rdE g A n c r.2::M)∧RD K' (.list r.1.length (y24 r.1)) (.slice A' r.1.length c'):=by
 have hlen:=R.len;unfold y2c at hr;have HR:=hide hr;clear hr;go_enter Tryz.func150,Tryz.ntmps150
 go_wp2_with fail
 replace H:=H.nilRow 181 4
 go_loopg [3] L (fun fu v wr=>∃(K':World) (k:Nat) (done:List DirD) (A':Option Addr) (c':Nat) (vs:List Value),fu≤L∧v= .slice A' done.length c'∧done.length+fu=L∧Hid (∃l,y3p toks L f fu k=some (l,r.2)∧r.1=done++l)∧Sat K' K∧RL K' (y24 done) vs∧Hp w0 wr K' (.row 181 4 (.slice A' done.length c') done.length vs::rdE g A n c k::M))
 case atStart=>exact ⟨K,k,[],none,0,[],Qab _,rfl,Nat.zero_add _,⟨r.1,HR.out,rfl⟩,Sat.refl _,.nil (Qab _),H⟩
 case round=>
  clear H;obtain ⟨K',k,done,A',c',vs,hfu,rfl,hdl,hl,hle,hvs,H⟩:=hrel;replace R:=R.sat hle;obtain ⟨l,hl,hrl⟩:=hl.out
  cases gk with
  |zero=>cases hl
  |succ fu=>
  unfold y3p at hl;simp only [Qag] at hl;obtain ⟨t,ht,hl⟩:=hl;rw [hlen] at hl;have hc:=fun {w M} (h:Hp w0 w K' (rdE g A n c k::M))=>is_hp h R ht [64] (s:=⟨#[64]⟩);obtain ⟨b,hb⟩: ∃b,isF t [64]=b:=⟨_,rfl⟩;rw [hb] at hc hl;clear hb
  cases b with
  |false=>
   rw [if_neg (by decide)] at hl;injection hl with hl;injection hl with h1 h2;subst h1 h2;rw [List.append_nil] at hrl;subst hrl;clear ht
   go_wp2_with (first|(refine oL H ?_)|(refine oP H ?_;clear H;intro w _ H)|((with_reducible refine (hc H.up).mono ?_);clear H;rintro e w ⟨rfl,H⟩))
   go_ret;replace H:Hp _ _ _ (.row 181 4 _ _ _::rdE g A n c _::M):=H.fin;obtain ⟨K2,hle2,H,hd⟩:=H.freezeRow hvs;exact ⟨K2,_,_,rfl,hle2.trans hle,H,hd⟩
  |true=>
   rw [if_pos rfl] at hl;simp only [Qag] at hl;obtain ⟨t1,ht1,⟨args,k8⟩,hq,r2,hr2,hl⟩:=hl;injection hl with hl;injection hl with h1 h2;have HNX:Hid (∃l,y3p toks L f fu k8=some (l,r.2)∧r.1=(done++[DirD.mk t1.text args t.line t.col])++l):=⟨r2.1,by rw [←h2];exact hr2,by rw [hrl,←h1];simp⟩;have hc2:=fun {w M} (h:Hp w0 w K' (rdE g A n c k::M))=>z3w h R ht;generalize y0g n k=k1 at hc2 ht1 hq;have hc3:=fun {w M} (h:Hp w0 w K' (rdE g A n c k1::M))=>y09 h R ht1;generalize y0g n k1=k2 at hc3 hq;unfold z1e at hq;simp only [Qag] at hq;obtain ⟨t2,ht2,hq⟩:=hq;have hc4:=fun {w M} (h:Hp w0 w K' (rdE g A n c k2::M))=>y0x h R ht2 [40] (s:=⟨#[40]⟩);obtain ⟨b,hb⟩: ∃b,isF t2 [40]=b:=⟨_,rfl⟩;rw [hb] at hc4 hq;obtain ⟨kind,tl,tc,start,stop,text,value⟩:=t;obtain ⟨kind2,dl,dc,start2,stop2,dn,value2⟩:=t1;dsimp only at HNX;clear h1 h2 hr2 hrl ht ht1 ht2 hb
   cases b with
   |false=>
    rw [if_neg (by decide)] at hq hc4;injection hq with hq;injection hq with h1 h2;subst h1 h2;have hda:RD K' (.list 0 (pairsL [])) (.slice none 0 0):=Dat.nil (Qab _)
    go_wp2_with (first|(refine oL H ?_)|(refine oP H ?_;clear H;intro w _ H)|((with_reducible refine (hc H.up).mono ?_);clear H;rintro e w ⟨rfl,H⟩)|((with_reducible refine (hc2 H.up).mono ?_);clear H;rintro e w ⟨rfl,H⟩)|((with_reducible refine (hc3 H.up).mono ?_);clear H;rintro e w ⟨rfl,H⟩)|((with_reducible refine (hc4 H.up).mono ?_);clear H;rintro e w ⟨rfl,H⟩)|(refine oQ H ?_;clear H;intro A' c' w _ _ H;dsimp only [List.set] at H))
    have hde:RL K' (dirL ⟨dn,[],tl,tc⟩) [.string (str dn),.slice none 0 0,.int .i64 tl,.int .i64 tc]:=.lit (.cons hda (.lit (.lit (.nil (Qab _)))))
    go_roundg fu
    case rel=>exact ⟨K',_,done++[⟨dn,[],tl,tc⟩],_,_,_,by omega,by rw [Qae];rfl,by rw [Qae,Qbj];omega,HNX,hle,by rw [y70];exact hvs.app (y89 (f:=dirL) hde),by rw [Qae];exact H.fin⟩
    case measure=>omega
   |true=>
    rw [if_pos rfl] at hq hc4;have HQ:=hide hq;clear hq
    go_wp2_with (first|(refine oL H ?_)|(refine oA 6 H ?_;clear H;intro w gd H)|(refine oP H ?_;clear H;intro w _ H)|((with_reducible refine (hc H.up).mono ?_);clear H;rintro e w ⟨rfl,H⟩)|((with_reducible refine (hc2 H.up).mono ?_);clear H;rintro e w ⟨rfl,H⟩)|((with_reducible refine (hc3 H.up).mono ?_);clear H;rintro e w ⟨rfl,H⟩)|((with_reducible refine (hc4 H.up).mono ?_);clear H;rintro e w ⟨rfl,H⟩))
    clear hc hc2 hc3 hc4;replace H:Hp _ _ _ (.box gd _ _:: .row 181 4 _ _ _::rdE g A n c _::M):=H.fin;replace H:=H.nilRow 185 10
    go_loopg [] L (fun fv wq=>∃(K2:World) (k:Nat) (done2:List PairD) (A2:Option Addr) (c2:Nat) (vs2:List Value),fv≤L∧done2.length+fv=L∧Hid (∃l,y1o toks [41] (litF toks L f) fv k=some (l,k8)∧args=done2++l)∧Sat K2 K'∧RL K2 (pairsL done2) vs2∧
     Hp w0 wq K2 (.row 185 10 (.slice A2 done2.length c2) done2.length vs2:: .box gd [.string (str dn),.slice A2 done2.length c2,.int .i64 tl,.int .i64 tc] 181:: .row 181 4 (.slice A' done.length c') done.length vs::rdE g A n c k::M))
    case atStart=>exact ⟨K',_,[],none,0,[],Qab _,Nat.zero_add _,⟨args,HQ.out,rfl⟩,Sat.refl _,.nil (Qab _),H⟩
    case round=>
     clear H;obtain ⟨K2,k,done2,A2,c2,vs2,hfv,hdl2,hl2,hle2,hvs2,H⟩:=hrel;replace R:=R.sat hle2;obtain ⟨l2,hl2,hrl2⟩:=hl2.out
     cases gk with
     |zero=>cases hl2
     |succ fv=>
     unfold y1o at hl2;simp only [Qag] at hl2;obtain ⟨t2,ht2,hl2⟩:=hl2;rw [hlen] at hl2;have hc:=fun {w M} (h:Hp w0 w K2 (rdE g A n c k::M))=>y0x h R ht2 [41] (s:=⟨#[41]⟩);have hc2:=fun {w M} (h:Hp w0 w K2 (rdE g A n c k::M))=>y09 h R ht2;obtain ⟨b,hb⟩: ∃b,isF t2 [41]=b:=⟨_,rfl⟩;rw [hb] at hc hl2;clear hb ht2
     cases b with
     |true=>
      rw [if_pos rfl] at hl2 hc;injection hl2 with hl2;injection hl2 with h1 h2;subst h1 h2;rw [List.append_nil] at hrl2;subst hrl2
      go_wp2_with (first|((with_reducible refine (hc H.up).mono ?_);clear hc H;rintro e w ⟨rfl,H⟩;replace H:Hp _ _ _ (.row 185 10 _ _ _:: .box gd _ _:: .row 181 4 _ _ _::rdE g A n c _::M):=H.fin;obtain ⟨K3,hle3,H,hda⟩:=H.freezeRow hvs2)|(refine oL H ?_)|(refine oP H ?_;clear H;intro w _ H)|(refine oQ H ?_;clear H;intro A' c' w _ _ H;dsimp only [List.set] at H))
      have hde:RL K3 (dirL ⟨dn,args,tl,tc⟩) [.string (str dn),.slice A2 args.length c2,.int .i64 tl,.int .i64 tc]:=.lit (.cons hda (.lit (.lit (.nil (Qab _)))))
      go_roundg fu
      case rel=>exact ⟨K3,_,done++[⟨dn,args,tl,tc⟩],_,_,_,by omega,by rw [Qae];rfl,by rw [Qae,Qbj];omega,HNX,(hle3.trans (hle2.trans hle)),by rw [y70];exact (hvs.sat (hle3.trans hle2)).app (y89 (f:=dirL) hde),by rw [Qae];exact H.fin⟩
      case measure=>omega
     |false=>
      rw [if_neg (by decide)] at hl2 hc;simp only [Qag] at hl2;obtain ⟨t3,ht3,⟨d,k5⟩,hq,r2,hr2,hl2⟩:=hl2;injection hl2 with hl2;injection hl2 with h1 h2;have HNY:Hid (∃l,y1o toks [41] (litF toks L f) fv k5=some (l,k8)∧args=(done2++[PairD.mk t2.text d t2.line t2.col])++l):=⟨r2.1,by rw [←h2];exact hr2,by rw [hrl2,←h1];simp⟩;generalize y0g n k=k2 at hc2 ht3 hq;have hc3:=fun {w M} (h:Hp w0 w K2 (rdE g A n c k2::M))=>y0x h R ht3 [58] (s:=⟨#[58]⟩);generalize (if isF t3 [58]=true then k2+1 else k2)=k3 at hc3 hq;have hih:=fun {w M} (h:Hp w0 w K2 (rdE g A n c k3::M))=>q68 L hL f k3 _ w0 w K2 M h R hq;obtain ⟨kind2,pl,pc,start2,stop2,pn,value2⟩:=t2;clear h1 h2 hr2 hrl2 hq ht3
      go_wp2_with (first|(refine oL H ?_)|(refine oP H ?_;clear H;intro w _ H)|((with_reducible refine (hc H.up).mono ?_);clear H;rintro e w ⟨rfl,H⟩)|((with_reducible refine (hc2 H.up).mono ?_);clear H;rintro e w ⟨rfl,H⟩)|((with_reducible refine (hc3 H.up).mono ?_);clear H;rintro e w ⟨rfl,H⟩)|((with_reducible refine (hih H.up).mono ?_);clear H;rintro e w ⟨K4,cs,rfl,hle4,H,he⟩;obtain ⟨dk,dt,db,di,df,dln,dcl⟩:=d;obtain ⟨Ai,ci,Af,cf,hcs,-,-⟩:=y0l he;obtain rfl:cs= #[_,_,_,_,_,_,_]:=Qal.1 hcs;clear hcs)|(refine oQ H ?_;clear H;intro A' c' w _ _ H;dsimp only [List.set] at H))
      have hpe:RL K4 (pairL (.mk pn (.mk dk dt db di df dln dcl) pl pc)) [.string (str pn),.int .i64 dk,.string (str dt),.bool db,.slice Ai di.length ci,.slice Af df.length cf,.int .i64 dln,.int .i64 dcl,.int .i64 pl,.int .i64 pc]:=DatL.lit (DatL.app he (DatL.lit (DatL.lit (DatL.nil he.le))))
      go_roundg fv
      case rel=>exact ⟨K4,k5,done2++[.mk pn (.mk dk dt db di df dln dcl) pl pc],_,_,_,by omega,by rw [Qae,Qbj];omega,HNY,hle4.trans hle2,by rw [y8h];exact (hvs2.sat hle4).app (by simpa [pairsL] using hpe),by rw [Qae];exact H.fin⟩
      case measure=>omega
end
section
variable {w0 w K : World} {M : List Ent} {g : Nat} {A : Option Addr} {n c k : Nat} {toks : List TokD} {t : TokD}
theorem z3x (L:Nat) (hL:L≤9000000) (f:Nat) (fr too:Txt) {s1 s2:ByteArray} {r:List InputD×Nat} (H:Hp w0 w K (rdE g A n c k::M)) (R:Tk K A n c toks) (hr:y1x toks fr too L f k=some r) (hs1:str fr=s1:=by with_unfolding_all rfl) (hs2:str too=s2:=by with_unfolding_all rfl):
  Calls Tryz.prog 148 #[.pointer (some ⟨g,0,none⟩),.string s1,.string s2] w fun e w'=>∃K' A' c',e= .returned (.slice A' r.1.length c')∧Sat K' K∧Hp w0 w' K' (rdE g A n c r.2::M)∧RD K' (.list r.1.length (y0o r.1)) (.slice A' r.1.length c'):=by
 subst hs1 hs2;obtain ⟨items,k9⟩:=r;have hlen:=R.len;unfold y1x at hr;simp only [Qag] at hr;obtain ⟨t,ht,hr⟩:=hr;have hc:=y0x H R ht fr;obtain ⟨b,hb⟩: ∃b,isF t fr=b:=⟨_,rfl⟩;rw [hb] at hr hc;clear hb ht
 cases b with
 |false=>
  rw [if_neg (by decide)] at hr hc;injection hr with hr;injection hr with h1 h2;subst h1 h2;go_enter Tryz.func148,Tryz.ntmps148
  go_wp2_with (refine hc.mono ?_;clear hc H;rintro e w ⟨rfl,H⟩)
  go_ret;exact ⟨K,_,_,rfl,Sat.refl _,H,Dat.nil (Qab _)⟩
 |true=>
 rw [if_pos rfl] at hr hc;have HR:=hide hr;clear hr;go_enter Tryz.func148,Tryz.ntmps148
 go_wp2_with (refine hc.mono ?_;clear hc H;rintro e w ⟨rfl,H⟩)
 replace H:=H.nilRow 123 17
 go_loopg [7] L (fun fu v wr=>∃(K':World) (k:Nat) (done:List InputD) (A':Option Addr) (c':Nat) (vs:List Value),fu≤L∧v= .slice A' done.length c'∧done.length+fu=L∧Hid (∃l,y1v toks too L f fu k=some (l,k9)∧items=done++l)∧Sat K' K∧RL K' (y0o done) vs∧Hp w0 wr K' (.row 123 17 (.slice A' done.length c') done.length vs::rdE g A n c k::M))
 case atStart=>exact ⟨K,k+1,[],none,0,[],Qab _,rfl,Nat.zero_add _,⟨items,HR.out,rfl⟩,Sat.refl _,.nil (Qab _),H⟩
 case round=>
  clear H;obtain ⟨K',k,done,A',c',vs,hfu,rfl,hdl,hl,hle,hvs,H⟩:=hrel;replace R:=R.sat hle;obtain ⟨l,hl,hrl⟩:=hl.out
  cases gk with
  |zero=>cases hl
  |succ fu=>
  unfold y1v at hl;simp only [Qag] at hl;obtain ⟨t,ht,hl⟩:=hl;have hc:=fun {w M} (h:Hp w0 w K' (rdE g A n c k::M))=>y0x h R ht too;obtain ⟨b,hb⟩: ∃b,isF t too=b:=⟨_,rfl⟩;rw [hb] at hc hl;clear hb ht
  cases b with
  |true=>
   rw [if_pos rfl] at hl hc;injection hl with hl;injection hl with h1 h2;subst h1 h2;rw [List.append_nil] at hrl;subst hrl
   go_wp2_with ((with_reducible refine (hc H.up).mono ?_);clear hc H;rintro e w ⟨rfl,H⟩)
   go_ret;replace H:Hp _ _ _ (.row 123 17 _ _ _::rdE g A n c _::M):=H.fin;obtain ⟨K2,hle2,H,hd⟩:=H.freezeRow hvs;exact ⟨K2,_,_,rfl,hle2.trans hle,H,hd⟩
  |false=>
   rw [if_neg (by decide)] at hl hc;simp only [Qag] at hl;obtain ⟨⟨d,kn⟩,hq,r2,hr2,hl⟩:=hl;injection hl with hl;injection hl with h1 h2;have HNX:Hid (∃l,y1v toks too L f fu kn=some (l,k9)∧items=(done++[d])++l):=⟨r2.1,by rw [←h2];exact hr2,by rw [hrl,←h1];simp⟩;clear h1 h2 hr2 hrl;obtain ⟨⟨⟨nh,nb,nt⟩,k0⟩,t0,t1,⟨tn,tw⟩,k3,t3,⟨q,k4⟩,q1,q2,q3,q4,q5,q6,q7,q8⟩:=x1o hq;rw [hlen] at q3 q4;obtain ⟨ds,hds0⟩: ∃ds,d.dirs=ds:=⟨_,rfl⟩;rw [hds0] at q7 q8;clear hq hds0;have c1:=fun {w M} (h:Hp w0 w K' (rdE g A n c k::M))=>y4w h R q1;have c2:=fun {w M} (h:Hp w0 w K' (rdE g A n c k0::M))=>y09 h R q2;dsimp only at q3 q4 q6 q7;generalize y0g n k0=k1 at c2 q3 q4;have c3:=fun {w M} (h:Hp w0 w K' (rdE g A n c k1::M))=>y0x h R q3 [58] (s:=⟨#[58]⟩);generalize (if isF t1 [58]=true then k1+1 else k1)=k2 at c3 q4;have c4:=fun {w M} (h:Hp w0 w K' (rdE g A n c k2::M))=>q67 R f h q4;have c5:=fun {w M} (h:Hp w0 w K' (rdE g A n c k3::M))=>y0x h R q5 [61] (s:=⟨#[61]⟩);obtain ⟨kind0,dl,dc,start,stop,dn,value⟩:=t0;obtain ⟨b,hb⟩: ∃b,isF t3 [61]=b:=⟨_,rfl⟩;rw [hb] at c5 q6 q8;obtain ⟨dk,dt,db,di,df,dln,dcl⟩:=q;subst q8;clear q1 q2 q3 q4 q5 hb
   cases b with
   |false=>
    rw [if_neg (by decide)] at q6 c5;injection q6 with q6;injection q6 with h1 h2;injection h1 with z1 z2 z3 z4 z5 z6 z7;subst z1 z2 z3 z4 z5 z6 z7 h2;have he:RL K' (litL (.mk 0 [] false [] [] 0 0)) [.int .i64 0,.string ⟨#[]⟩,.bool false,.slice none 0 0,.slice none 0 0,.int .i64 0,.int .i64 0]:=y3o (Dat.nil (Qab _)) (Dat.nil (Qab _));have hle4:=Sat.refl K';have c7:=fun {w M} (h:Hp w0 w K' (rdE g A n c k3::M))=>y5l L hL f h R q7;obtain ⟨K4,hK4⟩: ∃x,K'=x:=⟨_,rfl⟩
    go_wp2_with (first|(refine oL H ?_)|(refine oP H ?_;clear H;intro w _ H)|((with_reducible refine (hc H.up).mono ?_);clear H;rintro e w ⟨rfl,H⟩)|((with_reducible refine (c1 H.up).mono ?_);clear H;rintro e w ⟨rfl,H⟩)|((with_reducible refine (c2 H.up).mono ?_);clear H;rintro e w ⟨rfl,H⟩)|((with_reducible refine (c3 H.up).mono ?_);clear H;rintro e w ⟨rfl,H⟩)|((with_reducible refine (c4 H.up).mono ?_);clear H;rintro e w ⟨rfl,H⟩)|((with_reducible refine (c5 H.up).mono ?_);clear H;rintro e w ⟨rfl,H⟩)|((with_reducible refine (c7 H.up).mono ?_);clear H;rintro e w ⟨K5,Ad,cd,rfl,hle5,H,hds⟩)|(refine oQ H ?_;clear H;intro A' c' w _ _ H;dsimp only [List.set] at H))
    have hpe:=z1f (nh:=nh) (nb:=nb) (nt:=nt) (dn:=dn) (tn:=tn) (tw:=tw) (dh:=false) (dl:=dl) (dc:=dc) (he.sat hle5) hds
    go_roundg fu
    case rel=>exact ⟨K5,kn,done++[⟨⟨nh,nb,nt⟩,dn,(tn,tw),false,litZ,ds,dl,dc⟩],_,_,_,by omega,by rw [Qae];rfl,by rw [Qae,Qbj];omega,HNX,hle5.trans (hle4.trans hle),by rw [y6x];exact (hvs.sat (hle5.trans hle4)).app (y89 (f:=y4m) hpe),by rw [Qae];exact H.fin⟩
    case measure=>omega
   |true=>
    rw [if_pos rfl] at q6 c5;have c6:=fun {w M} (h:Hp w0 w K' (rdE g A n c (k3+1)::M))=>q68 L hL f _ _ w0 w K' M h R q6;have c7:=fun {w K' M} (h:Hp w0 w K' (rdE g A n c k4::M)) (R:Tk K' A n c toks)=>y5l L hL f h R q7
    go_wp2_with (first|(refine oL H ?_)|(refine oP H ?_;clear H;intro w _ H)|((with_reducible refine (hc H.up).mono ?_);clear H;rintro e w ⟨rfl,H⟩)|((with_reducible refine (c1 H.up).mono ?_);clear H;rintro e w ⟨rfl,H⟩)|((with_reducible refine (c2 H.up).mono ?_);clear H;rintro e w ⟨rfl,H⟩)|((with_reducible refine (c3 H.up).mono ?_);clear H;rintro e w ⟨rfl,H⟩)|((with_reducible refine (c4 H.up).mono ?_);clear H;rintro e w ⟨rfl,H⟩)|((with_reducible refine (c5 H.up).mono ?_);clear H;rintro e w ⟨rfl,H⟩)|((with_reducible refine (c6 H.up).mono ?_);clear H;rintro e w ⟨K4,cs,rfl,hle4,H,he⟩;obtain ⟨Ai,ci,Af,cf,hcs,-,-⟩:=y0l he;obtain rfl:cs= #[_,_,_,_,_,_,_]:=Qal.1 hcs;clear hcs;replace R:=R.sat hle4)|((with_reducible refine (c7 H.up R).mono ?_);clear H;rintro e w ⟨K5,Ad,cd,rfl,hle5,H,hds⟩)|(refine oQ H ?_;clear H;intro A' c' w _ _ H;dsimp only [List.set] at H))
    have hpe:=z1f (nh:=nh) (nb:=nb) (nt:=nt) (dn:=dn) (tn:=tn) (tw:=tw) (dh:=true) (dl:=dl) (dc:=dc) (he.sat hle5) hds
    go_roundg fu
    case rel=>exact ⟨K5,kn,done++[⟨⟨nh,nb,nt⟩,dn,(tn,tw),true,.mk dk dt db di df dln dcl,ds,dl,dc⟩],_,_,_,by omega,by rw [Qae];rfl,by rw [Qae,Qbj];omega,HNX,hle5.trans (hle4.trans hle),by rw [y6x];exact (hvs.sat (hle5.trans hle4)).app (y89 (f:=y4m) hpe),by rw [Qae];exact H.fin⟩
    case measure=>omega
end
abbrev defU (u0 u1 u2 u3 u4 u5 u6 u7 u8 u9 u10 u11 u12 u13 u14 u15 u16:Value):List Value:=[u0,u1,u2,u3,u4,u5,u6,u7,u8,u9,u10,u11,u12,u13,u14,u15,u16]
section
variable {w0 w K : World} {M : List Ent} {g gd : Nat} {A : Option Addr} {n c k : Nat} {toks : List TokD} {t : TokD}
variable {kind : Int} {u1 u2 u3 u4 u5 u6 u7 u8 u9 u10 u11 u12 u13 u14 u15 u16 : Value} {A' : Option Addr} {c' : Nat} {vs : List Value} {L f : Nat}
theorem y8l (hk1:((kind:Int)==1)=false) (hk6:((kind:Int)==6)=false) {done:List FieldD} (hvs:RL K (y0u done) vs) (hL:L≤9000000) (hdl:done.length≤L) {r:FieldD×Nat} (hr:y2y toks L f k=some r) (R:Tk K A n c toks)
  (H:Hp w0 w K (.row 52 10 (.slice A' done.length c') done.length vs:: .box gd (defU (.int .i64 kind) u1 u2 u3 u4 u5 u6 u7 (.slice A' done.length c') u9 u10 u11 u12 u13 u14 u15 u16) 43::rdE g A n c k::M)):
  Calls Tryz.prog 180 #[.pointer (some ⟨g,0,none⟩),.pointer (some ⟨gd,0,none⟩)] w fun e w'=>∃K' A2 c2 vs',e= .returned (.tuple #[])∧Sat K' K∧RL K' (y0u (done++[r.1])) vs'∧Hp w0 w' K' (.row 52 10 (.slice A2 (done++[r.1]).length c2) (done++[r.1]).length vs':: .box gd (defU (.int .i64 kind) u1 u2 u3 u4 u5 u6 u7 (.slice A2 (done++[r.1]).length c2) u9 u10 u11 u12 u13 u14 u15 u16) 43::rdE g A n c r.2::M):=by
 have hlen:=R.len;unfold y2y at hr;simp only [Qag] at hr;obtain ⟨⟨⟨nh,nb,nt⟩,k0⟩,qn,t0,q0,⟨args,k2⟩,q1,t2,q2,⟨⟨tn,tw⟩,k4⟩,q3,⟨ds,k5⟩,q5,hr⟩:=hr;injection hr with hr;subst hr;rw [hlen] at q1;dsimp only at q0 q1 q2 q3 q5;have c1:=fun {w M} (h:Hp w0 w K (rdE g A n c k::M))=>y4w h R qn;have c2:=fun {w M} (h:Hp w0 w K (rdE g A n c k0::M))=>y09 h R q0;generalize y0g n k0=k1 at c2 q1;have c3:=fun {w M} (h:Hp w0 w K (rdE g A n c k1::M))=>z3x L hL f [40] [41] h R q1 (s1:=⟨#[40]⟩) (s2:=⟨#[41]⟩);have c4:=fun {w K M} (h:Hp w0 w K (rdE g A n c k2::M)) (R:Tk K A n c toks)=>y0x h R q2 [58] (s:=⟨#[58]⟩);generalize (if isF t2 [58]=true then k2+1 else k2)=k3 at c4 q3;have c5:=fun {w K M} (h:Hp w0 w K (rdE g A n c k3::M)) (R:Tk K A n c toks)=>q67 R f h q3;have c6:=fun {w K M} (h:Hp w0 w K (rdE g A n c k4::M)) (R:Tk K A n c toks)=>y5l L hL f h R q5;obtain ⟨kind0,dl,dc,start,stop,dn,value⟩:=t0;clear qn q0 q1 q2 q3 q5;go_enter Tryz.func180,Tryz.ntmps180
 go_wp2_with (first|(refine oL H ?_)|(refine oA 9 H ?_;clear H;intro w gf H)|(refine oP H ?_;clear H;intro w _ H)|((with_reducible refine (c1 H.up).mono ?_);clear H;rintro e w ⟨rfl,H⟩)|((with_reducible refine (c2 H.up).mono ?_);clear H;rintro e w ⟨rfl,H⟩)|((with_reducible refine (c3 H.up).mono ?_);clear H;rintro e w ⟨K2,Aa,ca,rfl,hle2,H,ha⟩;replace R:=R.sat hle2)|((with_reducible refine (c4 H.up R).mono ?_);clear H;rintro e w ⟨rfl,H⟩)|((with_reducible refine (c5 H.up R).mono ?_);clear H;rintro e w ⟨rfl,H⟩)|((with_reducible refine (c6 H.up R).mono ?_);clear H;rintro e w ⟨K3,Ad,cd,rfl,hle3,H,hd⟩))
 refine rN [.box gd _ _,.box gf _ _] [10] H ?_;clear H;intro w H;refine rT 0 H ?_;refine rT 1 H ?_;refine rT 2 H ?_;refine rT 3 H ?_;refine rT 4 H ?_;refine rT 5 H ?_;refine rW 6 H ?_;clear H;intro w _ H;refine rA 7 H ?_;clear H;intro A2 c2 w _ _ H;dsimp only [List.set] at H;refine rT 8 H ?_;refine rT 9 H ?_;refine rL 10 H ?_;clear H;intro w _ H;refine rE ?_
 go_wp2_with (first|(refine oL H ?_)|(refine oP H ?_;clear H;intro w _ H))
 refine o0 ?_;refine ⟨K3,A2,c2,_,rfl,hle3.trans hle2,?_,by rw [Qae];exact H.fin⟩;rw [y9j];exact (hvs.sat (hle3.trans hle2)).app (y89 (f:=y3z) (z5t (ha.sat hle3) hd))
theorem x6g {done:List ValueD} (hvs:RL K (y12 done) vs) (hL:L≤9000000) (hdl:done.length≤L) {r:ValueD×Nat} (hr:y3q toks L f k=some r) (R:Tk K A n c toks)
  (H:Hp w0 w K (.row 133 7 (.slice A' done.length c') done.length vs:: .box gd (defU (.int .i64 6) u1 u2 u3 u4 u5 u6 u7 u8 u9 u10 (.slice A' done.length c') u12 u13 u14 u15 u16) 43::rdE g A n c k::M)):
  Calls Tryz.prog 180 #[.pointer (some ⟨g,0,none⟩),.pointer (some ⟨gd,0,none⟩)] w fun e w'=>∃K' A2 c2 vs',e= .returned (.tuple #[])∧Sat K' K∧RL K' (y12 (done++[r.1])) vs'∧Hp w0 w' K' (.row 133 7 (.slice A2 (done++[r.1]).length c2) (done++[r.1]).length vs':: .box gd (defU (.int .i64 6) u1 u2 u3 u4 u5 u6 u7 u8 u9 u10 (.slice A2 (done++[r.1]).length c2) u12 u13 u14 u15 u16) 43::rdE g A n c r.2::M):=by
 have hlen:=R.len;unfold y3q at hr;simp only [Qag] at hr;obtain ⟨⟨⟨nh,nb,nt⟩,k0⟩,qn,t0,q0,⟨ds,k5⟩,q5,hr⟩:=hr;injection hr with hr;subst hr;rw [hlen] at q5;dsimp only at q0 q5;have c1:=fun {w M} (h:Hp w0 w K (rdE g A n c k::M))=>y4w h R qn;have c2:=fun {w M} (h:Hp w0 w K (rdE g A n c k0::M))=>y09 h R q0;generalize y0g n k0=k1 at c2 q5;have c6:=fun {w M} (h:Hp w0 w K (rdE g A n c k1::M))=>y5l L hL f h R q5;obtain ⟨kind0,dl,dc,start,stop,dn,value⟩:=t0;clear qn q0 q5;go_enter Tryz.func180,Tryz.ntmps180
 go_wp2_with (first|(refine oL H ?_)|(refine oA 4 H ?_;clear H;intro w gn H)|(refine oA 5 H ?_;clear H;intro w gm H)|(refine oP H ?_;clear H;intro w _ H)|((with_reducible refine (c1 H.up).mono ?_);clear H;rintro e w ⟨rfl,H⟩)|((with_reducible refine (c2 H.up).mono ?_);clear H;rintro e w ⟨rfl,H⟩)|((with_reducible refine (c6 H.up).mono ?_);clear H;rintro e w ⟨K3,Ad,cd,rfl,hle3,H,hd⟩))
 refine rN [.box gd _ _,.box gn _ _,.box gm _ _] [16] H ?_;clear H;intro w H;refine rT 0 H ?_;refine rT 1 H ?_;refine rT 2 H ?_;refine rT 3 H ?_;refine rT 4 H ?_;refine rT 5 H ?_;refine rT 6 H ?_;refine rT 7 H ?_;refine rT 8 H ?_;refine rT 9 H ?_;refine rT 10 H ?_;refine rT 11 H ?_;refine rW 12 H ?_;clear H;intro w _ H;refine rA 13 H ?_;clear H;intro A2 c2 w _ _ H;dsimp only [List.set] at H;refine rT 14 H ?_;refine rT 15 H ?_;refine rL 16 H ?_;clear H;intro w _ H;refine rE ?_
 go_wp2_with (first|(refine oL H ?_)|(refine oP H ?_;clear H;intro w _ H))
 refine o1 ?_;refine ⟨K3,A2,c2,_,rfl,hle3,?_,by rw [Qae];exact H.fin⟩;rw [y6z];exact (hvs.sat hle3).app (y89 (f:=y7z) (z5u hd))
theorem x9v {done:List RootD} (hvs:RL K (y30 done) vs) (hdl:done.length≤9000000) {r:RootD×Nat} (hr:y6y toks k=some r) (R:Tk K A n c toks)
  (H:Hp w0 w K (.row 100 4 (.slice A' done.length c') done.length vs:: .box gd (defU (.int .i64 1) u1 u2 u3 u4 u5 u6 u7 u8 u9 u10 u11 (.slice A' done.length c') u13 u14 u15 u16) 43::rdE g A n c k::M)):
  Calls Tryz.prog 180 #[.pointer (some ⟨g,0,none⟩),.pointer (some ⟨gd,0,none⟩)] w fun e w'=>∃K' A2 c2 vs',e= .returned (.tuple #[])∧Sat K' K∧RL K' (y30 (done++[r.1])) vs'∧Hp w0 w' K' (.row 100 4 (.slice A2 (done++[r.1]).length c2) (done++[r.1]).length vs':: .box gd (defU (.int .i64 1) u1 u2 u3 u4 u5 u6 u7 u8 u9 u10 u11 (.slice A2 (done++[r.1]).length c2) u13 u14 u15 u16) 43::rdE g A n c r.2::M):=by
 have hlen:=R.len;unfold y6y at hr;simp only [Qag] at hr;obtain ⟨⟨⟨nh,nb,nt⟩,k0⟩,qn,t0,q0,t1,q1,t2,q2,hr⟩:=hr;injection hr with hr;subst hr;rw [hlen] at q1 q2 ⊢;dsimp only at q0 q1 q2 ⊢;have c1:=fun {w M} (h:Hp w0 w K (rdE g A n c k::M))=>y4w h R qn;have c2:=fun {w M} (h:Hp w0 w K (rdE g A n c k0::M))=>y09 h R q0;generalize y0g n k0=k1 at c2 q1 q2 ⊢;have c3:=fun {w M} (h:Hp w0 w K (rdE g A n c k1::M))=>y0x h R q1 [58] (s:=⟨#[58]⟩);generalize (if isF t1 [58]=true then k1+1 else k1)=k2 at c3 q2 ⊢;have c4:=fun {w M} (h:Hp w0 w K (rdE g A n c k2::M))=>z3w h R q2;generalize y0g n k2=k3 at c4 ⊢;obtain ⟨kind0,dl,dc,start,stop,dn,value⟩:=t0;dsimp only;simp only [y1c] at c2;clear qn q0 q1 q2;obtain ⟨o,ho⟩: ∃o,opF dn=o:=⟨_,rfl⟩;rw [ho];have q1:=y0m dn [109,117,116,97,116,105,111,110];have q2:=y0m dn [115,117,98,115,99,114,105,112,116,105,111,110];unfold opF at ho;split at ho
 ·rename_i h;rw [Qa5 h] at q2;rw [Qa4 (by rw [h];decide)] at q1;clear h;subst ho;go_enter Tryz.func180,Tryz.ntmps180
  go_wp2_with (first|(refine oL H ?_)|(refine oA 5 H ?_;clear H;intro w gm H)|(refine oA 6 H ?_;clear H;intro w gt H)|(refine oP H ?_;clear H;intro w _ H)|((with_reducible refine (c1 H.up).mono ?_);clear H;rintro e w ⟨rfl,H⟩)|((with_reducible refine (c2 H.up).mono ?_);clear H;rintro e w ⟨rfl,H⟩)|((with_reducible refine (c3 H.up).mono ?_);clear H;rintro e w ⟨rfl,H⟩)|((with_reducible refine (c4 H.up).mono ?_);clear H;rintro e w ⟨rfl,H⟩))
  refine rN [.box gd _ _,.box gm _ _,.box gt _ _] [15] H ?_;clear H;intro w H;refine rT 0 H ?_;refine rT 1 H ?_;refine rT 2 H ?_;refine rT 3 H ?_;refine rT 4 H ?_;refine rT 5 H ?_;refine rT 6 H ?_;refine rT 7 H ?_;refine rT 8 H ?_;refine rT 9 H ?_;refine rT 10 H ?_;refine rW 11 H ?_;clear H;intro w _ H;refine rA 12 H ?_;clear H;intro A2 c2 w _ _ H;dsimp only [List.set] at H;refine rT 13 H ?_;refine rT 14 H ?_;refine rL 15 H ?_;clear H;intro w _ H;refine rE ?_
  go_wp2_with (first|(refine oL H ?_)|(refine oP H ?_;clear H;intro w _ H))
  refine o1 ?_;refine ⟨K,A2,c2,_,rfl,Sat.refl _,?_,by rw [Qae];exact H.fin⟩;rw [y49];exact hvs.app (y89 (f:=z2k) (z3p (Qab _)))
 rename_i h1;rw [Qa4 h1] at q2;split at ho
 ·rename_i h;rw [Qa5 h] at q1;clear h1 h;subst ho;go_enter Tryz.func180,Tryz.ntmps180
  go_wp2_with (first|(refine oL H ?_)|(refine oA 5 H ?_;clear H;intro w gm H)|(refine oA 6 H ?_;clear H;intro w gt H)|(refine oP H ?_;clear H;intro w _ H)|((with_reducible refine (c1 H.up).mono ?_);clear H;rintro e w ⟨rfl,H⟩)|((with_reducible refine (c2 H.up).mono ?_);clear H;rintro e w ⟨rfl,H⟩)|((with_reducible refine (c3 H.up).mono ?_);clear H;rintro e w ⟨rfl,H⟩)|((with_reducible refine (c4 H.up).mono ?_);clear H;rintro e w ⟨rfl,H⟩))
  refine rN [.box gd _ _,.box gm _ _,.box gt _ _] [15] H ?_;clear H;intro w H;refine rT 0 H ?_;refine rT 1 H ?_;refine rT 2 H ?_;refine rT 3 H ?_;refine rT 4 H ?_;refine rT 5 H ?_;refine rT 6 H ?_;refine rT 7 H ?_;refine rT 8 H ?_;refine rT 9 H ?_;refine rT 10 H ?_;refine rW 11 H ?_;clear H;intro w _ H;refine rA 12 H ?_;clear H;intro A2 c2 w _ _ H;dsimp only [List.set] at H;refine rT 13 H ?_;refine rT 14 H ?_;refine rL 15 H ?_;clear H;intro w _ H;refine rE ?_
  go_wp2_with (first|(refine oL H ?_)|(refine oP H ?_;clear H;intro w _ H))
  refine o1 ?_;refine ⟨K,A2,c2,_,rfl,Sat.refl _,?_,by rw [Qae];exact H.fin⟩;rw [y49];exact hvs.app (y89 (f:=z2k) (z3p (Qab _)))
 rename_i h;rw [Qa4 h] at q1;clear h1 h;subst ho;go_enter Tryz.func180,Tryz.ntmps180
 go_wp2_with (first|(refine oL H ?_)|(refine oA 5 H ?_;clear H;intro w gm H)|(refine oA 6 H ?_;clear H;intro w gt H)|(refine oP H ?_;clear H;intro w _ H)|((with_reducible refine (c1 H.up).mono ?_);clear H;rintro e w ⟨rfl,H⟩)|((with_reducible refine (c2 H.up).mono ?_);clear H;rintro e w ⟨rfl,H⟩)|((with_reducible refine (c3 H.up).mono ?_);clear H;rintro e w ⟨rfl,H⟩)|((with_reducible refine (c4 H.up).mono ?_);clear H;rintro e w ⟨rfl,H⟩))
 refine rN [.box gd _ _,.box gm _ _,.box gt _ _] [15] H ?_;clear H;intro w H;refine rT 0 H ?_;refine rT 1 H ?_;refine rT 2 H ?_;refine rT 3 H ?_;refine rT 4 H ?_;refine rT 5 H ?_;refine rT 6 H ?_;refine rT 7 H ?_;refine rT 8 H ?_;refine rT 9 H ?_;refine rT 10 H ?_;refine rW 11 H ?_;clear H;intro w _ H;refine rA 12 H ?_;clear H;intro A2 c2 w _ _ H;dsimp only [List.set] at H;refine rT 13 H ?_;refine rT 14 H ?_;refine rL 15 H ?_;clear H;intro w _ H;refine rE ?_
 go_wp2_with (first|(refine oL H ?_)|(refine oP H ?_;clear H;intro w _ H))
 refine o1 ?_;refine ⟨K,A2,c2,_,rfl,Sat.refl _,?_,by rw [Qae];exact H.fin⟩;rw [y49];exact hvs.app (y89 (f:=z2k) (z3p (Qab _)))
end
section
variable {w0 w K : World} {M : List Ent} {g gd : Nat} {A : Option Addr} {n c k : Nat} {toks : List TokD} {t : TokD} {L f : Nat}
theorem y6e {α:Type} (ty m:Nat) (fL:List α→List Leaf) (hf:fL []=[]) (cells:Value→List Value) (kind:Int) (hk:kind=1∨kind=3∨kind=4∨kind=6) (hcells: ∀v,∃rest,cells v= .int .i64 kind::rest) (e:Nat→Option (α×Nat))
  (hpart: ∀(K w:World) (k:Nat) (A':Option Addr) (c':Nat) (vs:List Value) (done:List α) (r:α×Nat),RL K (fL done) vs→done.length≤L→e k=some r→Tk K A n c toks→Hp w0 w K (.row ty m (.slice A' done.length c') done.length vs:: .box gd (cells (.slice A' done.length c')) 43::rdE g A n c k::M)→
    Calls Tryz.prog 180 #[.pointer (some ⟨g,0,none⟩),.pointer (some ⟨gd,0,none⟩)] w fun e w'=>∃K' A2 c2 vs',e= .returned (.tuple #[])∧Sat K' K∧RL K' (fL (done++[r.1])) vs'∧Hp w0 w' K' (.row ty m (.slice A2 (done++[r.1]).length c2) (done++[r.1]).length vs':: .box gd (cells (.slice A2 (done++[r.1]).length c2)) 43::rdE g A n c r.2::M))
  {r:List α×Nat} (hr:y15 toks e L k=some r) (R:Tk K A n c toks) (H:Hp w0 w K (.box gd (cells (.slice none 0 0)) 43::rdE g A n c k::M)):
  Calls Tryz.prog 151 #[.pointer (some ⟨g,0,none⟩),.pointer (some ⟨gd,0,none⟩)] w fun e w'=>∃K' A' c',e= .returned (.tuple #[])∧Sat K' K∧Hp w0 w' K' (.box gd (cells (.slice A' r.1.length c')) 43::rdE g A n c r.2::M)∧RD K' (.list r.1.length (fL r.1)) (.slice A' r.1.length c'):=by
 obtain ⟨items,k9⟩:=r;unfold y15 at hr;simp only [Qag] at hr;obtain ⟨t,ht,hr⟩:=hr;have hc:=fun {w M} (h:Hp w0 w K (rdE g A n c k::M))=>y0x h R ht [123] (s:=⟨#[123]⟩);obtain ⟨b,hb⟩: ∃b,isF t [123]=b:=⟨_,rfl⟩;rw [hb] at hc hr;clear hb ht;obtain ⟨rest,hrest⟩:=hcells (.slice none 0 0);rw [hrest] at H;have HC:=hide hrest;have HP:=hide hpart;clear hrest hcells hpart
 cases b with
 |false=>
  rw [if_neg (by decide)] at hr hc;injection hr with hr;injection hr with h1 h2;subst h1 h2;rcases hk with rfl|rfl|rfl|rfl
  all_goals
   go_enter Tryz.func151,Tryz.ntmps151
   go_wp2_with (first|(refine oL H ?_)|(refine oP H ?_;clear H;intro w _ H)|((with_reducible refine (hc H.up).mono ?_);clear H;rintro e w ⟨rfl,H⟩))
   refine o1 ?_;rw [←HC.out] at H;exact ⟨K,_,_,rfl,Sat.refl _,H.fin,by rw [hf];exact Dat.nil (Qab _)⟩
 |true=>
  rw [if_pos rfl] at hr hc;have HR:=hide hr;clear hr;rcases hk with rfl|rfl|rfl|rfl
  all_goals
   go_enter Tryz.func151,Tryz.ntmps151
   go_wp2_with (first|(refine oL H ?_)|(refine oP H ?_;clear H;intro w _ H)|((with_reducible refine (hc H.up).mono ?_);clear H;rintro e w ⟨rfl,H⟩))
   rw [←HC.out] at H;clear hc;replace H:Hp _ _ _ (.box gd _ _::rdE g A n c _::M):=H.fin;replace H:=H.nilRow ty m
   go_loopg [] L (fun fu wr=>∃(K':World) (k:Nat) (done:List α) (A':Option Addr) (c':Nat) (vs:List Value),fu≤L∧done.length+fu=L∧Hid (∃l,y2p toks e fu k=some (l,k9)∧items=done++l)∧Sat K' K∧RL K' (fL done) vs∧Hp w0 wr K' (.row ty m (.slice A' done.length c') done.length vs:: .box gd (cells (.slice A' done.length c')) 43::rdE g A n c k::M))
   case atStart=>exact ⟨K,_,[],none,0,[],Qab _,Nat.zero_add _,⟨items,HR.out,rfl⟩,Sat.refl _,by rw [hf];exact .nil (Qab _),H⟩
   case round=>
    clear H;obtain ⟨K',k,done,A',c',vs,hfu,hdl,hl,hle,hvs,H⟩:=hrel;replace R:=R.sat hle;obtain ⟨l,hl,hrl⟩:=hl.out
    cases gk with
    |zero=>cases hl
    |succ fu=>
    unfold y2p at hl;simp only [Qag] at hl;obtain ⟨t,ht,hl⟩:=hl;have hc:=fun {w M} (h:Hp w0 w K' (rdE g A n c k::M))=>y0x h R ht [125] (s:=⟨#[125]⟩);obtain ⟨b,hb⟩: ∃b,isF t [125]=b:=⟨_,rfl⟩;rw [hb] at hc hl;clear hb ht
    cases b with
    |true=>
     rw [if_pos rfl] at hl hc;injection hl with hl;injection hl with h1 h2;subst h1 h2;rw [List.append_nil] at hrl;subst hrl
     go_wp2_with (first|(refine oL H ?_)|(refine oP H ?_;clear H;intro w _ H)|((with_reducible refine (hc H.up).mono ?_);clear H;rintro e w ⟨rfl,H⟩))
     refine o0 ?_;replace H:Hp _ _ _ (.row ty m _ _ _:: .box gd _ _::rdE g A n c _::M):=H.fin;obtain ⟨K2,hle2,H,hd⟩:=H.freezeRow hvs;exact ⟨K2,_,_,rfl,hle2.trans hle,H,hd⟩
    |false=>
     rw [if_neg (by decide)] at hl hc;simp only [Qag] at hl;obtain ⟨⟨d,k5⟩,hq,r2,hr2,hl⟩:=hl;injection hl with hl;injection hl with h1 h2;have HNX:Hid (∃l,y2p toks e fu k5=some (l,k9)∧items=(done++[d])++l):=⟨r2.1,by rw [←h2];exact hr2,by rw [hrl,←h1];simp⟩;have hp:=fun {w} (h:Hp w0 w K' (.row ty m (.slice A' done.length c') done.length vs:: .box gd (cells (.slice A' done.length c')) 43::rdE g A n c k::M))=>HP.out _ _ _ _ _ _ _ _ hvs (by omega) hq R h;clear h1 h2 hr2 hrl hq
     go_wp2_with (first|(refine oL H ?_)|(refine oP H ?_;clear H;intro w _ H)|((with_reducible refine (hc H.up).mono ?_);clear H;rintro e w ⟨rfl,H⟩)|((with_reducible refine (hp H.fin).mono ?_);clear H;rintro e w ⟨K2,A2,c2,vs2,rfl,hle2,hvs2,H⟩))
     go_roundg fu
     case rel=>exact ⟨K2,k5,done++[d],_,_,_,by omega,by rw [Qae,Qbj];omega,HNX,hle2.trans hle,hvs2,H⟩
     case measure=>omega
end
section
variable {w0 w K : World} {M : List Ent} {g : Nat} {A : Option Addr} {n c k : Nat} {toks : List TokD} {t : TokD} {L f : Nat}
theorem y2s (H:Hp w0 w K M) {word:Txt} {kd:Nat} {ki:Int} (h:y43 word=kd) (hi:ki=kd:=by rfl):Calls Tryz.prog 147 #[.string (str word)] w fun e w'=>e= .returned (.int .i64 ki)∧Hp w0 w' K M:=by
 subst h hi;exact x9u H word
theorem z3y {mark sep:Txt} {r:List NamedD×Nat} (h:optF toks mark sep L k=some r): ∃t b,toks[k]?=some t∧isF t mark=b∧(b=false→r=([],k))∧(b=true→y35 toks sep L (k+1)=some r):=by
 unfold optF at h;simp only [Qag] at h;obtain ⟨t,ht,h⟩:=h;refine ⟨t,_,ht,rfl,fun hb=>?_,fun hb=>?_⟩
 ·rw [hb,if_neg (by decide)] at h;injection h with h;exact h.symm
 ·rwa [if_pos hb] at h
theorem z3z {gd:Nat} {kind:Int} {u1 u2 u3 u4 u5 u6 u7 u8 u9 u10 u11 u12 u13 u14 u15 u16:Value} (h1:(kind==1)=false) (h3:(kind==3)=false) (h4:(kind==4)=false) (h6:(kind==6)=false) (h7:(kind==7)=false)
  (H:Hp w0 w K (.box gd (defU (.int .i64 kind) u1 u2 u3 u4 u5 u6 u7 u8 u9 u10 u11 u12 u13 u14 u15 u16) 43::M)):
  Calls Tryz.prog 151 #[.pointer (some ⟨g,0,none⟩),.pointer (some ⟨gd,0,none⟩)] w fun e w'=>e= .returned (.tuple #[])∧Hp w0 w' K (.box gd (defU (.int .i64 kind) u1 u2 u3 u4 u5 u6 u7 u8 u9 u10 u11 u12 u13 u14 u15 u16) 43::M):=by
 go_enter Tryz.func151,Tryz.ntmps151
 go_wp2_with (first|(refine oL H ?_)|(refine oP H ?_;clear H;intro w _ H))
 first|refine o0 ?_|refine o1 ?_
 exact ⟨rfl,H⟩
theorem x9w {gd:Nat} {u1 u2 u3 u4 u5 u6 u7 u8 u9 u10 u11 u12 u13 u14 u15 u16:Value} (hL:L≤9000000) {r:List InputD×Nat} (hr:y1x toks [123] [125] L f k=some r) (R:Tk K A n c toks)
  (H:Hp w0 w K (rdE g A n c k:: .box gd (defU (.int .i64 7) u1 u2 u3 u4 u5 u6 u7 u8 u9 u10 u11 u12 u13 u14 u15 u16) 43::M)):
  Calls Tryz.prog 151 #[.pointer (some ⟨g,0,none⟩),.pointer (some ⟨gd,0,none⟩)] w fun e w'=>∃K' A' c',e= .returned (.tuple #[])∧Sat K' K∧Hp w0 w' K' (rdE g A n c r.2:: .box gd (defU (.int .i64 7) u1 u2 u3 u4 u5 u6 u7 u8 (.slice A' r.1.length c') u10 u11 u12 u13 u14 u15 u16) 43::M)∧RD K' (.list r.1.length (y0o r.1)) (.slice A' r.1.length c'):=by
 go_enter Tryz.func151,Tryz.ntmps151
 go_wp2_with (first|(refine oL H ?_)|(refine oP H ?_;clear H;intro w _ H)|((with_reducible refine (z3x L hL f [123] [125] H.up R hr (s1:=⟨#[123]⟩) (s2:=⟨#[125]⟩)).mono ?_);clear H;rintro e w ⟨K2,Aa,ca,rfl,hle,H,ha⟩))
 first|refine o0 ?_|refine o1 ?_
 exact ⟨K2,Aa,ca,rfl,hle,H,ha⟩
theorem x6h (hL:L≤3000000) (R:Tk K A n c toks) (H:Hp w0 w K (rdE g A n c k::M)) {h:NoteD×Bool×TokD×Nat} (hh:y36 toks k=some h) (hkd:y43 h.2.2.1.text=1) {r:DefD×Nat} (hr:y3c toks L f h=some r):
  Calls Tryz.prog 99 #[.pointer (some ⟨g,0,none⟩)] w fun e w'=>∃K' cs,e= .returned (.agg cs)∧Sat K' K∧Hp w0 w' K' (rdE g A n c r.2::M)∧RL K' (defL r.1) cs.toList:=by
 have hlen:=R.len
 have hL9:L≤9000000:=by omega
 unfold y36 at hh;simp only [Qag] at hh;obtain ⟨⟨⟨nh,nb,nt⟩,k0⟩,q1,t0,q2,t1,q3,hh⟩:=hh;injection hh with hh;subst hh;rw [hlen] at hr;dsimp only at q2 q3 hkd;have c1:=fun {w M} (h:Hp w0 w K (rdE g A n c k::M))=>y4w h R q1;have c2:=fun {w M} (h:Hp w0 w K (rdE g A n c k0::M))=>y0x h R q2 [101,120,116,101,110,100] (s:=⟨#[101,120,116,101,110,100]⟩);generalize (if isF t0 [101,120,116,101,110,100]=true then k0+1 else k0)=k1 at c2 q3 hr;generalize isF t0 [101,120,116,101,110,100]=ext at c2 hr;have c3:=fun {w M} (h:Hp w0 w K (rdE g A n c k1::M))=>y09 h R q3;generalize y0g n k1=k2 at c3 hr;obtain ⟨wk0,wl,wc,ws0,ws1,wn,wv⟩:=t1;simp only [y1c] at c3;clear q1 q2 q3;unfold y3c at hr;simp only [Qag] at hr
 try dsimp only at hr
 try rw [hlen] at hr
 obtain ⟨⟨ds,k4⟩,q6,⟨rs,k5⟩,q8,hr⟩:=hr;have d5:=fun {w K M} (h:Hp w0 w K (rdE g A n c k2::M)) (R:Tk K A n c toks)=>y5l L hL9 f h R q6;injection hr with hr;subst hr;clear q6;go_enter Tryz.func99,Tryz.ntmps99
 go_wp2_with (first|(refine oL H ?_)|(refine oA 3 H ?_;clear H;intro w gd H)|(refine oP H ?_;clear H;intro w _ H)|((with_reducible refine (c1 H.up).mono ?_);clear H;rintro e w ⟨rfl,H⟩)|((with_reducible refine (c2 H.up).mono ?_);clear H;rintro e w ⟨rfl,H⟩)|((with_reducible refine (c3 H.up).mono ?_);clear H;rintro e w ⟨rfl,H⟩)|((with_reducible refine (y2s H hkd).mono ?_);clear H;rintro e w ⟨rfl,H⟩)|((with_reducible refine (c4 H.up).mono ?_);clear H;rintro e w ⟨rfl,H⟩)|((with_reducible refine (d5 H.up R).mono ?_);clear H;rintro e w ⟨K2,Ad,cd,rfl,hle2,H,hd⟩;replace R:=R.sat hle2)|((with_reducible refine (y6e 100 4 y30 rfl (fun v=>defU (.int .i64 1) (.bool ext) (.bool nh) (.bool nb) (.string (str nt)) (.string ⟨#[]⟩) (.slice none 0 0) (.slice Ad ds.length cd) (.slice none 0 0) (.slice none 0 0) (.slice none 0 0) (.slice none 0 0) v (.bool false) (.slice none 0 0) (.int .i64 wl) (.int .i64 wc)) 1 (.inl rfl) (fun _=>⟨_,rfl⟩) (y6y toks) (fun K w k A' c' vs done r h1 h2 h3 R H=>x9v h1 (by omega) h3 R H) q8 R H.fin).mono ?_);clear H;rintro e w ⟨K3,Ar,cr,rfl,hle3,H,hr⟩))
 refine oB H ?_;exact ⟨K3,_,rfl,hle3.trans hle2,H.fin,y18 (Dat.nil (Qab _)) (hd.sat hle3) (Dat.nil (Qab _)) (Dat.nil (Qab _)) (Dat.nil (Qab _)) (Dat.nil (Qab _)) hr (Dat.nil (Qab _))⟩
theorem x6i (hL:L≤3000000) (R:Tk K A n c toks) (H:Hp w0 w K (rdE g A n c k::M)) {h:NoteD×Bool×TokD×Nat} (hh:y36 toks k=some h) (hkd:y43 h.2.2.1.text=2) {r:DefD×Nat} (hr:y3d toks L f h=some r):
  Calls Tryz.prog 99 #[.pointer (some ⟨g,0,none⟩)] w fun e w'=>∃K' cs,e= .returned (.agg cs)∧Sat K' K∧Hp w0 w' K' (rdE g A n c r.2::M)∧RL K' (defL r.1) cs.toList:=by
 have hlen:=R.len
 have hL9:L≤9000000:=by omega
 unfold y36 at hh;simp only [Qag] at hh;obtain ⟨⟨⟨nh,nb,nt⟩,k0⟩,q1,t0,q2,t1,q3,hh⟩:=hh;injection hh with hh;subst hh;rw [hlen] at hr;dsimp only at q2 q3 hkd;have c1:=fun {w M} (h:Hp w0 w K (rdE g A n c k::M))=>y4w h R q1;have c2:=fun {w M} (h:Hp w0 w K (rdE g A n c k0::M))=>y0x h R q2 [101,120,116,101,110,100] (s:=⟨#[101,120,116,101,110,100]⟩);generalize (if isF t0 [101,120,116,101,110,100]=true then k0+1 else k0)=k1 at c2 q3 hr;generalize isF t0 [101,120,116,101,110,100]=ext at c2 hr;have c3:=fun {w M} (h:Hp w0 w K (rdE g A n c k1::M))=>y09 h R q3;generalize y0g n k1=k2 at c3 hr;obtain ⟨wk0,wl,wc,ws0,ws1,wn,wv⟩:=t1;simp only [y1c] at c3;clear q1 q2 q3;unfold y3d at hr;simp only [Qag] at hr
 try dsimp only at hr
 try rw [hlen] at hr
 obtain ⟨t,q5,hr⟩:=hr;have c4:=fun {w M} (h:Hp w0 w K (rdE g A n c k2::M))=>y09 h R q5;generalize y0g n k2=k3 at c4 hr;obtain ⟨tk0,tl,tc,ts0,ts1,tn,tv⟩:=t;simp only [y1c] at c4
 try dsimp only at hr
 obtain ⟨⟨ds,k4⟩,q6,hr⟩:=hr;have d5:=fun {w K M} (h:Hp w0 w K (rdE g A n c k3::M)) (R:Tk K A n c toks)=>y5l L hL9 f h R q6;injection hr with hr;subst hr;clear q5 q6;go_enter Tryz.func99,Tryz.ntmps99
 go_wp2_with (first|(refine oL H ?_)|(refine oA 3 H ?_;clear H;intro w gd H)|(refine oP H ?_;clear H;intro w _ H)|((with_reducible refine (c1 H.up).mono ?_);clear H;rintro e w ⟨rfl,H⟩)|((with_reducible refine (c2 H.up).mono ?_);clear H;rintro e w ⟨rfl,H⟩)|((with_reducible refine (c3 H.up).mono ?_);clear H;rintro e w ⟨rfl,H⟩)|((with_reducible refine (y2s H hkd).mono ?_);clear H;rintro e w ⟨rfl,H⟩)|((with_reducible refine (c4 H.up).mono ?_);clear H;rintro e w ⟨rfl,H⟩)|((with_reducible refine (d5 H.up R).mono ?_);clear H;rintro e w ⟨K2,Ad,cd,rfl,hle2,H,hd⟩;replace R:=R.sat hle2)|((with_reducible refine (z3z rfl rfl rfl rfl rfl H.up).mono ?_);clear H;rintro e w ⟨rfl,H⟩))
 refine oB H ?_;exact ⟨K2,_,rfl,hle2,H.fin,y18 (Dat.nil (Qab _)) hd (Dat.nil (Qab _)) (Dat.nil (Qab _)) (Dat.nil (Qab _)) (Dat.nil (Qab _)) (Dat.nil (Qab _)) (Dat.nil (Qab _))⟩
theorem q4v (hL:L≤3000000) (R:Tk K A n c toks) (H:Hp w0 w K (rdE g A n c k::M)) {h:NoteD×Bool×TokD×Nat} (hh:y36 toks k=some h) (hkd:y43 h.2.2.1.text=3) {r:DefD×Nat} (hr:y2d 3 toks L f h=some r):
  Calls Tryz.prog 99 #[.pointer (some ⟨g,0,none⟩)] w fun e w'=>∃K' cs,e= .returned (.agg cs)∧Sat K' K∧Hp w0 w' K' (rdE g A n c r.2::M)∧RL K' (defL r.1) cs.toList:=by
 have hlen:=R.len
 have hL9:L≤9000000:=by omega
 unfold y36 at hh;simp only [Qag] at hh;obtain ⟨⟨⟨nh,nb,nt⟩,k0⟩,q1,t0,q2,t1,q3,hh⟩:=hh;injection hh with hh;subst hh;rw [hlen] at hr;dsimp only at q2 q3 hkd;have c1:=fun {w M} (h:Hp w0 w K (rdE g A n c k::M))=>y4w h R q1;have c2:=fun {w M} (h:Hp w0 w K (rdE g A n c k0::M))=>y0x h R q2 [101,120,116,101,110,100] (s:=⟨#[101,120,116,101,110,100]⟩);generalize (if isF t0 [101,120,116,101,110,100]=true then k0+1 else k0)=k1 at c2 q3 hr;generalize isF t0 [101,120,116,101,110,100]=ext at c2 hr;have c3:=fun {w M} (h:Hp w0 w K (rdE g A n c k1::M))=>y09 h R q3;generalize y0g n k1=k2 at c3 hr;obtain ⟨wk0,wl,wc,ws0,ws1,wn,wv⟩:=t1;simp only [y1c] at c3;clear q1 q2 q3;unfold y2d at hr;simp only [Qag] at hr
 try dsimp only at hr
 try rw [hlen] at hr
 obtain ⟨t,q5,hr⟩:=hr;have c4:=fun {w M} (h:Hp w0 w K (rdE g A n c k2::M))=>y09 h R q5;generalize y0g n k2=k3 at c4 hr;obtain ⟨tk0,tl,tc,ts0,ts1,tn,tv⟩:=t;simp only [y1c] at c4
 try dsimp only at hr
 obtain ⟨⟨ifs,k4⟩,q6,⟨ds,k5⟩,q7,⟨fs,k6⟩,q8,hr⟩:=hr;injection hr with hr;subst hr;obtain ⟨t4,b,q9,hb,o1,o2⟩:=z3y q6;have c6:=fun {w M} (h:Hp w0 w K (rdE g A n c k3::M))=>y0x h R q9 [105,109,112,108,101,109,101,110,116,115] (s:=⟨#[105,109,112,108,101,109,101,110,116,115]⟩);rw [hb] at c6;have d5:=fun {w K M} (h:Hp w0 w K (rdE g A n c k4::M)) (R:Tk K A n c toks)=>y5l L hL9 f h R q7;clear q5 q6 q7 q9 hb
 cases b with
 |false=>
  obtain ⟨rfl,rfl⟩:=Prod.mk.inj (o1 rfl);rw [if_neg (by decide)] at c6;clear o1 o2;go_enter Tryz.func99,Tryz.ntmps99
  go_wp2_with (first|(refine oL H ?_)|(refine oA 3 H ?_;clear H;intro w gd H)|(refine oP H ?_;clear H;intro w _ H)|((with_reducible refine (c1 H.up).mono ?_);clear H;rintro e w ⟨rfl,H⟩)|((with_reducible refine (c2 H.up).mono ?_);clear H;rintro e w ⟨rfl,H⟩)|((with_reducible refine (c3 H.up).mono ?_);clear H;rintro e w ⟨rfl,H⟩)|((with_reducible refine (y2s H hkd).mono ?_);clear H;rintro e w ⟨rfl,H⟩)|((with_reducible refine (c4 H.up).mono ?_);clear H;rintro e w ⟨rfl,H⟩)|((with_reducible refine (c6 H.up).mono ?_);clear H;rintro e w ⟨rfl,H⟩)|((with_reducible refine (d5 H.up R).mono ?_);clear H;rintro e w ⟨K2,Ad,cd,rfl,hle2,H,hd⟩;replace R:=R.sat hle2)|((with_reducible refine (y6e 52 10 y0u rfl (fun v=>defU (.int .i64 3) (.bool ext) (.bool nh) (.bool nb) (.string (str nt)) (.string (str tn)) (.slice none 0 0) (.slice Ad ds.length cd) v (.slice none 0 0) (.slice none 0 0) (.slice none 0 0) (.slice none 0 0) (.bool false) (.slice none 0 0) (.int .i64 tl) (.int .i64 tc)) 3 (.inr (.inl rfl)) (fun _=>⟨_,rfl⟩) (y2y toks L f) (fun K w k A' c' vs done r h1 h2 h3 R H=>y8l rfl rfl h1 hL9 h2 h3 R H) q8 R H.fin).mono ?_);clear H;rintro e w ⟨K3,Af,cf,rfl,hle3,H,hf⟩))
  refine oB H ?_;exact ⟨K3,_,rfl,hle3.trans hle2,H.fin,y18 (Dat.nil (Qab _)) (hd.sat hle3) hf (Dat.nil (Qab _)) (Dat.nil (Qab _)) (Dat.nil (Qab _)) (Dat.nil (Qab _)) (Dat.nil (Qab _))⟩
 |true=>
  rw [if_pos rfl] at c6;have c7:=fun {w M} (h:Hp w0 w K (rdE g A n c (k3+1)::M))=>z0k h R [38] L hL (o2 rfl) (s:=⟨#[38]⟩);clear o1 o2;go_enter Tryz.func99,Tryz.ntmps99
  go_wp2_with (first|(refine oL H ?_)|(refine oA 3 H ?_;clear H;intro w gd H)|(refine oP H ?_;clear H;intro w _ H)|((with_reducible refine (c1 H.up).mono ?_);clear H;rintro e w ⟨rfl,H⟩)|((with_reducible refine (c2 H.up).mono ?_);clear H;rintro e w ⟨rfl,H⟩)|((with_reducible refine (c3 H.up).mono ?_);clear H;rintro e w ⟨rfl,H⟩)|((with_reducible refine (y2s H hkd).mono ?_);clear H;rintro e w ⟨rfl,H⟩)|((with_reducible refine (c4 H.up).mono ?_);clear H;rintro e w ⟨rfl,H⟩)|((with_reducible refine (c6 H.up).mono ?_);clear H;rintro e w ⟨rfl,H⟩)|((with_reducible refine (c7 H.up).mono ?_);clear H;rintro e w ⟨K1,Ai,ci,rfl,hle1,H,hi⟩;replace R:=R.sat hle1)|((with_reducible refine (d5 H.up R).mono ?_);clear H;rintro e w ⟨K2,Ad,cd,rfl,hle2,H,hd⟩;replace R:=R.sat hle2)|((with_reducible refine (y6e 52 10 y0u rfl (fun v=>defU (.int .i64 3) (.bool ext) (.bool nh) (.bool nb) (.string (str nt)) (.string (str tn)) (.slice Ai ifs.length ci) (.slice Ad ds.length cd) v (.slice none 0 0) (.slice none 0 0) (.slice none 0 0) (.slice none 0 0) (.bool false) (.slice none 0 0) (.int .i64 tl) (.int .i64 tc)) 3 (.inr (.inl rfl)) (fun _=>⟨_,rfl⟩) (y2y toks L f) (fun K w k A' c' vs done r h1 h2 h3 R H=>y8l rfl rfl h1 hL9 h2 h3 R H) q8 R H.fin).mono ?_);clear H;rintro e w ⟨K3,Af,cf,rfl,hle3,H,hf⟩))
  refine oB H ?_;exact ⟨K3,_,rfl,hle3.trans (hle2.trans hle1),H.fin,y18 (hi.sat (hle3.trans hle2)) (hd.sat hle3) hf (Dat.nil (Qab _)) (Dat.nil (Qab _)) (Dat.nil (Qab _)) (Dat.nil (Qab _)) (Dat.nil (Qab _))⟩
theorem q4w (hL:L≤3000000) (R:Tk K A n c toks) (H:Hp w0 w K (rdE g A n c k::M)) {h:NoteD×Bool×TokD×Nat} (hh:y36 toks k=some h) (hkd:y43 h.2.2.1.text=4) {r:DefD×Nat} (hr:y2d 4 toks L f h=some r):
  Calls Tryz.prog 99 #[.pointer (some ⟨g,0,none⟩)] w fun e w'=>∃K' cs,e= .returned (.agg cs)∧Sat K' K∧Hp w0 w' K' (rdE g A n c r.2::M)∧RL K' (defL r.1) cs.toList:=by
 have hlen:=R.len
 have hL9:L≤9000000:=by omega
 unfold y36 at hh;simp only [Qag] at hh;obtain ⟨⟨⟨nh,nb,nt⟩,k0⟩,q1,t0,q2,t1,q3,hh⟩:=hh;injection hh with hh;subst hh;rw [hlen] at hr;dsimp only at q2 q3 hkd;have c1:=fun {w M} (h:Hp w0 w K (rdE g A n c k::M))=>y4w h R q1;have c2:=fun {w M} (h:Hp w0 w K (rdE g A n c k0::M))=>y0x h R q2 [101,120,116,101,110,100] (s:=⟨#[101,120,116,101,110,100]⟩);generalize (if isF t0 [101,120,116,101,110,100]=true then k0+1 else k0)=k1 at c2 q3 hr;generalize isF t0 [101,120,116,101,110,100]=ext at c2 hr;have c3:=fun {w M} (h:Hp w0 w K (rdE g A n c k1::M))=>y09 h R q3;generalize y0g n k1=k2 at c3 hr;obtain ⟨wk0,wl,wc,ws0,ws1,wn,wv⟩:=t1;simp only [y1c] at c3;clear q1 q2 q3;unfold y2d at hr;simp only [Qag] at hr
 try dsimp only at hr
 try rw [hlen] at hr
 obtain ⟨t,q5,hr⟩:=hr;have c4:=fun {w M} (h:Hp w0 w K (rdE g A n c k2::M))=>y09 h R q5;generalize y0g n k2=k3 at c4 hr;obtain ⟨tk0,tl,tc,ts0,ts1,tn,tv⟩:=t;simp only [y1c] at c4
 try dsimp only at hr
 obtain ⟨⟨ifs,k4⟩,q6,⟨ds,k5⟩,q7,⟨fs,k6⟩,q8,hr⟩:=hr;injection hr with hr;subst hr;obtain ⟨t4,b,q9,hb,o1,o2⟩:=z3y q6;have c6:=fun {w M} (h:Hp w0 w K (rdE g A n c k3::M))=>y0x h R q9 [105,109,112,108,101,109,101,110,116,115] (s:=⟨#[105,109,112,108,101,109,101,110,116,115]⟩);rw [hb] at c6;have d5:=fun {w K M} (h:Hp w0 w K (rdE g A n c k4::M)) (R:Tk K A n c toks)=>y5l L hL9 f h R q7;clear q5 q6 q7 q9 hb
 cases b with
 |false=>
  obtain ⟨rfl,rfl⟩:=Prod.mk.inj (o1 rfl);rw [if_neg (by decide)] at c6;clear o1 o2;go_enter Tryz.func99,Tryz.ntmps99
  go_wp2_with (first|(refine oL H ?_)|(refine oA 3 H ?_;clear H;intro w gd H)|(refine oP H ?_;clear H;intro w _ H)|((with_reducible refine (c1 H.up).mono ?_);clear H;rintro e w ⟨rfl,H⟩)|((with_reducible refine (c2 H.up).mono ?_);clear H;rintro e w ⟨rfl,H⟩)|((with_reducible refine (c3 H.up).mono ?_);clear H;rintro e w ⟨rfl,H⟩)|((with_reducible refine (y2s H hkd).mono ?_);clear H;rintro e w ⟨rfl,H⟩)|((with_reducible refine (c4 H.up).mono ?_);clear H;rintro e w ⟨rfl,H⟩)|((with_reducible refine (c6 H.up).mono ?_);clear H;rintro e w ⟨rfl,H⟩)|((with_reducible refine (d5 H.up R).mono ?_);clear H;rintro e w ⟨K2,Ad,cd,rfl,hle2,H,hd⟩;replace R:=R.sat hle2)|((with_reducible refine (y6e 52 10 y0u rfl (fun v=>defU (.int .i64 4) (.bool ext) (.bool nh) (.bool nb) (.string (str nt)) (.string (str tn)) (.slice none 0 0) (.slice Ad ds.length cd) v (.slice none 0 0) (.slice none 0 0) (.slice none 0 0) (.slice none 0 0) (.bool false) (.slice none 0 0) (.int .i64 tl) (.int .i64 tc)) 4 (.inr (.inr (.inl rfl))) (fun _=>⟨_,rfl⟩) (y2y toks L f) (fun K w k A' c' vs done r h1 h2 h3 R H=>y8l rfl rfl h1 hL9 h2 h3 R H) q8 R H.fin).mono ?_);clear H;rintro e w ⟨K3,Af,cf,rfl,hle3,H,hf⟩))
  refine oB H ?_;exact ⟨K3,_,rfl,hle3.trans hle2,H.fin,y18 (Dat.nil (Qab _)) (hd.sat hle3) hf (Dat.nil (Qab _)) (Dat.nil (Qab _)) (Dat.nil (Qab _)) (Dat.nil (Qab _)) (Dat.nil (Qab _))⟩
 |true=>
  rw [if_pos rfl] at c6;have c7:=fun {w M} (h:Hp w0 w K (rdE g A n c (k3+1)::M))=>z0k h R [38] L hL (o2 rfl) (s:=⟨#[38]⟩);clear o1 o2;go_enter Tryz.func99,Tryz.ntmps99
  go_wp2_with (first|(refine oL H ?_)|(refine oA 3 H ?_;clear H;intro w gd H)|(refine oP H ?_;clear H;intro w _ H)|((with_reducible refine (c1 H.up).mono ?_);clear H;rintro e w ⟨rfl,H⟩)|((with_reducible refine (c2 H.up).mono ?_);clear H;rintro e w ⟨rfl,H⟩)|((with_reducible refine (c3 H.up).mono ?_);clear H;rintro e w ⟨rfl,H⟩)|((with_reducible refine (y2s H hkd).mono ?_);clear H;rintro e w ⟨rfl,H⟩)|((with_reducible refine (c4 H.up).mono ?_);clear H;rintro e w ⟨rfl,H⟩)|((with_reducible refine (c6 H.up).mono ?_);clear H;rintro e w ⟨rfl,H⟩)|((with_reducible refine (c7 H.up).mono ?_);clear H;rintro e w ⟨K1,Ai,ci,rfl,hle1,H,hi⟩;replace R:=R.sat hle1)|((with_reducible refine (d5 H.up R).mono ?_);clear H;rintro e w ⟨K2,Ad,cd,rfl,hle2,H,hd⟩;replace R:=R.sat hle2)|((with_reducible refine (y6e 52 10 y0u rfl (fun v=>defU (.int .i64 4) (.bool ext) (.bool nh) (.bool nb) (.string (str nt)) (.string (str tn)) (.slice Ai ifs.length ci) (.slice Ad ds.length cd) v (.slice none 0 0) (.slice none 0 0) (.slice none 0 0) (.slice none 0 0) (.bool false) (.slice none 0 0) (.int .i64 tl) (.int .i64 tc)) 4 (.inr (.inr (.inl rfl))) (fun _=>⟨_,rfl⟩) (y2y toks L f) (fun K w k A' c' vs done r h1 h2 h3 R H=>y8l rfl rfl h1 hL9 h2 h3 R H) q8 R H.fin).mono ?_);clear H;rintro e w ⟨K3,Af,cf,rfl,hle3,H,hf⟩))
  refine oB H ?_;exact ⟨K3,_,rfl,hle3.trans (hle2.trans hle1),H.fin,y18 (hi.sat (hle3.trans hle2)) (hd.sat hle3) hf (Dat.nil (Qab _)) (Dat.nil (Qab _)) (Dat.nil (Qab _)) (Dat.nil (Qab _)) (Dat.nil (Qab _))⟩
theorem x9x (hL:L≤3000000) (R:Tk K A n c toks) (H:Hp w0 w K (rdE g A n c k::M)) {h:NoteD×Bool×TokD×Nat} (hh:y36 toks k=some h) (hkd:y43 h.2.2.1.text=5) {r:DefD×Nat} (hr:y5h toks L f h=some r):
  Calls Tryz.prog 99 #[.pointer (some ⟨g,0,none⟩)] w fun e w'=>∃K' cs,e= .returned (.agg cs)∧Sat K' K∧Hp w0 w' K' (rdE g A n c r.2::M)∧RL K' (defL r.1) cs.toList:=by
 have hlen:=R.len
 have hL9:L≤9000000:=by omega
 unfold y36 at hh;simp only [Qag] at hh;obtain ⟨⟨⟨nh,nb,nt⟩,k0⟩,q1,t0,q2,t1,q3,hh⟩:=hh;injection hh with hh;subst hh;rw [hlen] at hr;dsimp only at q2 q3 hkd;have c1:=fun {w M} (h:Hp w0 w K (rdE g A n c k::M))=>y4w h R q1;have c2:=fun {w M} (h:Hp w0 w K (rdE g A n c k0::M))=>y0x h R q2 [101,120,116,101,110,100] (s:=⟨#[101,120,116,101,110,100]⟩);generalize (if isF t0 [101,120,116,101,110,100]=true then k0+1 else k0)=k1 at c2 q3 hr;generalize isF t0 [101,120,116,101,110,100]=ext at c2 hr;have c3:=fun {w M} (h:Hp w0 w K (rdE g A n c k1::M))=>y09 h R q3;generalize y0g n k1=k2 at c3 hr;obtain ⟨wk0,wl,wc,ws0,ws1,wn,wv⟩:=t1;simp only [y1c] at c3;clear q1 q2 q3;unfold y5h at hr;simp only [Qag] at hr
 try dsimp only at hr
 try rw [hlen] at hr
 obtain ⟨t,q5,hr⟩:=hr;have c4:=fun {w M} (h:Hp w0 w K (rdE g A n c k2::M))=>y09 h R q5;generalize y0g n k2=k3 at c4 hr;obtain ⟨tk0,tl,tc,ts0,ts1,tn,tv⟩:=t;simp only [y1c] at c4
 try dsimp only at hr
 obtain ⟨⟨ds,k4⟩,q6,⟨ms,k5⟩,q7,hr⟩:=hr;injection hr with hr;subst hr;obtain ⟨t4,b,q9,hb,o1,o2⟩:=z3y q7;have c6:=fun {w K M} (h:Hp w0 w K (rdE g A n c k4::M)) (R:Tk K A n c toks)=>y0x h R q9 [61] (s:=⟨#[61]⟩);rw [hb] at c6;have d5:=fun {w K M} (h:Hp w0 w K (rdE g A n c k3::M)) (R:Tk K A n c toks)=>y5l L hL9 f h R q6;clear q5 q6 q7 q9 hb
 cases b with
 |false=>
  obtain ⟨rfl,rfl⟩:=Prod.mk.inj (o1 rfl);rw [if_neg (by decide)] at c6;clear o1 o2;go_enter Tryz.func99,Tryz.ntmps99
  go_wp2_with (first|(refine oL H ?_)|(refine oA 3 H ?_;clear H;intro w gd H)|(refine oP H ?_;clear H;intro w _ H)|((with_reducible refine (c1 H.up).mono ?_);clear H;rintro e w ⟨rfl,H⟩)|((with_reducible refine (c2 H.up).mono ?_);clear H;rintro e w ⟨rfl,H⟩)|((with_reducible refine (c3 H.up).mono ?_);clear H;rintro e w ⟨rfl,H⟩)|((with_reducible refine (y2s H hkd).mono ?_);clear H;rintro e w ⟨rfl,H⟩)|((with_reducible refine (c4 H.up).mono ?_);clear H;rintro e w ⟨rfl,H⟩)|((with_reducible refine (d5 H.up R).mono ?_);clear H;rintro e w ⟨K2,Ad,cd,rfl,hle2,H,hd⟩;replace R:=R.sat hle2)|((with_reducible refine (c6 H.up R).mono ?_);clear H;rintro e w ⟨rfl,H⟩)|((with_reducible refine (z3z rfl rfl rfl rfl rfl H.up).mono ?_);clear H;rintro e w ⟨rfl,H⟩))
  refine oB H ?_;exact ⟨K2,_,rfl,hle2,H.fin,y18 (Dat.nil (Qab _)) hd (Dat.nil (Qab _)) (Dat.nil (Qab _)) (Dat.nil (Qab _)) (Dat.nil (Qab _)) (Dat.nil (Qab _)) (Dat.nil (Qab _))⟩
 |true=>
  rw [if_pos rfl] at c6;have c7:=fun {w K M} (h:Hp w0 w K (rdE g A n c (k4+1)::M)) (R:Tk K A n c toks)=>z0k h R [124] L hL (o2 rfl) (s:=⟨#[124]⟩);clear o1 o2;go_enter Tryz.func99,Tryz.ntmps99
  go_wp2_with (first|(refine oL H ?_)|(refine oA 3 H ?_;clear H;intro w gd H)|(refine oP H ?_;clear H;intro w _ H)|((with_reducible refine (c1 H.up).mono ?_);clear H;rintro e w ⟨rfl,H⟩)|((with_reducible refine (c2 H.up).mono ?_);clear H;rintro e w ⟨rfl,H⟩)|((with_reducible refine (c3 H.up).mono ?_);clear H;rintro e w ⟨rfl,H⟩)|((with_reducible refine (y2s H hkd).mono ?_);clear H;rintro e w ⟨rfl,H⟩)|((with_reducible refine (c4 H.up).mono ?_);clear H;rintro e w ⟨rfl,H⟩)|((with_reducible refine (d5 H.up R).mono ?_);clear H;rintro e w ⟨K2,Ad,cd,rfl,hle2,H,hd⟩;replace R:=R.sat hle2)|((with_reducible refine (c6 H.up R).mono ?_);clear H;rintro e w ⟨rfl,H⟩)|((with_reducible refine (c7 H.up R).mono ?_);clear H;rintro e w ⟨K3,Am,cm,rfl,hle3,H,hm⟩)|((with_reducible refine (z3z rfl rfl rfl rfl rfl H.up).mono ?_);clear H;rintro e w ⟨rfl,H⟩))
  refine oB H ?_;exact ⟨K3,_,rfl,hle3.trans hle2,H.fin,y18 (Dat.nil (Qab _)) (hd.sat hle3) (Dat.nil (Qab _)) (Dat.nil (Qab _)) hm (Dat.nil (Qab _)) (Dat.nil (Qab _)) (Dat.nil (Qab _))⟩
theorem q4x (hL:L≤3000000) (R:Tk K A n c toks) (H:Hp w0 w K (rdE g A n c k::M)) {h:NoteD×Bool×TokD×Nat} (hh:y36 toks k=some h) (hkd:y43 h.2.2.1.text=6) {r:DefD×Nat} (hr:y9k toks L f h=some r):
  Calls Tryz.prog 99 #[.pointer (some ⟨g,0,none⟩)] w fun e w'=>∃K' cs,e= .returned (.agg cs)∧Sat K' K∧Hp w0 w' K' (rdE g A n c r.2::M)∧RL K' (defL r.1) cs.toList:=by
 have hlen:=R.len
 have hL9:L≤9000000:=by omega
 unfold y36 at hh;simp only [Qag] at hh;obtain ⟨⟨⟨nh,nb,nt⟩,k0⟩,q1,t0,q2,t1,q3,hh⟩:=hh;injection hh with hh;subst hh;rw [hlen] at hr;dsimp only at q2 q3 hkd;have c1:=fun {w M} (h:Hp w0 w K (rdE g A n c k::M))=>y4w h R q1;have c2:=fun {w M} (h:Hp w0 w K (rdE g A n c k0::M))=>y0x h R q2 [101,120,116,101,110,100] (s:=⟨#[101,120,116,101,110,100]⟩);generalize (if isF t0 [101,120,116,101,110,100]=true then k0+1 else k0)=k1 at c2 q3 hr;generalize isF t0 [101,120,116,101,110,100]=ext at c2 hr;have c3:=fun {w M} (h:Hp w0 w K (rdE g A n c k1::M))=>y09 h R q3;generalize y0g n k1=k2 at c3 hr;obtain ⟨wk0,wl,wc,ws0,ws1,wn,wv⟩:=t1;simp only [y1c] at c3;clear q1 q2 q3;unfold y9k at hr;simp only [Qag] at hr
 try dsimp only at hr
 try rw [hlen] at hr
 obtain ⟨t,q5,hr⟩:=hr;have c4:=fun {w M} (h:Hp w0 w K (rdE g A n c k2::M))=>y09 h R q5;generalize y0g n k2=k3 at c4 hr;obtain ⟨tk0,tl,tc,ts0,ts1,tn,tv⟩:=t;simp only [y1c] at c4
 try dsimp only at hr
 obtain ⟨⟨ds,k4⟩,q6,⟨rs,k5⟩,q8,hr⟩:=hr;have d5:=fun {w K M} (h:Hp w0 w K (rdE g A n c k3::M)) (R:Tk K A n c toks)=>y5l L hL9 f h R q6;injection hr with hr;subst hr;clear q5 q6;go_enter Tryz.func99,Tryz.ntmps99
 go_wp2_with (first|(refine oL H ?_)|(refine oA 3 H ?_;clear H;intro w gd H)|(refine oP H ?_;clear H;intro w _ H)|((with_reducible refine (c1 H.up).mono ?_);clear H;rintro e w ⟨rfl,H⟩)|((with_reducible refine (c2 H.up).mono ?_);clear H;rintro e w ⟨rfl,H⟩)|((with_reducible refine (c3 H.up).mono ?_);clear H;rintro e w ⟨rfl,H⟩)|((with_reducible refine (y2s H hkd).mono ?_);clear H;rintro e w ⟨rfl,H⟩)|((with_reducible refine (c4 H.up).mono ?_);clear H;rintro e w ⟨rfl,H⟩)|((with_reducible refine (d5 H.up R).mono ?_);clear H;rintro e w ⟨K2,Ad,cd,rfl,hle2,H,hd⟩;replace R:=R.sat hle2)|((with_reducible refine (y6e 133 7 y12 rfl (fun v=>defU (.int .i64 6) (.bool ext) (.bool nh) (.bool nb) (.string (str nt)) (.string (str tn)) (.slice none 0 0) (.slice Ad ds.length cd) (.slice none 0 0) (.slice none 0 0) (.slice none 0 0) v (.slice none 0 0) (.bool false) (.slice none 0 0) (.int .i64 tl) (.int .i64 tc)) 6 (.inr (.inr (.inr rfl))) (fun _=>⟨_,rfl⟩) (y3q toks L f) (fun K w k A' c' vs done r h1 h2 h3 R H=>x6g h1 hL9 h2 h3 R H) q8 R H.fin).mono ?_);clear H;rintro e w ⟨K3,Ar,cr,rfl,hle3,H,hr⟩))
 refine oB H ?_;exact ⟨K3,_,rfl,hle3.trans hle2,H.fin,y18 (Dat.nil (Qab _)) (hd.sat hle3) (Dat.nil (Qab _)) (Dat.nil (Qab _)) (Dat.nil (Qab _)) hr (Dat.nil (Qab _)) (Dat.nil (Qab _))⟩
theorem x9y (hL:L≤3000000) (R:Tk K A n c toks) (H:Hp w0 w K (rdE g A n c k::M)) {h:NoteD×Bool×TokD×Nat} (hh:y36 toks k=some h) (hkd:y43 h.2.2.1.text=7) {r:DefD×Nat} (hr:y5i toks L f h=some r):
  Calls Tryz.prog 99 #[.pointer (some ⟨g,0,none⟩)] w fun e w'=>∃K' cs,e= .returned (.agg cs)∧Sat K' K∧Hp w0 w' K' (rdE g A n c r.2::M)∧RL K' (defL r.1) cs.toList:=by
 have hlen:=R.len
 have hL9:L≤9000000:=by omega
 unfold y36 at hh;simp only [Qag] at hh;obtain ⟨⟨⟨nh,nb,nt⟩,k0⟩,q1,t0,q2,t1,q3,hh⟩:=hh;injection hh with hh;subst hh;rw [hlen] at hr;dsimp only at q2 q3 hkd;have c1:=fun {w M} (h:Hp w0 w K (rdE g A n c k::M))=>y4w h R q1;have c2:=fun {w M} (h:Hp w0 w K (rdE g A n c k0::M))=>y0x h R q2 [101,120,116,101,110,100] (s:=⟨#[101,120,116,101,110,100]⟩);generalize (if isF t0 [101,120,116,101,110,100]=true then k0+1 else k0)=k1 at c2 q3 hr;generalize isF t0 [101,120,116,101,110,100]=ext at c2 hr;have c3:=fun {w M} (h:Hp w0 w K (rdE g A n c k1::M))=>y09 h R q3;generalize y0g n k1=k2 at c3 hr;obtain ⟨wk0,wl,wc,ws0,ws1,wn,wv⟩:=t1;simp only [y1c] at c3;clear q1 q2 q3;unfold y5i at hr;simp only [Qag] at hr
 try dsimp only at hr
 try rw [hlen] at hr
 obtain ⟨t,q5,hr⟩:=hr;have c4:=fun {w M} (h:Hp w0 w K (rdE g A n c k2::M))=>y09 h R q5;generalize y0g n k2=k3 at c4 hr;obtain ⟨tk0,tl,tc,ts0,ts1,tn,tv⟩:=t;simp only [y1c] at c4
 try dsimp only at hr
 obtain ⟨⟨ds,k4⟩,q6,⟨is,k5⟩,q8,hr⟩:=hr;have d5:=fun {w K M} (h:Hp w0 w K (rdE g A n c k3::M)) (R:Tk K A n c toks)=>y5l L hL9 f h R q6;injection hr with hr;subst hr;clear q5 q6;go_enter Tryz.func99,Tryz.ntmps99
 go_wp2_with (first|(refine oL H ?_)|(refine oA 3 H ?_;clear H;intro w gd H)|(refine oP H ?_;clear H;intro w _ H)|((with_reducible refine (c1 H.up).mono ?_);clear H;rintro e w ⟨rfl,H⟩)|((with_reducible refine (c2 H.up).mono ?_);clear H;rintro e w ⟨rfl,H⟩)|((with_reducible refine (c3 H.up).mono ?_);clear H;rintro e w ⟨rfl,H⟩)|((with_reducible refine (y2s H hkd).mono ?_);clear H;rintro e w ⟨rfl,H⟩)|((with_reducible refine (c4 H.up).mono ?_);clear H;rintro e w ⟨rfl,H⟩)|((with_reducible refine (d5 H.up R).mono ?_);clear H;rintro e w ⟨K2,Ad,cd,rfl,hle2,H,hd⟩;replace R:=R.sat hle2)|((with_reducible refine (x9w hL9 q8 R H.fin).mono ?_);clear H;rintro e w ⟨K3,Ar,cr,rfl,hle3,H,hr⟩))
 refine oB H ?_;exact ⟨K3,_,rfl,hle3.trans hle2,H.fin,y18 (Dat.nil (Qab _)) (hd.sat hle3) (Dat.nil (Qab _)) hr (Dat.nil (Qab _)) (Dat.nil (Qab _)) (Dat.nil (Qab _)) (Dat.nil (Qab _))⟩
theorem q8h (hL:L≤3000000) (R:Tk K A n c toks) (H:Hp w0 w K (rdE g A n c k::M)) {h:NoteD×Bool×TokD×Nat} (hh:y36 toks k=some h) (hkd:y43 h.2.2.1.text=8) {r:DefD×Nat} (hr:dirF toks L f h=some r):
  Calls Tryz.prog 99 #[.pointer (some ⟨g,0,none⟩)] w fun e w'=>∃K' cs,e= .returned (.agg cs)∧Sat K' K∧Hp w0 w' K' (rdE g A n c r.2::M)∧RL K' (defL r.1) cs.toList:=by
 have hlen:=R.len
 have hL9:L≤9000000:=by omega
 unfold y36 at hh;simp only [Qag] at hh;obtain ⟨⟨⟨nh,nb,nt⟩,k0⟩,q1,t0,q2,t1,q3,hh⟩:=hh;injection hh with hh;subst hh;rw [hlen] at hr;dsimp only at q2 q3 hkd;have c1:=fun {w M} (h:Hp w0 w K (rdE g A n c k::M))=>y4w h R q1;have c2:=fun {w M} (h:Hp w0 w K (rdE g A n c k0::M))=>y0x h R q2 [101,120,116,101,110,100] (s:=⟨#[101,120,116,101,110,100]⟩);generalize (if isF t0 [101,120,116,101,110,100]=true then k0+1 else k0)=k1 at c2 q3 hr;generalize isF t0 [101,120,116,101,110,100]=ext at c2 hr;have c3:=fun {w M} (h:Hp w0 w K (rdE g A n c k1::M))=>y09 h R q3;generalize y0g n k1=k2 at c3 hr;obtain ⟨wk0,wl,wc,ws0,ws1,wn,wv⟩:=t1;simp only [y1c] at c3;clear q1 q2 q3;unfold dirF at hr;simp only [Qag] at hr
 try dsimp only at hr
 try rw [hlen] at hr
 obtain ⟨t2,r1,t3,r2,⟨is,k4⟩,r3,t5,r4,t6,r5,⟨ps,k6⟩,r6,hr⟩:=hr;injection hr with hr;subst hr;dsimp only at r4 r5 r6;have e1:=fun {w M} (h:Hp w0 w K (rdE g A n c k2::M))=>y0x h R r1 [64] (s:=⟨#[64]⟩);generalize (if isF t2 [64]=true then k2+1 else k2)=j1 at e1 r2 r3;have c4:=fun {w M} (h:Hp w0 w K (rdE g A n c j1::M))=>y09 h R r2;generalize y0g n j1=j2 at c4 r3;have e2:=fun {w M} (h:Hp w0 w K (rdE g A n c j2::M))=>z3x L hL9 f [40] [41] h R r3 (s1:=⟨#[40]⟩) (s2:=⟨#[41]⟩);have e3:=fun {w K M} (h:Hp w0 w K (rdE g A n c k4::M)) (R:Tk K A n c toks)=>y0x h R r4 [114,101,112,101,97,116,97,98,108,101] (s:=⟨#[114,101,112,101,97,116,97,98,108,101]⟩);generalize (if isF t5 [114,101,112,101,97,116,97,98,108,101]=true then k4+1 else k4)=j3 at e3 r5 r6;generalize isF t5 [114,101,112,101,97,116,97,98,108,101]=rep at e3 ⊢;have e4:=fun {w K M} (h:Hp w0 w K (rdE g A n c j3::M)) (R:Tk K A n c toks)=>y0x h R r5 [111,110] (s:=⟨#[111,110]⟩);generalize (if isF t6 [111,110]=true then j3+1 else j3)=j4 at e4 r6;have e5:=fun {w K M} (h:Hp w0 w K (rdE g A n c j4::M)) (R:Tk K A n c toks)=>z0k h R [124] L hL r6 (s:=⟨#[124]⟩);obtain ⟨tk0,tl,tc,ts0,ts1,tn,tv⟩:=t3;simp only [y1c] at c4;clear r1 r2 r3 r4 r5 r6;go_enter Tryz.func99,Tryz.ntmps99
 go_wp2_with (first|(refine oL H ?_)|(refine oA 3 H ?_;clear H;intro w gd H)|(refine oP H ?_;clear H;intro w _ H)|((with_reducible refine (c1 H.up).mono ?_);clear H;rintro e w ⟨rfl,H⟩)|((with_reducible refine (c2 H.up).mono ?_);clear H;rintro e w ⟨rfl,H⟩)|((with_reducible refine (c3 H.up).mono ?_);clear H;rintro e w ⟨rfl,H⟩)|((with_reducible refine (y2s H hkd).mono ?_);clear H;rintro e w ⟨rfl,H⟩)|((with_reducible refine (c4 H.up).mono ?_);clear H;rintro e w ⟨rfl,H⟩)|((with_reducible refine (e1 H.up).mono ?_);clear H;rintro e w ⟨rfl,H⟩)|((with_reducible refine (e2 H.up).mono ?_);clear H;rintro e w ⟨K2,Ai,ci,rfl,hle2,H,hi⟩;replace R:=R.sat hle2)|((with_reducible refine (e3 H.up R).mono ?_);clear H;rintro e w ⟨rfl,H⟩)|((with_reducible refine (e4 H.up R).mono ?_);clear H;rintro e w ⟨rfl,H⟩)|((with_reducible refine (e5 H.up R).mono ?_);clear H;rintro e w ⟨K3,Ap,cp,rfl,hle3,H,hp⟩))
 refine oB H ?_;exact ⟨K3,_,rfl,hle3.trans hle2,H.fin,y18 (Dat.nil (Qab _)) (Dat.nil (Qab _)) (Dat.nil (Qab _)) (hi.sat hle3) (Dat.nil (Qab _)) (Dat.nil (Qab _)) (Dat.nil (Qab _)) hp⟩
theorem def_hp (hL:L≤3000000) (R:Tk K A n c toks) (H:Hp w0 w K (rdE g A n c k::M)) {r:DefD×Nat} (hr:defF toks L f k=some r):
  Calls Tryz.prog 99 #[.pointer (some ⟨g,0,none⟩)] w fun e w'=>∃K' cs,e= .returned (.agg cs)∧Sat K' K∧Hp w0 w' K' (rdE g A n c r.2::M)∧RL K' (defL r.1) cs.toList:=by
 obtain ⟨h,hh,hr⟩:=Qag.1 hr;unfold y3v at hr;split at hr
 ·exact x6h hL R H hh ‹_› hr
 ·exact x6i hL R H hh ‹_› hr
 ·exact q4v hL R H hh ‹_› hr
 ·exact q4w hL R H hh ‹_› hr
 ·exact x9x hL R H hh ‹_› hr
 ·exact q4x hL R H hh ‹_› hr
 ·exact x9y hL R H hh ‹_› hr
 ·exact q8h hL R H hh ‹_› hr
 ·cases hr
end
end Go.Proofs.YtbpgkkoeehopjaaGreat.hp
