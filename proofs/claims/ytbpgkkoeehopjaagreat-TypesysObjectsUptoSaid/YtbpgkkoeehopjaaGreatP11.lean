/- Part 11 of 17 of a proof: see the last part. -/
import Derived.Test.YtbpgkkoeehopjaaGreatP5
import Derived.Test.YtbpgkkoeehopjaaGreatP7
import Derived.Test.YtbpgkkoeehopjaaGreatP10
set_option linter.unusedVariables false
set_option linter.unusedSimpArgs false
namespace Go.Proofs.YtbpgkkoeehopjaaGreat.hp
open Go.RowKit words enc tree gram lex rd dec dat held
set_option maxRecDepth 100000
set_option maxHeartbeats 40000000
attribute [local go_sem ↓] Go.wp_at_zero Go.wp_at_succ
def fD (s t u:Txt):FieldD:=⟨y5j,s,[],(t,u),[],0,0⟩
def aD (s t:Txt):FieldD:=⟨y5j,s,[incD],(t,[33,93]),[],0,0⟩
def scD (s:Txt):DefD:=⟨2,false,y5j,s,[],[],[],[],[],[],[],false,[],0,0⟩
def obD (s:Txt) (l:List FieldD):DefD:=⟨3,false,y5j,s,[],[],l,[],[],[],[],false,[],0,0⟩
def enD (s:Txt) (l:List Txt):DefD:=⟨6,false,y5j,s,[],[],[],[],[],l.map valD,[],false,[],0,0⟩
section
variable {K : World}
theorem rf_f {s t u:Txt} {r:List FieldD} {ys:List Value} (h:RL K (y0r r) ys):RL K (y0r (fD s t u::r)) (.bool false:: .bool false:: .string ⟨#[]⟩:: .string (str s):: .slice none 0 0:: .string (str t):: .string (str u):: .slice none 0 0:: .int .i64 0:: .int .i64 0::ys):=
 .lit (.lit (.lit (.lit (.cons RD.z (.lit (.lit (.cons RD.z (.lit (.lit h)))))))))
theorem rf_a {s t:Txt} {r:List FieldD} {ys:List Value} {v:Value} (h:RL K (y0r r) ys) (hi:RD K (.list 1 (y0l [incD])) v):RL K (y0r (aD s t::r)) (.bool false:: .bool false:: .string ⟨#[]⟩:: .string (str s)::v:: .string (str t):: .string ⟨#[33,93]⟩:: .slice none 0 0:: .int .i64 0:: .int .i64 0::ys):=
 .lit (.lit (.lit (.lit (.cons hi (.lit (.lit (.cons RD.z (.lit (.lit h)))))))))
theorem rt_s {x:Txt} {r:List Txt} {ys:List Value} (h:RL K (y0t r) ys):RL K (y0t (x::r)) (.string (str x)::ys):=.lit h
theorem q6u:RL K (y0q []) []:=RL.z
theorem q7r {s:Txt}:RL K (defL (scD s)) [.int .i64 2,.bool false,.bool false,.bool false,.string ⟨#[]⟩,.string (str s),.slice none 0 0,.slice none 0 0,.slice none 0 0,.slice none 0 0,.slice none 0 0,.slice none 0 0,.slice none 0 0,.bool false,.slice none 0 0,.int .i64 0,.int .i64 0]:=
 y06 RD.z RD.z RD.z RD.z RD.z RD.z RD.z RD.z
theorem x41 {s:Txt} {l:List FieldD} {v:Value} {r:List DefD} {ys:List Value} (h:RL K (y0q r) ys) (hl:RD K (.list l.length (y0r l)) v):RL K (y0q (obD s l::r)) (.int .i64 3:: .bool false:: .bool false:: .bool false:: .string ⟨#[]⟩:: .string (str s):: .slice none 0 0:: .slice none 0 0::v:: .slice none 0 0:: .slice none 0 0:: .slice none 0 0:: .slice none 0 0:: .bool false:: .slice none 0 0:: .int .i64 0:: .int .i64 0::ys):=
 DatL.app (y06 RD.z RD.z hl RD.z RD.z RD.z RD.z RD.z) h
theorem q6v {s:Txt} {l:List Txt} {v:Value} {r:List DefD} {ys:List Value} (h:RL K (y0q r) ys) (hl:RD K (.list l.length (y08 (l.map valD))) v):RL K (y0q (enD s l::r)) (.int .i64 6:: .bool false:: .bool false:: .bool false:: .string ⟨#[]⟩:: .string (str s):: .slice none 0 0:: .slice none 0 0:: .slice none 0 0:: .slice none 0 0:: .slice none 0 0::v:: .slice none 0 0:: .bool false:: .slice none 0 0:: .int .i64 0:: .int .i64 0::ys):=
 DatL.app (y06 RD.z RD.z RD.z RD.z RD.z (by simpa using hl) RD.z RD.z) h
theorem x2g {l:List Txt} {x:Txt} {vs:List Value} (h:RL K (y0q (l.map scD)) vs):RL K (y0q ((l++[x]).map scD)) (vs++[.int .i64 2,.bool false,.bool false,.bool false,.string ⟨#[]⟩,.string (str x),.slice none 0 0,.slice none 0 0,.slice none 0 0,.slice none 0 0,.slice none 0 0,.slice none 0 0,.slice none 0 0,.bool false,.slice none 0 0,.int .i64 0,.int .i64 0]):=by
 rw [Qas];unfold y0q at h ⊢;rw [Qbu];exact h.app (by simpa using q7r)
end
def scalT:List Txt:=[[73,110,116],[70,108,111,97,116],[83,116,114,105,110,103],[66,111,111,108,101,97,110],[73,68]]
def gf0:List FieldD:=[fD [100,101,115,99,114,105,112,116,105,111,110] [83,116,114,105,110,103] [],fD [116,121,112,101,115] [95,95,84,121,112,101] [33,93,33],fD [113,117,101,114,121,84,121,112,101] [95,95,84,121,112,101] [33],fD [109,117,116,97,116,105,111,110,84,121,112,101] [95,95,84,121,112,101] [],fD [115,117,98,115,99,114,105,112,116,105,111,110,84,121,112,101] [95,95,84,121,112,101] [],fD [100,105,114,101,99,116,105,118,101,115] [95,95,68,105,114,101,99,116,105,118,101] [33,93,33]]
def gd0:DefD:=obD [95,95,83,99,104,101,109,97] gf0
def gf1:List FieldD:=[fD [107,105,110,100] [95,95,84,121,112,101,75,105,110,100] [33],fD [110,97,109,101] [83,116,114,105,110,103] [],fD [100,101,115,99,114,105,112,116,105,111,110] [83,116,114,105,110,103] [],fD [115,112,101,99,105,102,105,101,100,66,121,85,82,76] [83,116,114,105,110,103] [],aD [102,105,101,108,100,115] [95,95,70,105,101,108,100],fD [105,110,116,101,114,102,97,99,101,115] [95,95,84,121,112,101] [33,93],fD [112,111,115,115,105,98,108,101,84,121,112,101,115] [95,95,84,121,112,101] [33,93],aD [101,110,117,109,86,97,108,117,101,115] [95,95,69,110,117,109,86,97,108,117,101],fD [105,110,112,117,116,70,105,101,108,100,115] [95,95,73,110,112,117,116,86,97,108,117,101] [33,93],fD [111,102,84,121,112,101] [95,95,84,121,112,101] []]
def gd1:DefD:=obD [95,95,84,121,112,101] gf1
def ge2:List Txt:=[[83,67,65,76,65,82],[79,66,74,69,67,84],[73,78,84,69,82,70,65,67,69],[85,78,73,79,78],[69,78,85,77],[73,78,80,85,84,95,79,66,74,69,67,84],[76,73,83,84],[78,79,78,95,78,85,76,76]]
def gd2:DefD:=enD [95,95,84,121,112,101,75,105,110,100] ge2
def gf3:List FieldD:=[fD [110,97,109,101] [83,116,114,105,110,103] [33],fD [100,101,115,99,114,105,112,116,105,111,110] [83,116,114,105,110,103] [],fD [97,114,103,115] [95,95,73,110,112,117,116,86,97,108,117,101] [33,93,33],fD [116,121,112,101] [95,95,84,121,112,101] [33],fD [105,115,68,101,112,114,101,99,97,116,101,100] [66,111,111,108,101,97,110] [33],fD [100,101,112,114,101,99,97,116,105,111,110,82,101,97,115,111,110] [83,116,114,105,110,103] []]
def gd3:DefD:=obD [95,95,70,105,101,108,100] gf3
def gf4:List FieldD:=[fD [110,97,109,101] [83,116,114,105,110,103] [33],fD [100,101,115,99,114,105,112,116,105,111,110] [83,116,114,105,110,103] [],fD [116,121,112,101] [95,95,84,121,112,101] [33],fD [100,101,102,97,117,108,116,86,97,108,117,101] [83,116,114,105,110,103] []]
def gd4:DefD:=obD [95,95,73,110,112,117,116,86,97,108,117,101] gf4
def gf5:List FieldD:=[fD [110,97,109,101] [83,116,114,105,110,103] [33],fD [100,101,115,99,114,105,112,116,105,111,110] [83,116,114,105,110,103] [],fD [105,115,68,101,112,114,101,99,97,116,101,100] [66,111,111,108,101,97,110] [33],fD [100,101,112,114,101,99,97,116,105,111,110,82,101,97,115,111,110] [83,116,114,105,110,103] []]
def gd5:DefD:=obD [95,95,69,110,117,109,86,97,108,117,101] gf5
def gf6:List FieldD:=[fD [110,97,109,101] [83,116,114,105,110,103] [33],fD [100,101,115,99,114,105,112,116,105,111,110] [83,116,114,105,110,103] [],fD [108,111,99,97,116,105,111,110,115] [95,95,68,105,114,101,99,116,105,118,101,76,111,99,97,116,105,111,110] [33,93,33],fD [97,114,103,115] [95,95,73,110,112,117,116,86,97,108,117,101] [33,93,33],fD [105,115,82,101,112,101,97,116,97,98,108,101] [66,111,111,108,101,97,110] [33]]
def gd6:DefD:=obD [95,95,68,105,114,101,99,116,105,118,101] gf6
def ge7:List Txt:=[[81,85,69,82,89],[77,85,84,65,84,73,79,78],[83,85,66,83,67,82,73,80,84,73,79,78],[70,73,69,76,68],[70,82,65,71,77,69,78,84,95,68,69,70,73,78,73,84,73,79,78],[70,82,65,71,77,69,78,84,95,83,80,82,69,65,68],[73,78,76,73,78,69,95,70,82,65,71,77,69,78,84],[86,65,82,73,65,66,76,69,95,68,69,70,73,78,73,84,73,79,78],[83,67,72,69,77,65],[83,67,65,76,65,82],[79,66,74,69,67,84],[70,73,69,76,68,95,68,69,70,73,78,73,84,73,79,78],[65,82,71,85,77,69,78,84,95,68,69,70,73,78,73,84,73,79,78],[73,78,84,69,82,70,65,67,69],[85,78,73,79,78],[69,78,85,77],[69,78,85,77,95,86,65,76,85,69],[73,78,80,85,84,95,79,66,74,69,67,84],[73,78,80,85,84,95,70,73,69,76,68,95,68,69,70,73,78,73,84,73,79,78]]
def gd7:DefD:=enD [95,95,68,105,114,101,99,116,105,118,101,76,111,99,97,116,105,111,110] ge7
def givenT:List DefD:=scalT.map scD++[gd0,gd1,gd2,gd3,gd4,gd5,gd6,gd7]
theorem q7s {K:World} {v:Value} (h:RD K (.list (5+8) (y0q (scalT.map scD)++y0q [gd0,gd1,gd2,gd3,gd4,gd5,gd6,gd7])) v):RD K (.list givenT.length (y0q givenT)) v:=by
 rw [show givenT.length=5+8 from rfl,show y0q givenT=y0q (scalT.map scD)++y0q [gd0,gd1,gd2,gd3,gd4,gd5,gd6,gd7] from by unfold givenT y0q;rw [Qbu]];exact h
def BtP (l:List DefD) (w0 K:World) (M:List Ent) (e:Ending) (w':World):Prop:=
 ∃K' A c,e= .returned (.slice A l.length c)∧Sat K' K∧Hp w0 w' K' M∧RD K' (.list l.length (y0q l)) (.slice A l.length c)
def fV (f:FieldD) (v:Value):List Value:=[.bool false,.bool false,.string ⟨#[]⟩,.string (str f.name),v,.string (str f.ty.1),.string (str f.ty.2),.slice none 0 0,.int .i64 0,.int .i64 0]
def fVs (l:List FieldD):List Value:=l.flatMap fun f=>fV f (.slice none 0 0)
def z40 (f:FieldD):Prop:=f=fD f.name f.ty.1 f.ty.2
theorem z41 {K:World}: ∀{l:List FieldD},(∀f∈l,z40 f)→RL K (y0r l) (fVs l)
 |[],_=>RL.z
 |f::r,h=>by
  have e:f=fD f.name f.ty.1 f.ty.2:=h f (Qaz ..);rw [e];exact rf_f (z41 fun f hf=>h f (Qa2 _ hf))
theorem q2h {K:World}: ∀l:List Txt,RL K (y0t l) (l.map fun x=>.string (str x))
 |[]=>RL.z
 |x::r=>.lit (q2h r)
theorem q6w: ∀f∈gf0,z40 f:=by intro f hf;simp only [gf0,Qbd,List.mem_nil_iff,or_false] at hf;rcases hf with rfl|rfl|rfl|rfl|rfl|rfl<;>rfl
theorem q6x: ∀f∈gf3,z40 f:=by intro f hf;simp only [gf3,Qbd,List.mem_nil_iff,or_false] at hf;rcases hf with rfl|rfl|rfl|rfl|rfl|rfl<;>rfl
theorem q6y: ∀f∈gf4,z40 f:=by intro f hf;simp only [gf4,Qbd,List.mem_nil_iff,or_false] at hf;rcases hf with rfl|rfl|rfl|rfl<;>rfl
theorem q6z: ∀f∈gf5,z40 f:=by intro f hf;simp only [gf5,Qbd,List.mem_nil_iff,or_false] at hf;rcases hf with rfl|rfl|rfl|rfl<;>rfl
theorem q60: ∀f∈gf6,z40 f:=by intro f hf;simp only [gf6,Qbd,List.mem_nil_iff,or_false] at hf;rcases hf with rfl|rfl|rfl|rfl|rfl<;>rfl
def fV1 (v1 v2:Value):List Value:=fVs (gf1.take 4)++(fV (aD [102,105,101,108,100,115] [95,95,70,105,101,108,100]) v1++(fVs ((gf1.drop 5).take 2)++(fV (aD [101,110,117,109,86,97,108,117,101,115] [95,95,69,110,117,109,86,97,108,117,101]) v2++fVs (gf1.drop 8))))
theorem q61 {K:World} {v1 v2:Value} (h1:RD K (.list 1 (y0l [incD])) v1) (h2:RD K (.list 1 (y0l [incD])) v2):RL K (y0r gf1) (fV1 v1 v2):=rf_f (rf_f (rf_f (rf_f (rf_a (rf_f (rf_f (rf_a (rf_f (rf_f RL.z)) h2))) h1))))
def obC (s:Txt) (v:Value):List Value:=[.int .i64 3,.bool false,.bool false,.bool false,.string ⟨#[]⟩,.string (str s),.slice none 0 0,.slice none 0 0,v,.slice none 0 0,.slice none 0 0,.slice none 0 0,.slice none 0 0,.bool false,.slice none 0 0,.int .i64 0,.int .i64 0]
def enC (s:Txt) (v:Value):List Value:=[.int .i64 6,.bool false,.bool false,.bool false,.string ⟨#[]⟩,.string (str s),.slice none 0 0,.slice none 0 0,.slice none 0 0,.slice none 0 0,.slice none 0 0,v,.slice none 0 0,.bool false,.slice none 0 0,.int .i64 0,.int .i64 0]
def gV (v0 v1 v2 v3 v4 v5 v6 v7:Value):List Value:=obC [95,95,83,99,104,101,109,97] v0++(obC [95,95,84,121,112,101] v1++(enC [95,95,84,121,112,101,75,105,110,100] v2++(obC [95,95,70,105,101,108,100] v3++(obC [95,95,73,110,112,117,116,86,97,108,117,101] v4++(obC [95,95,69,110,117,109,86,97,108,117,101] v5++(obC [95,95,68,105,114,101,99,116,105,118,101] v6++(enC [95,95,68,105,114,101,99,116,105,118,101,76,111,99,97,116,105,111,110] v7)))))))
theorem q7t {K:World} {v0 v1 v2 v3 v4 v5 v6 v7:Value} (h0:RD K (.list gf0.length (y0r gf0)) v0) (h1:RD K (.list gf1.length (y0r gf1)) v1) (h2:RD K (.list ge2.length (y08 (ge2.map valD))) v2) (h3:RD K (.list gf3.length (y0r gf3)) v3) (h4:RD K (.list gf4.length (y0r gf4)) v4) (h5:RD K (.list gf5.length (y0r gf5)) v5) (h6:RD K (.list gf6.length (y0r gf6)) v6) (h7:RD K (.list ge7.length (y08 (ge7.map valD))) v7):RL K (y0q [gd0,gd1,gd2,gd3,gd4,gd5,gd6,gd7]) (gV v0 v1 v2 v3 v4 v5 v6 v7):=x41 (x41 (q6v (x41 (x41 (x41 (x41 (q6v (RL.z) h7) h6) h5) h4) h3) h2) h1) h0
section
variable {w0 w K : World} {M : List Ent}
theorem q7u {l:List Txt} {n c k:Nat} {A:Option Addr} (h:RD K (.list n (y0t l)) (.slice A n c)) (hk:k<l.length): ∃ad x,A=some ad∧l[k]?=some x∧At K (ad.add k) [.string (str x)]:=by
 obtain ⟨ad,vs,h1,h2,_,_,h5,h6⟩:=y8u (m:=1) (f:=fun x=>[str' x]) (fun _=>rfl) (y1s l▸h) (Qad hk) (by omega);obtain ⟨r0,rfl,h0⟩:=h2.lit_inv;obtain rfl:=h0.nil_inv;rw [Nat.mul_one] at h5 h6;exact ⟨ad,_,h1,Qad hk,h5,h6⟩
theorem z6j (w0 w K:World) (M:List Ent) (H:Hp w0 w K M):
  Calls Tryz.prog 56 #[] w (BtP givenT w0 K M):=by
 have hK:=Sat.refl K;go_enter Tryz.func56,Tryz.ntmps56
 go_upto_region 3 with (refine oA 4 H ?_ (hd:=dbS (cs:=scalT.map fun x=>.string (str x)) (hcs:=by kernel_rfl));clear H;intro w g4 H;have hq9:=H.freezeBox (n:=5) (ls:=y0t scalT) (q2h scalT) (by simp [maxLen]);clear H;obtain ⟨K1,hle1,H,h4⟩:=hq9)
 obtain ⟨A4,hA4⟩: ∃A:Option Addr,some ⟨g4,0,none⟩=A:=⟨_,rfl⟩;rw [hA4] at h4 ⊢;clear hA4;replace hK:=hle1.trans hK
 go_wp2_with fail
 replace H:=H.nilRow 43 17
 go_loopw [1,6] (fun v i wr=>∃(k:Nat) (A':Option Addr) (c':Nat) (vs:List Value),k≤5∧i= .int .i64 k∧v= .slice A' k c'∧RL K1 (y0q ((scalT.take k).map scD)) vs∧Hp w0 wr K1 (.row 43 17 (.slice A' k c') k vs::M)) (fun _ i _=>5 - (intOf i).toNat)
 case atStart=>exact ⟨0,none,0,[],Qak _,rfl,rfl,RL.z,H⟩
 case round=>
  clear H;obtain ⟨k,A',c',vs,hk,rfl,rfl,hvs,H⟩:=hrel;have h5:scalT.length=5:=rfl;by_cases hlt:k<5
  ·obtain ⟨ad,x,rfl,hx,hat⟩:=q7u h4 (k:=k) (by rw [h5];exact hlt)
   have hkI:(k:Int)<5:=by omega
   have hkJ:(k:Int)<((5:Nat):Int):=by omega
   have hwr:IntKind.i64.wrap ((k:Int)+1)=k+1:=IntWalk.i64_in _ (by omega);have HX:=hide (y0k hx);clear hx h5
   go_wp2_with (first|(refine oL H ?_)|(refine oP H ?_;clear H;intro w _ H)|(refine oQ H ?_;clear H;intro A' c' w _ _ H;dsimp only [List.set] at H))
   go_roundw
   case rel=>exact ⟨k+1,_,_,_,by omega,by go_num,rfl,by rw [HX.out];exact x2g hvs,H.fin⟩
   case measure=>simp [intOf];omega
  ·obtain rfl:k=5:=by omega
   rw [Qaj (by rw [h5];exact Qab _)] at hvs;clear h4 h5;have m1:True:=trivial;have m2:True:=trivial
   go_wp2_with (first|(go_at_call 101;refine (q2f _ _ _ _ _ _ _ H).mono ?_;clear H;rintro e w ⟨rfl,H⟩)|(go_at_call 100;refine (x8s _ _ _ _ _ _ _ _ H).mono ?_;clear H;rintro e w ⟨rfl,H⟩)|(go_at_call 102;clear m1;refine (q3p _ _ _ _ _ _ H).mono ?_;clear H;rintro e w ⟨K2,Aa,rfl,hle,H,ha1⟩;replace hK:=hle.trans hK;replace hvs:=hvs.sat hle;(try replace h23:=h23.sat hle);(try replace h35:=h35.sat hle);(try replace h37:=h37.sat hle);(try replace h45:=h45.sat hle);(try replace h51:=h51.sat hle);(try replace h57:=h57.sat hle);(try replace h64:=h64.sat hle);(try replace h66:=h66.sat hle);(try replace ha1:=ha1.sat hle);(try replace ha2:=ha2.sat hle);clear hle)|(go_at_call 102;clear m2;refine (q3p _ _ _ _ _ _ H).mono ?_;clear H;rintro e w ⟨K2,Ab,rfl,hle,H,ha2⟩;replace hK:=hle.trans hK;replace hvs:=hvs.sat hle;(try replace h23:=h23.sat hle);(try replace h35:=h35.sat hle);(try replace h37:=h37.sat hle);(try replace h45:=h45.sat hle);(try replace h51:=h51.sat hle);(try replace h57:=h57.sat hle);(try replace h64:=h64.sat hle);(try replace h66:=h66.sat hle);(try replace ha1:=ha1.sat hle);(try replace ha2:=ha2.sat hle);clear hle)|(refine oA 23 H ?_ (hd:=dbS (cs:=fVs gf0) (hcs:=by kernel_rfl));clear H;intro w g23 H;have hq9:=H.freezeBox (n:=6) (ls:=y0r gf0) (z41 q6w) (by simp [maxLen]);clear H;obtain ⟨K2,hle,H,h23⟩:=hq9;replace hK:=hle.trans hK;replace hvs:=hvs.sat hle;(try replace h23:=h23.sat hle);(try replace h35:=h35.sat hle);(try replace h37:=h37.sat hle);(try replace h45:=h45.sat hle);(try replace h51:=h51.sat hle);(try replace h57:=h57.sat hle);(try replace h64:=h64.sat hle);(try replace h66:=h66.sat hle);(try replace ha1:=ha1.sat hle);(try replace ha2:=ha2.sat hle);clear hle)|(refine oA 35 H ?_ (hd:=dbS (cs:=fV1 (.slice (some Aa) 1 1) (.slice (some Ab) 1 1)) (hcs:=by kernel_rfl));clear H;intro w g35 H;have hq9:=H.freezeBox (n:=10) (ls:=y0r gf1) (q61 ha1 ha2) (by simp [maxLen]);clear H;obtain ⟨K2,hle,H,h35⟩:=hq9;replace hK:=hle.trans hK;replace hvs:=hvs.sat hle;(try replace h23:=h23.sat hle);(try replace h35:=h35.sat hle);(try replace h37:=h37.sat hle);(try replace h45:=h45.sat hle);(try replace h51:=h51.sat hle);(try replace h57:=h57.sat hle);(try replace h64:=h64.sat hle);(try replace h66:=h66.sat hle);(try replace ha1:=ha1.sat hle);(try replace ha2:=ha2.sat hle);clear hle)|(refine oA 45 H ?_ (hd:=dbS (cs:=fVs gf3) (hcs:=by kernel_rfl));clear H;intro w g45 H;have hq9:=H.freezeBox (n:=6) (ls:=y0r gf3) (z41 q6x) (by simp [maxLen]);clear H;obtain ⟨K2,hle,H,h45⟩:=hq9;replace hK:=hle.trans hK;replace hvs:=hvs.sat hle;(try replace h23:=h23.sat hle);(try replace h35:=h35.sat hle);(try replace h37:=h37.sat hle);(try replace h45:=h45.sat hle);(try replace h51:=h51.sat hle);(try replace h57:=h57.sat hle);(try replace h64:=h64.sat hle);(try replace h66:=h66.sat hle);(try replace ha1:=ha1.sat hle);(try replace ha2:=ha2.sat hle);clear hle)|(refine oA 51 H ?_ (hd:=dbS (cs:=fVs gf4) (hcs:=by kernel_rfl));clear H;intro w g51 H;have hq9:=H.freezeBox (n:=4) (ls:=y0r gf4) (z41 q6y) (by simp [maxLen]);clear H;obtain ⟨K2,hle,H,h51⟩:=hq9;replace hK:=hle.trans hK;replace hvs:=hvs.sat hle;(try replace h23:=h23.sat hle);(try replace h35:=h35.sat hle);(try replace h37:=h37.sat hle);(try replace h45:=h45.sat hle);(try replace h51:=h51.sat hle);(try replace h57:=h57.sat hle);(try replace h64:=h64.sat hle);(try replace h66:=h66.sat hle);(try replace ha1:=ha1.sat hle);(try replace ha2:=ha2.sat hle);clear hle)|(refine oA 57 H ?_ (hd:=dbS (cs:=fVs gf5) (hcs:=by kernel_rfl));clear H;intro w g57 H;have hq9:=H.freezeBox (n:=4) (ls:=y0r gf5) (z41 q6z) (by simp [maxLen]);clear H;obtain ⟨K2,hle,H,h57⟩:=hq9;replace hK:=hle.trans hK;replace hvs:=hvs.sat hle;(try replace h23:=h23.sat hle);(try replace h35:=h35.sat hle);(try replace h37:=h37.sat hle);(try replace h45:=h45.sat hle);(try replace h51:=h51.sat hle);(try replace h57:=h57.sat hle);(try replace h64:=h64.sat hle);(try replace h66:=h66.sat hle);(try replace ha1:=ha1.sat hle);(try replace ha2:=ha2.sat hle);clear hle)|(refine oA 64 H ?_ (hd:=dbS (cs:=fVs gf6) (hcs:=by kernel_rfl));clear H;intro w g64 H;have hq9:=H.freezeBox (n:=5) (ls:=y0r gf6) (z41 q60) (by simp [maxLen]);clear H;obtain ⟨K2,hle,H,h64⟩:=hq9;replace hK:=hle.trans hK;replace hvs:=hvs.sat hle;(try replace h23:=h23.sat hle);(try replace h35:=h35.sat hle);(try replace h37:=h37.sat hle);(try replace h45:=h45.sat hle);(try replace h51:=h51.sat hle);(try replace h57:=h57.sat hle);(try replace h64:=h64.sat hle);(try replace h66:=h66.sat hle);(try replace ha1:=ha1.sat hle);(try replace ha2:=ha2.sat hle);clear hle)|(refine oA 37 H ?_ (hd:=dbS (cs:=ge2.map fun x=>.string (str x)) (hcs:=by kernel_rfl));clear H;intro w g37 H;have hq9:=H.freezeBox (n:=8) (ls:=y0t ge2) (q2h ge2) (by simp [maxLen]);clear H;obtain ⟨K2,hle,H,e37⟩:=hq9;replace hK:=hle.trans hK;replace hvs:=hvs.sat hle;(try replace h23:=h23.sat hle);(try replace h35:=h35.sat hle);(try replace h37:=h37.sat hle);(try replace h45:=h45.sat hle);(try replace h51:=h51.sat hle);(try replace h57:=h57.sat hle);(try replace h64:=h64.sat hle);(try replace h66:=h66.sat hle);(try replace ha1:=ha1.sat hle);(try replace ha2:=ha2.sat hle);clear hle)|(refine oA 66 H ?_ (hd:=dbS (cs:=ge7.map fun x=>.string (str x)) (hcs:=by kernel_rfl));clear H;intro w g66 H;have hq9:=H.freezeBox (n:=19) (ls:=y0t ge7) (q2h ge7) (by simp [maxLen]);clear H;obtain ⟨K2,hle,H,e66⟩:=hq9;replace hK:=hle.trans hK;replace hvs:=hvs.sat hle;(try replace h23:=h23.sat hle);(try replace h35:=h35.sat hle);(try replace h37:=h37.sat hle);(try replace h45:=h45.sat hle);(try replace h51:=h51.sat hle);(try replace h57:=h57.sat hle);(try replace h64:=h64.sat hle);(try replace h66:=h66.sat hle);(try replace ha1:=ha1.sat hle);(try replace ha2:=ha2.sat hle);clear hle)|(go_at_call 103;refine (x8u _ ge2 8 _ _ _ _ _ _ H rfl (by decide) e37).mono ?_;clear H e37;rintro e w ⟨K2,A37,c37,rfl,hle,H,h37⟩;replace hK:=hle.trans hK;replace hvs:=hvs.sat hle;(try replace h23:=h23.sat hle);(try replace h35:=h35.sat hle);(try replace h37:=h37.sat hle);(try replace h45:=h45.sat hle);(try replace h51:=h51.sat hle);(try replace h57:=h57.sat hle);(try replace h64:=h64.sat hle);(try replace h66:=h66.sat hle);(try replace ha1:=ha1.sat hle);(try replace ha2:=ha2.sat hle);clear hle)|(go_at_call 103;refine (x8u _ ge7 19 _ _ _ _ _ _ H rfl (by decide) e66).mono ?_;clear H e66;rintro e w ⟨K2,A66,c66,rfl,hle,H,h66⟩;replace hK:=hle.trans hK;replace hvs:=hvs.sat hle;(try replace h23:=h23.sat hle);(try replace h35:=h35.sat hle);(try replace h37:=h37.sat hle);(try replace h45:=h45.sat hle);(try replace h51:=h51.sat hle);(try replace h57:=h57.sat hle);(try replace h64:=h64.sat hle);(try replace h66:=h66.sat hle);(try replace ha1:=ha1.sat hle);(try replace ha2:=ha2.sat hle);clear hle)|(refine oA 68 H ?_ (hd:=dbS (cs:=gV (.slice (some ⟨g23,0,none⟩) 6 6) (.slice (some ⟨g35,0,none⟩) 10 10) (.slice A37 8 c37) (.slice (some ⟨g45,0,none⟩) 6 6) (.slice (some ⟨g51,0,none⟩) 4 4) (.slice (some ⟨g57,0,none⟩) 4 4) (.slice (some ⟨g64,0,none⟩) 5 5) (.slice A66 19 c66)) (hcs:=by kernel_rfl));clear H;intro w g68 H;have hq9:=H.freezeBox (n:=8) (ls:=y0q [gd0,gd1,gd2,gd3,gd4,gd5,gd6,gd7]) (q7t h23 h35 h37 h45 h51 h57 h64 h66) (by simp [maxLen]);clear H;obtain ⟨K2,hle,H,hg⟩:=hq9;replace hK:=hle.trans hK;replace hvs:=hvs.sat hle)|(refine oR H ?_ (ls:=y0q [gd0,gd1,gd2,gd3,gd4,gd5,gd6,gd7]) (hlen:=rfl);clear H;intro us A5 c5 w hus _ _ _ H;dsimp only [List.set] at H))
   go_ret;obtain ⟨K3,hle3,H,hd⟩:=H.freezeRow (hvs.app hus);exact ⟨K3,_,_,rfl,hle3.trans hK,H,q7s hd⟩
end
end Go.Proofs.YtbpgkkoeehopjaaGreat.hp
namespace Go.Proofs.YtbpgkkoeehopjaaGreat.hp
open Go.RowKit words tree dat held
section
variable {P : Program} {w0 K0 : World} {M : List Ent} {Q : Exit → Act → World → Prop} {l : List Oper} {a0 : Act} {R : Tmp → World → Value → Prop}
def Has (l:List Oper) (listed:Array Bool) (t:Tmp):Prop:=∃j o,l[j]?=some o∧o.dst=some t∧listed.getD j false=true
structure Inv (w0 K0:World) (M:List Ent) (l:List Oper) (a0:Act) (R:Tmp→World→Value→Prop) (listed:Array Bool) (a:Act) (w K:World):Prop where
 le:Sat K K0
 hp:Hp w0 w K M
 defers:a.defers=a0.defers
 size:a.tmps.size=a0.tmps.size
 has: ∀t,Has l listed t→R t K (a.tmps.getD t undef)
 old: ∀t,¬Has l listed t→a.tmps.getD t undef=a0.tmps.getD t undef
def Law (P:Program) (w0 K0:World) (M:List Ent) (Q:Exit→Act→World→Prop) (l:List Oper) (a0:Act) (R:Tmp→World→Value→Prop) (o:Oper):Prop:=
 ∀(a:Act) (w K:World),Sat K K0→Hp w0 w K M→(∀j t,(o.after.toList.any fun e=>e.on==j&&Region.binds .any e)=true→(l[j]?).bind (·.dst)=some t→R t K (a.tmps.getD t undef))→(∀t,(l.all fun p=>p.dst !=some t)=true→a.tmps.getD t undef=a0.tmps.getD t undef)→
  ∀Kc:Act→World→Prop,(∀v w' K',Sat K' K→Hp w0 w' K' M→(∀t,o.dst=some t→R t K' v)→Kc (a.put o.dst v) w')→if Region.wanted o (yielded l.toArray a.tmps)=true then Oper.wp P o a w Kc Q else Kc (a.put o.dst undef) w
def q62 (l:List Oper):Bool:=l.zipIdx.all fun p=>p.1.after.toList.all fun e=>decide (e.on<p.2)
def dstB (l:List Oper) (n:Nat):Bool:=l.all fun o=>match o.dst with|some t=>decide (t<n)|none=>true
def unB:List Oper→Bool
 |[]=>true
 |o::r=>(r.all fun p=>match o.dst with|some t=>p.dst !=some t|none=>true)&&unB r
theorem x8v (h:q62 l=true): ∀(j:Nat) (o:Oper),l[j]?=some o→ ∀e∈o.after,Region.binds .any e=true→e.on<j:=fun j o hj e he _=>by
 have:=Qbi.1 h (o,j) (Qb1.2 hj);have:=Qbi.1 this e (by simpa using he);exact Qa6 this
theorem q2i {n:Nat} (h:dstB l n=true): ∀o∈l,∀t,o.dst=some t→t<n:=fun o ho t ht=>by
 have:=Qbi.1 h o ho;simpa [ht] using this
theorem x8w: ∀{l:List Oper},unB l=true→ ∀(i j:Nat) (o p:Oper) (t:Tmp),l[i]?=some o→l[j]?=some p→o.dst=some t→p.dst=some t→i=j
 |[],_,i,j,o,p,t,h1,_,_,_=>by simp at h1
 |q::r,h,i,j,o,p,t,h1,h2,h3,h4=>by
  simp only [unB,Qao] at h
  have far: ∀(x:Oper),x∈r→q.dst=some t→x.dst≠some t:=fun x hx hq he=>by
   have:=Qbi.1 h.1 x hx;simp [hq,he] at this
  cases i with
  |zero=>
   simp only [List.getElem?_cons_zero,Option.some.injEq] at h1;subst h1
   cases j with
   |zero=>rfl
   |succ j=>exact absurd h4 (far p (Qaf (by simpa using h2)) h3)
  |succ i=>
   cases j with
   |zero=>
    simp only [List.getElem?_cons_zero,Option.some.injEq] at h2;subst h2;exact absurd h3 (far o (Qaf (by simpa using h1)) h4)
   |succ j=>rw [x8w h.2 i j o p t (by simpa using h1) (by simpa using h2) h3 h4]
theorem x8x (hm:P.follows .mixedOrders=true) (hac:q62 l=true) (hdst:dstB l a0.tmps.size=true) (hun:unB l=true)
  (hR: ∀t K K' v,Sat K' K→R t K v→R t K' v) (laws: ∀o∈l,Law P w0 K0 M Q l a0 R o) {w:World} {id:Nat} (H:Hp w0 w K0 M)
  (hend: ∀a' w' K',Sat K' K0→Hp w0 w' K' M→a'.defers=a0.defers→a'.tmps.size=a0.tmps.size→(∀t,(l.any fun p=>p.dst==some t)=true→R t K' (a'.tmps.getD t undef))→(∀t,(l.all fun p=>p.dst !=some t)=true→a'.tmps.getD t undef=a0.tmps.getD t undef)→Q .normal a' w'):
  (Code.region id l.toArray true).wp P Q a0 w:=by
 refine wp_region_any hm ?_;have hac:=x8v hac;have hdst:=q2i hdst;have hun:=x8w hun
 have fin: ∀listed a w K,Inv w0 K0 M l a0 R listed a w K→(∀j,j<l.length→listed.getD j false=true)→Q .normal a w:=fun listed a w K h hall=>by
  refine hend a w K h.le h.hp h.defers h.size (fun t ht=>?_) (fun t ht=>h.old t (fun ⟨j,p,h1,h2,_⟩=>by have:=Qbi.1 ht p (Qaf h1);simp [h2] at this));obtain ⟨o,ho,ht⟩:=Qbh.1 ht;obtain ⟨j,hj,rfl⟩:=List.getElem_of_mem ho;exact h.has t ⟨j,_,Qad hj,by simpa using ht,hall j hj⟩
 have none_ready: ∀listed:Array Bool,listed.size=l.length→Region.ready .any l.toArray listed=[]→ ∀j,j<l.length→listed.getD j false=true:=by
  intro listed hs hr j
  induction j using Nat.strongRecOn with
  |_ j ih=>
   intro hj
   cases hb:listed.getD j false with
   |true=>rfl
   |false=>
    have hmem:j∈Region.ready .any l.toArray listed:=by
     refine mem_ready.2 ⟨?_,l[j],by simp [hj],fun e he hbd=>?_⟩
     ·rw [Qar] at hb ⊢;rw [Qbq (by omega)] at hb ⊢;exact hb
     ·have hlt:=hac j _ (Qad hj) e he hbd;exact ih e.on hlt (by omega)
    rw [hr] at hmem;cases hmem
 have main: ∀(fuel:Nat) (listed:Array Bool) (a:Act) (w K:World),listed.size=l.length→(listed.toList.filter (· =false)).length≤fuel→Inv w0 K0 M l a0 R listed a w K→wpAny P .any l.toArray Q fuel listed a w:=by
  intro fuel
  induction fuel with
  |zero=>
   intro listed a w K hs hc h
   have hall: ∀j,j<l.length→listed.getD j false=true:=by
    intro j hj;have h0:listed.toList.filter (· =false)=[]:=Qa0 (by omega);rw [List.filter_eq_nil_iff] at h0
    have hm:listed[j]'(by omega)∈listed.toList:=by simp
    have:=h0 _ hm;rw [Qar,Qbq (by omega)];simpa using this
   refine ⟨?_,fin listed a w K h hall⟩
   cases hr:Region.ready .any l.toArray listed with
   |nil=>rfl
   |cons i r=>
    obtain ⟨hun,o,ho,_⟩:=mem_ready.1 (show i∈Region.ready .any l.toArray listed by rw [hr];exact Qaz ..)
    have hil:i<l.length:=by have:=(Qan.1 ho).1;simpa using this
    have:=hall i hil;rw [Qar,Qbq (by omega)] at this hun;simp at this hun;rw [this] at hun;cases hun
  |succ fuel ih=>
   intro listed a w K hs hc h;refine ⟨fun hr=>fin listed a w K h (none_ready listed hs hr),fun i hi=>?_⟩;obtain ⟨hil,o,ho,hall⟩:=mem_ready.1 hi
   have hlt:i<l.length:=by have:=(Qan.1 ho).1;simpa using this
   have ho':l[i]?=some o:=by simpa using ho
   refine wpOp_step ho (fun K' hK=>?_);refine laws o (Qaf ho') a w K h.le h.hp (fun j t hany ht=>?_) (fun t ht=>h.old t (fun ⟨j,p,h1,h2,_⟩=>by have:=Qbi.1 ht p (Qaf h1);simp [h2] at this)) K' (fun v w' K1 hle H1 hv=>hK _ _ ?_)
   ·obtain ⟨e,he,hb⟩:=Qbh.1 hany;simp only [Qao,Qa7] at hb;obtain ⟨rfl,hb⟩:=hb;have hl:=hall e (by simpa using he) hb
    cases hq:l[e.on]? with
    |none=>rw [hq] at ht;cases ht
    |some p=>rw [hq] at ht;exact h.has t ⟨e.on,p,hq,ht,hl⟩
   ·refine ih (listed.setIfInBounds i true) _ _ K1 (by simpa using hs) ?_ ⟨hle.trans h.le,H1,?_,?_,?_,?_⟩
    ·have hi2:i<listed.size:=by omega
     have hf:listed[i]=false:=by
      rw [Qar,Qbq hi2] at hil;simpa using hil
     have hsp:listed.toList=listed.toList.take i++false::listed.toList.drop (i+1):=by
      have h1:listed.toList[i]'(by simpa using hi2)=false:=by simpa using hf
      conv=>lhs;rw [←List.take_append_drop i listed.toList,Qa1 (by simpa using hi2),h1]
     have hset:(listed.setIfInBounds i true).toList=listed.toList.take i++true::listed.toList.drop (i+1):=by
      rw [Array.toList_setIfInBounds,List.set_eq_take_append_cons_drop,if_pos (by simpa using hi2)]
     rw [hset];rw [hsp] at hc;simp only [List.filter_append,Qae,List.filter_cons] at hc ⊢;simp at hc ⊢;omega
    ·cases o.dst<;>exact h.defers
    ·cases o.dst with
     |none=>exact h.size
     |some d=>simp only [Act.put];rw [Array.size_setIfInBounds];exact h.size
    ·rintro t ⟨j,p,h1,h2,h3⟩;by_cases hji:i=j
     ·subst hji;rw [ho'] at h1;injection h1 with h1;subst h1;have hts:=hdst o (Qaf ho') t h2
      have hget:(a.put o.dst v).tmps.getD t undef=v:=by
       rw [h2];simp only [Act.put];rw [Qar,Array.getElem?_setIfInBounds_self_of_lt (by rw [h.size];exact hts)];rfl
      rw [hget];exact hv t h2
     ·have hne:o.dst≠some t:=fun e=>hji (hun i j o p t ho' h1 e h2)
      have hget:(a.put o.dst v).tmps.getD t undef=a.tmps.getD t undef:=by
       cases hd:o.dst with
       |none=>rfl
       |some d=>
        have hdt:d≠t:=fun e=>hne (by rw [hd,e]);simp only [Act.put];rw [Qar,Array.getElem?_setIfInBounds_ne hdt,←Qar]
      rw [hget];refine hR t K K1 _ hle (h.has t ⟨j,p,h1,h2,?_⟩);rw [getD_set_ne false hji] at h3;exact h3
    ·intro t ht;have hne:o.dst≠some t:=fun e=>ht ⟨i,o,ho',e,by rw [Qar,Array.getElem?_setIfInBounds_self_of_lt (by omega)];rfl⟩
     have hget:(a.put o.dst v).tmps.getD t undef=a.tmps.getD t undef:=by
      cases hd:o.dst with
      |none=>rfl
      |some d=>
       have hdt:d≠t:=fun e=>hne (by rw [hd,e]);simp only [Act.put];rw [Qar,Array.getElem?_setIfInBounds_ne hdt,←Qar]
     rw [hget];refine h.old t (fun ⟨j,p,h1,h2,h3⟩=>ht ⟨j,p,h1,h2,?_⟩);by_cases hji:i=j
     ·subst hji;rw [Qar,Array.getElem?_setIfInBounds_self_of_lt (by omega)];rfl
     ·rw [getD_set_ne false hji];exact h3
 refine main _ _ a0 w.drew K0 (by simp) ?_ ⟨Sat.refl _,H.drew1,rfl,rfl,?_,fun _ _=>rfl⟩
 ·exact Qah (Qb4 _ _) (by simp)
 ·rintro t ⟨j,o,_,_,h3⟩;rw [getD_replicate_false] at h3;cases h3
end
open enc gram lex rd dec
set_option maxRecDepth 100000
attribute [local go_sem ↓] Go.wp_at_zero Go.wp_at_succ
def ifT:Txt:=[105,102]
def x8y:Txt:=[83,116,114,105,110,103]
def y9y:InputD:=⟨y5j,ifT,(y7p,[33]),false,litZ,[],0,0⟩
def whyT:Txt:=[78,111,32,108,111,110,103,101,114,32,115,117,112,112,111,114,116,101,100]
def y64:InputD:=⟨y5j,[114,101,97,115,111,110],(x8y,[]),true,.mk 4 whyT false [] [] 0 0,[],0,0⟩
def urlD:InputD:=⟨y5j,[117,114,108],(x8y,[33]),false,litZ,[],0,0⟩
def dirD (s:Txt) (arg:InputD) (l:List Txt):DefD:=⟨8,false,y5j,s,[],[],[],[arg],[],[],[],false,l.map plD,0,0⟩
def pl3:List Txt:=[[70,73,69,76,68],[70,82,65,71,77,69,78,84,95,83,80,82,69,65,68],[73,78,76,73,78,69,95,70,82,65,71,77,69,78,84]]
def pl2:List Txt:=[[70,73,69,76,68,95,68,69,70,73,78,73,84,73,79,78],[69,78,85,77,95,86,65,76,85,69]]
def pl1:List Txt:=[[83,67,65,76,65,82]]
def givenDirsD:List DefD:=[dirD [115,107,105,112] y9y pl3,dirD [105,110,99,108,117,100,101] y9y pl3,dirD [100,101,112,114,101,99,97,116,101,100] y64 pl2,dirD [115,112,101,99,105,102,105,101,100,66,121] urlD pl1]
abbrev condV:List Value:=[.bool false,.bool false,.string ⟨#[]⟩,.string ⟨#[105,102]⟩,.string ⟨#[66,111,111,108,101,97,110]⟩,.string ⟨#[33]⟩,.bool false,.int .i64 0,.string ⟨#[]⟩,.bool false,.slice none 0 0,.slice none 0 0,.int .i64 0,.int .i64 0,.slice none 0 0,.int .i64 0,.int .i64 0]
abbrev urlV:List Value:=[.bool false,.bool false,.string ⟨#[]⟩,.string ⟨#[117,114,108]⟩,.string ⟨#[83,116,114,105,110,103]⟩,.string ⟨#[33]⟩,.bool false,.int .i64 0,.string ⟨#[]⟩,.bool false,.slice none 0 0,.slice none 0 0,.int .i64 0,.int .i64 0,.slice none 0 0,.int .i64 0,.int .i64 0]
abbrev reasonV:List Value:=[.bool false,.bool false,.string ⟨#[]⟩,.string ⟨#[114,101,97,115,111,110]⟩,.string ⟨#[83,116,114,105,110,103]⟩,.string ⟨#[]⟩,.bool true,.int .i64 4,.string ⟨#[78,111,32,108,111,110,103,101,114,32,115,117,112,112,111,114,116,101,100]⟩,.bool false,.slice none 0 0,.slice none 0 0,.int .i64 0,.int .i64 0,.slice none 0 0,.int .i64 0,.int .i64 0]
theorem y7q {K:World}:RL K (y49 y9y) condV:=by unfold y9y;exact .lit (.lit (.lit (.lit (.lit (.lit (.lit (.lit (.lit (.lit (.cons RD.z (.cons RD.z (.lit (.lit (.cons RD.z (.lit (.lit RL.z))))))))))))))))
theorem x0n {K:World}:RL K (y49 urlD) urlV:=by unfold urlD;exact .lit (.lit (.lit (.lit (.lit (.lit (.lit (.lit (.lit (.lit (.cons RD.z (.cons RD.z (.lit (.lit (.cons RD.z (.lit (.lit RL.z))))))))))))))))
theorem z0p {K:World}:RL K (y49 y64) reasonV:=by unfold y64;exact .lit (.lit (.lit (.lit (.lit (.lit (.lit (.lit (.lit (.lit (.cons RD.z (.cons RD.z (.lit (.lit (.cons RD.z (.lit (.lit RL.z))))))))))))))))
def DirR (s:ByteArray) (arg:InputD) (n:Nat) (l:List Txt) (K:World) (v:Value):Prop:=
 ∃g A c,v= .agg #[.int .i64 8,.bool false,.bool false,.bool false,.string ⟨#[]⟩,.string s,.slice none 0 0,.slice none 0 0,.slice none 0 0,.slice (some ⟨g,0,none⟩) 1 1,.slice none 0 0,.slice none 0 0,.slice none 0 0,.bool false,.slice A n c,.int .i64 0,.int .i64 0]∧RD K (.list n (y0o (l.map plD))) (.slice A n c)∧RD K (.list 1 (y0l [arg])) (.slice (some ⟨g,0,none⟩) 1 1)
theorem DirR.sat {s:ByteArray} {arg:InputD} {n:Nat} {l:List Txt} {K K':World} {v:Value} (h:DirR s arg n l K v) (hs:Sat K' K):DirR s arg n l K' v:=by
 obtain ⟨g,A,c,h1,h2,h3⟩:=h;exact ⟨g,A,c,h1,h2.sat hs,h3.sat hs⟩
def SlR (n:Nat) (l:List Txt) (K:World) (v:Value):Prop:=∃g,v= .slice (some ⟨g,0,none⟩) n n∧RD K (.list n (y0t l)) v
theorem SlR.sat {n:Nat} {l:List Txt} {K K':World} {v:Value} (h:SlR n l K v) (hs:Sat K' K):SlR n l K' v:=h.imp fun _ h=>⟨h.1,h.2.sat hs⟩
def EndR (K:World) (v:Value):Prop:=∃g,v= .slice (some ⟨g,0,none⟩) 4 4∧RD K (.list 4 (y0q givenDirsD)) v
theorem EndR.sat {K K':World} {v:Value} (h:EndR K v) (hs:Sat K' K):EndR K' v:=h.imp fun _ h=>⟨h.1,h.2.sat hs⟩
def BdR (t:Nat) (K:World) (v:Value):Prop:=
 match t with
 |10=>v= .agg condV.toArray
 |13=>v= .agg condV.toArray
 |16=>v= .agg reasonV.toArray
 |20=>v= .agg urlV.toArray
 |19=>v= .agg #[.string ⟨#[83,116,114,105,110,103]⟩,.string ⟨#[33]⟩]
 |11=>SlR 3 pl3 K v
 |14=>SlR 3 pl3 K v
 |17=>SlR 2 pl2 K v
 |21=>SlR 1 pl1 K v
 |12=>DirR ⟨#[115,107,105,112]⟩ y9y 3 pl3 K v
 |15=>DirR ⟨#[105,110,99,108,117,100,101]⟩ y9y 3 pl3 K v
 |18=>DirR ⟨#[100,101,112,114,101,99,97,116,101,100]⟩ y64 2 pl2 K v
 |22=>DirR ⟨#[115,112,101,99,105,102,105,101,100,66,121]⟩ urlD 1 pl1 K v
 |23=>EndR K v
 |0=>EndR K v
 |_=>True
theorem BdR.sat (t:Nat) (K K':World) (v:Value) (hs:Sat K' K) (h:BdR t K v):BdR t K' v:=by
 unfold BdR at h ⊢;split
 all_goals first|exact h|exact SlR.sat h hs|exact DirR.sat h hs|exact EndR.sat h hs|trivial
theorem x2h {K:World} {s:Txt} {arg:InputD} {l:List Txt} {n:Nat} {v v':Value} {r:List DefD} {ys:List Value} (hn:RD K (.list n (y0o (l.map plD))) v) (hi:RD K (.list 1 (y0l [arg])) v') (h:RL K (y0q r) ys) (hl:l.length=n:=by rfl):
  RL K (y0q (dirD s arg l::r)) (.int .i64 8:: .bool false:: .bool false:: .bool false:: .string ⟨#[]⟩:: .string (str s):: .slice none 0 0:: .slice none 0 0:: .slice none 0 0::v':: .slice none 0 0:: .slice none 0 0:: .slice none 0 0:: .bool false::v:: .int .i64 0:: .int .i64 0::ys):=by
 subst hl;exact DatL.app (y06 RD.z RD.z RD.z hi RD.z RD.z RD.z (by simpa using hn)) h
theorem x0o {K:World} {a b c d a' b' c' d':Value} (na:RD K (.list 3 (y0o (pl3.map plD))) a) (ia:RD K (.list 1 (y0l [y9y])) a') (nb:RD K (.list 3 (y0o (pl3.map plD))) b) (ib:RD K (.list 1 (y0l [y9y])) b') (nc:RD K (.list 2 (y0o (pl2.map plD))) c) (ic:RD K (.list 1 (y0l [y64])) c') (nd:RD K (.list 1 (y0o (pl1.map plD))) d) (id:RD K (.list 1 (y0l [urlD])) d'):
  RL K (y0q givenDirsD) [.int .i64 8,.bool false,.bool false,.bool false,.string ⟨#[]⟩,.string ⟨#[115,107,105,112]⟩,.slice none 0 0,.slice none 0 0,.slice none 0 0,a',.slice none 0 0,.slice none 0 0,.slice none 0 0,.bool false,a,.int .i64 0,.int .i64 0,.int .i64 8,.bool false,.bool false,.bool false,.string ⟨#[]⟩,.string ⟨#[105,110,99,108,117,100,101]⟩,.slice none 0 0,.slice none 0 0,.slice none 0 0,b',.slice none 0 0,.slice none 0 0,.slice none 0 0,.bool false,b,.int .i64 0,.int .i64 0,.int .i64 8,.bool false,.bool false,.bool false,.string ⟨#[]⟩,.string ⟨#[100,101,112,114,101,99,97,116,101,100]⟩,.slice none 0 0,.slice none 0 0,.slice none 0 0,c',.slice none 0 0,.slice none 0 0,.slice none 0 0,.bool false,c,.int .i64 0,.int .i64 0,.int .i64 8,.bool false,.bool false,.bool false,.string ⟨#[]⟩,.string ⟨#[115,112,101,99,105,102,105,101,100,66,121]⟩,.slice none 0 0,.slice none 0 0,.slice none 0 0,d',.slice none 0 0,.slice none 0 0,.slice none 0 0,.bool false,d,.int .i64 0,.int .i64 0]:=x2h na ia (x2h nb ib (x2h nc ic (x2h nd id q6u)))
def BdP (w0 K:World) (M:List Ent) (e:Ending) (w':World):Prop:=
 ∃K' A c,e= .returned (.slice A 4 c)∧Sat K' K∧Hp w0 w' K' M∧RD K' (.list 4 (y0q givenDirsD)) (.slice A 4 c)
set_option maxHeartbeats 16000000 in
theorem z75 (w0 w K:World) (M:List Ent) (H:Hp w0 w K M):
  Calls Tryz.prog 57 #[] w (BdP w0 K M):=by
 go_enter Tryz.func57,Tryz.ntmps57
 go_upto_region 3 with (first
  |(go_at_call 104;refine (y6i _ _ _ _ _ _ H).mono ?_;clear H;rintro e x1 ⟨rfl,H⟩)
  |((with_reducible refine isL ?_);first
   |(refine al z123 1 H ?_;clear H;intro w2 g1 H)
   |(refine sA 1 0 H ?_;clear H;intro w4 H)
   |(refine al z121 2 H ?_;clear H;intro w5 g2 H)
   |(refine sA 2 0 H ?_;clear H;intro w7 H)))
 refine held.begin_ (fun w'=>w'.cell? ⟨g2,0,none⟩=some (.int .i64 4)∧w'.cell? ⟨g2,1,none⟩=some (.string ⟨#[78,111,32,108,111,110,103,101,114,32,115,117,112,112,111,114,116,101,100]⟩)∧w'.cell? ⟨g2,2,none⟩=some (.bool false)∧w'.cell? ⟨g2,3,none⟩=some (.slice none 0 0)∧w'.cell? ⟨g2,4,none⟩=some (.slice none 0 0)∧w'.cell? ⟨g2,5,none⟩=some (.int .i64 0)∧w'.cell? ⟨g2,6,none⟩=some (.int .i64 0)) [4] (by kernel_rfl) ?_;replace H:=H.drew1;obtain ⟨w8,hq9⟩: ∃x,(w7).drew=x:=⟨_,rfl⟩;rw [hq9] at H ⊢;clear hq9;have hS10:w8.cell? ⟨g2,0,none⟩=some (.int .i64 4)∧w8.cell? ⟨g2,1,none⟩=some (.string ⟨#[78,111,32,108,111,110,103,101,114,32,115,117,112,112,111,114,116,101,100]⟩)∧w8.cell? ⟨g2,2,none⟩=some (.bool false)∧w8.cell? ⟨g2,3,none⟩=some (.slice none 0 0)∧w8.cell? ⟨g2,4,none⟩=some (.slice none 0 0)∧w8.cell? ⟨g2,5,none⟩=some (.int .i64 0)∧w8.cell? ⟨g2,6,none⟩=some (.int .i64 0):=⟨H.cell (i:=0) rfl rfl,H.cell (i:=0) rfl rfl,H.cell (i:=0) rfl rfl,H.cell (i:=0) rfl rfl,H.cell (i:=0) rfl rfl,H.cell (i:=0) rfl rfl,H.cell (i:=0) rfl rfl⟩;refine tk 1 hS10 ?_;refine step2 (i:=0) (j:=3) (by kernel_rfl) rfl rfl (fun Kq hKq=>?_) (fun Kq hKq=>?_)
 ·skip
  go_simp
  refine (y6i _ _ _ _ _ _ H).mono ?_;clear H;rintro e x2 ⟨rfl,H⟩;replace H:Hp _ _ _ (_::_::M):=H
  try go_simp
  have hS11:x2.cell? ⟨g2,0,none⟩=some (.int .i64 4)∧x2.cell? ⟨g2,1,none⟩=some (.string ⟨#[78,111,32,108,111,110,103,101,114,32,115,117,112,112,111,114,116,101,100]⟩)∧x2.cell? ⟨g2,2,none⟩=some (.bool false)∧x2.cell? ⟨g2,3,none⟩=some (.slice none 0 0)∧x2.cell? ⟨g2,4,none⟩=some (.slice none 0 0)∧x2.cell? ⟨g2,5,none⟩=some (.int .i64 0)∧x2.cell? ⟨g2,6,none⟩=some (.int .i64 0):=⟨H.cell (i:=0) rfl rfl,H.cell (i:=0) rfl rfl,H.cell (i:=0) rfl rfl,H.cell (i:=0) rfl rfl,H.cell (i:=0) rfl rfl,H.cell (i:=0) rfl rfl,H.cell (i:=0) rfl rfl⟩;refine hKq.out _ _ (fun _=>hS11) (fun _=>?_);clear hKq Kq;refine tk 2 hS11 ?_;refine held.step (i:=3) (by kernel_rfl) rfl (fun Kq hKq=>?_)
  go_simp
  replace H:=H.alloc [.bool false,.bool false,.string ⟨#[]⟩,.string ⟨#[]⟩,.string ⟨#[]⟩,.string ⟨#[]⟩,.bool false,.int .i64 0,.string ⟨#[]⟩,.bool false,.slice none 0 0,.slice none 0 0,.int .i64 0,.int .i64 0,.slice none 0 0,.int .i64 0,.int .i64 0] 123;obtain ⟨w13,hq14⟩: ∃x,(x2).alloc (.cells #[.bool false,.bool false,.string ⟨#[]⟩,.string ⟨#[]⟩,.string ⟨#[]⟩,.string ⟨#[]⟩,.bool false,.int .i64 0,.string ⟨#[]⟩,.bool false,.slice none 0 0,.slice none 0 0,.int .i64 0,.int .i64 0,.slice none 0 0,.int .i64 0,.int .i64 0] 123)=x:=⟨_,rfl⟩;obtain ⟨g3,hg12⟩: ∃x,(x2).heap.size=x:=⟨_,rfl⟩;rw [hg12] at H ⊢;rw [hq14] at H ⊢;clear hg12 hq14;have hS15:w13.cell? ⟨g2,0,none⟩=some (.int .i64 4)∧w13.cell? ⟨g2,1,none⟩=some (.string ⟨#[78,111,32,108,111,110,103,101,114,32,115,117,112,112,111,114,116,101,100]⟩)∧w13.cell? ⟨g2,2,none⟩=some (.bool false)∧w13.cell? ⟨g2,3,none⟩=some (.slice none 0 0)∧w13.cell? ⟨g2,4,none⟩=some (.slice none 0 0)∧w13.cell? ⟨g2,5,none⟩=some (.int .i64 0)∧w13.cell? ⟨g2,6,none⟩=some (.int .i64 0):=⟨H.cell (i:=1) rfl rfl,H.cell (i:=1) rfl rfl,H.cell (i:=1) rfl rfl,H.cell (i:=1) rfl rfl,H.cell (i:=1) rfl rfl,H.cell (i:=1) rfl rfl,H.cell (i:=1) rfl rfl⟩;refine hKq.out _ _ (fun _=>hS15) (fun _=>?_);clear hKq Kq;refine held.step (i:=4) (by kernel_rfl) rfl (fun Kq hKq=>?_);refine y9p (by rfl) 123 (.tmp 3) (.tmp 9) (by rfl) g3 0 (by first|rfl|simp [Act.eval,Act.put]) (.agg #[.bool false,.bool false,.string ⟨#[]⟩,.string ⟨#[114,101,97,115,111,110]⟩,.string ⟨#[83,116,114,105,110,103]⟩,.string ⟨#[]⟩,.bool true,.int .i64 4,.string ⟨#[78,111,32,108,111,110,103,101,114,32,115,117,112,112,111,114,116,101,100]⟩,.bool false,.slice none 0 0,.slice none 0 0,.int .i64 0,.int .i64 0,.slice none 0 0,.int .i64 0,.int .i64 0]) (by first|rfl|simp [Act.eval,Act.put]) [.bool false,.bool false,.string ⟨#[]⟩,.string ⟨#[114,101,97,115,111,110]⟩,.string ⟨#[83,116,114,105,110,103]⟩,.string ⟨#[]⟩,.bool true,.int .i64 4,.string ⟨#[78,111,32,108,111,110,103,101,114,32,115,117,112,112,111,114,116,101,100]⟩,.bool false,.slice none 0 0,.slice none 0 0,.int .i64 0,.int .i64 0,.slice none 0 0,.int .i64 0,.int .i64 0] (by rfl) (by simp [Value.oneCell']) (by kernel_rfl) H 0 [.bool false,.bool false,.string ⟨#[]⟩,.string ⟨#[]⟩,.string ⟨#[]⟩,.string ⟨#[]⟩,.bool false,.int .i64 0,.string ⟨#[]⟩,.bool false,.slice none 0 0,.slice none 0 0,.int .i64 0,.int .i64 0,.slice none 0 0,.int .i64 0,.int .i64 0] [.bool false,.bool false,.string ⟨#[]⟩,.string ⟨#[114,101,97,115,111,110]⟩,.string ⟨#[83,116,114,105,110,103]⟩,.string ⟨#[]⟩,.bool true,.int .i64 4,.string ⟨#[78,111,32,108,111,110,103,101,114,32,115,117,112,112,111,114,116,101,100]⟩,.bool false,.slice none 0 0,.slice none 0 0,.int .i64 0,.int .i64 0,.slice none 0 0,.int .i64 0,.int .i64 0] 123 (by rfl) (Qbn (by rfl)) (by rfl) ?_;clear H;intro w16 H;refine hKq.out _ _ (fun h=>absurd (Qax.2 rfl) h) (fun _=>?_);clear hKq Kq;refine held.done (by kernel_rfl) ?_ _;simp only [Act.put,List.getElem_toArray,List.getElem_cons_zero,List.getElem_cons_succ,List.setIfInBounds_toArray,List.set_cons_zero,List.set_cons_succ];replace H:Hp _ _ _ (_::_::_::M):=H
  go_upto_region 4 with (fail)
  replace H:=H.sub (Qaa _ (Qai _ (Qaa _ (Qam _))));refine x8x (R:=BdR) (by kernel_rfl) (by kernel_rfl) (by kernel_rfl) (by kernel_rfl) BdR.sat ?_ H ?_
  ·simp only [Qbd,List.not_mem_nil,or_false,forall_eq_or_imp,forall_eq];refine ⟨?_,?_,?_,?_,?_,?_,?_,?_,?_,?_,?_,?_,?_,?_,?_⟩
   ·intro a w K hK H hdep hold Kc hKc;have e1:a.tmps.getD 1 undef= .pointer (some ⟨g1,0,none⟩):=hold 1 (by kernel_rfl);refine y25 (by rfl) 123 (.tmp 1) (by rfl) g1 0 e1 condV _ Tryz.underlying123 rfl (by kernel_rfl) H 1 condV 123 (by rfl) (by rfl) ?_;exact hKc _ _ _ (Sat.refl _) H (fun t ht=>by injection ht with ht;subst ht;exact rfl)
   ·intro a w K hK H hdep hold Kc hKc;refine y1i (by rfl) 27 9 3 _ (by rfl) Tryz.underlying27 [(0,.string ⟨#[70,73,69,76,68]⟩),(1,.string ⟨#[70,82,65,71,77,69,78,84,95,83,80,82,69,65,68]⟩),(2,.string ⟨#[73,78,76,73,78,69,95,70,82,65,71,77,69,78,84]⟩)] (by kernel_rfl) [.string ⟨#[70,73,69,76,68]⟩,.string ⟨#[70,82,65,71,77,69,78,84,95,83,80,82,69,65,68]⟩,.string ⟨#[73,78,76,73,78,69,95,70,82,65,71,77,69,78,84]⟩] (by kernel_rfl) H ?_;intro w1 g H;obtain ⟨K1,hle,H,hb⟩:=H.freezeBox (n:=3) (ls:=y0t pl3) (rt_s (rt_s (rt_s (RL.z)))) (by simp [maxLen]);exact hKc _ _ _ hle H (fun t ht=>by injection ht with ht;subst ht;exact ⟨_,rfl,hb⟩)
   ·intro a w K hK H hdep hold Kc hKc;obtain ⟨g,ev,hs⟩:=hdep 1 11 (by kernel_rfl) (by rfl);have ea:a.tmps.getD 10 undef= .agg condV.toArray:=hdep 0 10 (by kernel_rfl) (by rfl);rw [ev] at hs;have hc:=y16 ⟨#[115,107,105,112]⟩ y9y _ _ _ _ _ _ _ _ _ _ _ _ _ _ _ _ _ pl3 3 3 (some ⟨g,0,none⟩) _ _ _ _ H rfl (by omega) hs y7q
    go_simp
    refine hc.mono ?_;rintro e w1 ⟨K1,gi,A,c,rfl,hle,H,hn,hi⟩;exact hKc _ _ _ hle H (fun t ht=>by injection ht with ht;subst ht;exact ⟨_,_,_,rfl,hn,hi⟩)
   ·intro a w K hK H hdep hold Kc hKc;have e1:a.tmps.getD 1 undef= .pointer (some ⟨g1,0,none⟩):=hold 1 (by kernel_rfl);refine y25 (by rfl) 123 (.tmp 1) (by rfl) g1 0 e1 condV _ Tryz.underlying123 rfl (by kernel_rfl) H 1 condV 123 (by rfl) (by rfl) ?_;exact hKc _ _ _ (Sat.refl _) H (fun t ht=>by injection ht with ht;subst ht;exact rfl)
   ·intro a w K hK H hdep hold Kc hKc;refine y1i (by rfl) 27 9 3 _ (by rfl) Tryz.underlying27 [(0,.string ⟨#[70,73,69,76,68]⟩),(1,.string ⟨#[70,82,65,71,77,69,78,84,95,83,80,82,69,65,68]⟩),(2,.string ⟨#[73,78,76,73,78,69,95,70,82,65,71,77,69,78,84]⟩)] (by kernel_rfl) [.string ⟨#[70,73,69,76,68]⟩,.string ⟨#[70,82,65,71,77,69,78,84,95,83,80,82,69,65,68]⟩,.string ⟨#[73,78,76,73,78,69,95,70,82,65,71,77,69,78,84]⟩] (by kernel_rfl) H ?_;intro w1 g H;obtain ⟨K1,hle,H,hb⟩:=H.freezeBox (n:=3) (ls:=y0t pl3) (rt_s (rt_s (rt_s (RL.z)))) (by simp [maxLen]);exact hKc _ _ _ hle H (fun t ht=>by injection ht with ht;subst ht;exact ⟨_,rfl,hb⟩)
   ·intro a w K hK H hdep hold Kc hKc;obtain ⟨g,ev,hs⟩:=hdep 4 14 (by kernel_rfl) (by rfl);have ea:a.tmps.getD 13 undef= .agg condV.toArray:=hdep 3 13 (by kernel_rfl) (by rfl);rw [ev] at hs;have hc:=y16 ⟨#[105,110,99,108,117,100,101]⟩ y9y _ _ _ _ _ _ _ _ _ _ _ _ _ _ _ _ _ pl3 3 3 (some ⟨g,0,none⟩) _ _ _ _ H rfl (by omega) hs y7q
    go_simp
    refine hc.mono ?_;rintro e w1 ⟨K1,gi,A,c,rfl,hle,H,hn,hi⟩;exact hKc _ _ _ hle H (fun t ht=>by injection ht with ht;subst ht;exact ⟨_,_,_,rfl,hn,hi⟩)
   ·intro a w K hK H hdep hold Kc hKc;have e1:a.tmps.getD 3 undef= .pointer (some ⟨g3,0,none⟩):=hold 3 (by kernel_rfl);refine y25 (by rfl) 123 (.tmp 3) (by rfl) g3 0 e1 reasonV _ Tryz.underlying123 rfl (by kernel_rfl) H 0 reasonV 123 (by rfl) (by rfl) ?_;exact hKc _ _ _ (Sat.refl _) H (fun t ht=>by injection ht with ht;subst ht;exact rfl)
   ·intro a w K hK H hdep hold Kc hKc;refine y1i (by rfl) 27 9 2 _ (by rfl) Tryz.underlying27 [(0,.string ⟨#[70,73,69,76,68,95,68,69,70,73,78,73,84,73,79,78]⟩),(1,.string ⟨#[69,78,85,77,95,86,65,76,85,69]⟩)] (by kernel_rfl) [.string ⟨#[70,73,69,76,68,95,68,69,70,73,78,73,84,73,79,78]⟩,.string ⟨#[69,78,85,77,95,86,65,76,85,69]⟩] (by kernel_rfl) H ?_;intro w1 g H;obtain ⟨K1,hle,H,hb⟩:=H.freezeBox (n:=2) (ls:=y0t pl2) (rt_s (rt_s (RL.z))) (by simp [maxLen]);exact hKc _ _ _ hle H (fun t ht=>by injection ht with ht;subst ht;exact ⟨_,rfl,hb⟩)
   ·intro a w K hK H hdep hold Kc hKc;obtain ⟨g,ev,hs⟩:=hdep 7 17 (by kernel_rfl) (by rfl);have ea:a.tmps.getD 16 undef= .agg reasonV.toArray:=hdep 6 16 (by kernel_rfl) (by rfl);rw [ev] at hs;have hc:=y16 ⟨#[100,101,112,114,101,99,97,116,101,100]⟩ y64 _ _ _ _ _ _ _ _ _ _ _ _ _ _ _ _ _ pl2 2 2 (some ⟨g,0,none⟩) _ _ _ _ H rfl (by omega) hs z0p
    go_simp
    refine hc.mono ?_;rintro e w1 ⟨K1,gi,A,c,rfl,hle,H,hn,hi⟩;exact hKc _ _ _ hle H (fun t ht=>by injection ht with ht;subst ht;exact ⟨_,_,_,rfl,hn,hi⟩)
   ·intro a w K hK H hdep hold Kc hKc;have hc:=y6i ⟨#[83,116,114,105,110,103]⟩ ⟨#[33]⟩ _ _ _ _ H
    go_simp
    refine hc.mono ?_;rintro e w1 ⟨rfl,H⟩;exact hKc _ _ _ (Sat.refl _) H (fun t ht=>by injection ht with ht;subst ht;exact rfl)
   ·intro a w K hK H hdep hold Kc hKc;have e19:a.tmps.getD 19 undef= .agg #[.string ⟨#[83,116,114,105,110,103]⟩,.string ⟨#[33]⟩]:=hdep 9 19 (by kernel_rfl) (by rfl)
    have e19':a.tmps[19]?.getD undef= .agg #[.string ⟨#[83,116,114,105,110,103]⟩,.string ⟨#[33]⟩]:=by simpa using e19
    go_simp
    exact hKc _ _ _ (Sat.refl _) H (fun t ht=>by injection ht with ht;subst ht;exact rfl)
   ·intro a w K hK H hdep hold Kc hKc;refine y1i (by rfl) 27 9 1 _ (by rfl) Tryz.underlying27 [(0,.string ⟨#[83,67,65,76,65,82]⟩)] (by kernel_rfl) [.string ⟨#[83,67,65,76,65,82]⟩] (by kernel_rfl) H ?_;intro w1 g H;obtain ⟨K1,hle,H,hb⟩:=H.freezeBox (n:=1) (ls:=y0t pl1) (rt_s (RL.z)) (by simp [maxLen]);exact hKc _ _ _ hle H (fun t ht=>by injection ht with ht;subst ht;exact ⟨_,rfl,hb⟩)
   ·intro a w K hK H hdep hold Kc hKc;obtain ⟨g,ev,hs⟩:=hdep 11 21 (by kernel_rfl) (by rfl);have ea:a.tmps.getD 20 undef= .agg urlV.toArray:=hdep 10 20 (by kernel_rfl) (by rfl);rw [ev] at hs;have hc:=y16 ⟨#[115,112,101,99,105,102,105,101,100,66,121]⟩ urlD _ _ _ _ _ _ _ _ _ _ _ _ _ _ _ _ _ pl1 1 1 (some ⟨g,0,none⟩) _ _ _ _ H rfl (by omega) hs x0n
    go_simp
    refine hc.mono ?_;rintro e w1 ⟨K1,gi,A,c,rfl,hle,H,hn,hi⟩;exact hKc _ _ _ hle H (fun t ht=>by injection ht with ht;subst ht;exact ⟨_,_,_,rfl,hn,hi⟩)
   ·intro a w K hK H hdep hold Kc hKc;obtain ⟨ga,Aa,ca,e12,na,ia⟩:=hdep 2 12 (by kernel_rfl) (by rfl);obtain ⟨gb,Ab,cb,e15,nb,ib⟩:=hdep 5 15 (by kernel_rfl) (by rfl);obtain ⟨gc,Ac,cc,e18,nc,ic⟩:=hdep 8 18 (by kernel_rfl) (by rfl);obtain ⟨gd,Ad,cd,e22,nd,id⟩:=hdep 12 22 (by kernel_rfl) (by rfl);refine y1i (by rfl) 22 43 4 _ (by rfl) Tryz.underlying22 [(0,.agg #[.int .i64 8,.bool false,.bool false,.bool false,.string ⟨#[]⟩,.string ⟨#[115,107,105,112]⟩,.slice none 0 0,.slice none 0 0,.slice none 0 0,.slice (some ⟨ga,0,none⟩) 1 1,.slice none 0 0,.slice none 0 0,.slice none 0 0,.bool false,.slice Aa 3 ca,.int .i64 0,.int .i64 0]),(1,.agg #[.int .i64 8,.bool false,.bool false,.bool false,.string ⟨#[]⟩,.string ⟨#[105,110,99,108,117,100,101]⟩,.slice none 0 0,.slice none 0 0,.slice none 0 0,.slice (some ⟨gb,0,none⟩) 1 1,.slice none 0 0,.slice none 0 0,.slice none 0 0,.bool false,.slice Ab 3 cb,.int .i64 0,.int .i64 0]),(2,.agg #[.int .i64 8,.bool false,.bool false,.bool false,.string ⟨#[]⟩,.string ⟨#[100,101,112,114,101,99,97,116,101,100]⟩,.slice none 0 0,.slice none 0 0,.slice none 0 0,.slice (some ⟨gc,0,none⟩) 1 1,.slice none 0 0,.slice none 0 0,.slice none 0 0,.bool false,.slice Ac 2 cc,.int .i64 0,.int .i64 0]),(3,.agg #[.int .i64 8,.bool false,.bool false,.bool false,.string ⟨#[]⟩,.string ⟨#[115,112,101,99,105,102,105,101,100,66,121]⟩,.slice none 0 0,.slice none 0 0,.slice none 0 0,.slice (some ⟨gd,0,none⟩) 1 1,.slice none 0 0,.slice none 0 0,.slice none 0 0,.bool false,.slice Ad 1 cd,.int .i64 0,.int .i64 0])] (Eq.trans (b:=[(0,a.tmps.getD 12 undef),(1,a.tmps.getD 15 undef),(2,a.tmps.getD 18 undef),(3,a.tmps.getD 22 undef)]) (by kernel_rfl) (by rw [e12,e15,e18,e22])) [.int .i64 8,.bool false,.bool false,.bool false,.string ⟨#[]⟩,.string ⟨#[115,107,105,112]⟩,.slice none 0 0,.slice none 0 0,.slice none 0 0,.slice (some ⟨ga,0,none⟩) 1 1,.slice none 0 0,.slice none 0 0,.slice none 0 0,.bool false,.slice Aa 3 ca,.int .i64 0,.int .i64 0,.int .i64 8,.bool false,.bool false,.bool false,.string ⟨#[]⟩,.string ⟨#[105,110,99,108,117,100,101]⟩,.slice none 0 0,.slice none 0 0,.slice none 0 0,.slice (some ⟨gb,0,none⟩) 1 1,.slice none 0 0,.slice none 0 0,.slice none 0 0,.bool false,.slice Ab 3 cb,.int .i64 0,.int .i64 0,.int .i64 8,.bool false,.bool false,.bool false,.string ⟨#[]⟩,.string ⟨#[100,101,112,114,101,99,97,116,101,100]⟩,.slice none 0 0,.slice none 0 0,.slice none 0 0,.slice (some ⟨gc,0,none⟩) 1 1,.slice none 0 0,.slice none 0 0,.slice none 0 0,.bool false,.slice Ac 2 cc,.int .i64 0,.int .i64 0,.int .i64 8,.bool false,.bool false,.bool false,.string ⟨#[]⟩,.string ⟨#[115,112,101,99,105,102,105,101,100,66,121]⟩,.slice none 0 0,.slice none 0 0,.slice none 0 0,.slice (some ⟨gd,0,none⟩) 1 1,.slice none 0 0,.slice none 0 0,.slice none 0 0,.bool false,.slice Ad 1 cd,.int .i64 0,.int .i64 0] (by kernel_rfl) H ?_;intro w1 g H;obtain ⟨K1,hle,H,hb⟩:=H.freezeBox (n:=4) (ls:=y0q givenDirsD) (x0o na ia nb ib nc ic nd id) (by simp [maxLen]);exact hKc _ _ _ hle H (fun t ht=>by injection ht with ht;subst ht;exact ⟨_,rfl,hb⟩)
   ·intro a w K hK H hdep hold Kc hKc;obtain ⟨g,ev,hs⟩:=hdep 13 23 (by kernel_rfl) (by rfl)
    go_simp
    exact hKc _ _ _ (Sat.refl _) H (fun t ht=>by injection ht with ht;subst ht;exact ⟨g,rfl,by rw [←ev];exact hs⟩)
  ·intro a' w' K' hle H hd hsz hn hold;obtain ⟨g,ev,hv⟩:=hn 0 (by kernel_rfl)
   go_wp2_with fail
   have e0:a'.tmps[0]?.getD undef= .slice (some ⟨g,0,none⟩) 4 4:=by simpa using ev
   rw [ev] at hv;replace H:=H.tail.tail;exact bodyPost_ret (v:=.slice (some ⟨g,0,none⟩) 4 4) (by simp [results,Tryz.results57,go_sem,e0]) hd ⟨K',_,_,rfl,hle,H,hv⟩
 ·skip
  go_simp
  replace H:=H.alloc [.bool false,.bool false,.string ⟨#[]⟩,.string ⟨#[]⟩,.string ⟨#[]⟩,.string ⟨#[]⟩,.bool false,.int .i64 0,.string ⟨#[]⟩,.bool false,.slice none 0 0,.slice none 0 0,.int .i64 0,.int .i64 0,.slice none 0 0,.int .i64 0,.int .i64 0] 123;obtain ⟨w18,hq19⟩: ∃x,(w8).alloc (.cells #[.bool false,.bool false,.string ⟨#[]⟩,.string ⟨#[]⟩,.string ⟨#[]⟩,.string ⟨#[]⟩,.bool false,.int .i64 0,.string ⟨#[]⟩,.bool false,.slice none 0 0,.slice none 0 0,.int .i64 0,.int .i64 0,.slice none 0 0,.int .i64 0,.int .i64 0] 123)=x:=⟨_,rfl⟩;obtain ⟨g3,hg17⟩: ∃x,(w8).heap.size=x:=⟨_,rfl⟩;rw [hg17] at H ⊢;rw [hq19] at H ⊢;clear hg17 hq19;have hS20:w18.cell? ⟨g2,0,none⟩=some (.int .i64 4)∧w18.cell? ⟨g2,1,none⟩=some (.string ⟨#[78,111,32,108,111,110,103,101,114,32,115,117,112,112,111,114,116,101,100]⟩)∧w18.cell? ⟨g2,2,none⟩=some (.bool false)∧w18.cell? ⟨g2,3,none⟩=some (.slice none 0 0)∧w18.cell? ⟨g2,4,none⟩=some (.slice none 0 0)∧w18.cell? ⟨g2,5,none⟩=some (.int .i64 0)∧w18.cell? ⟨g2,6,none⟩=some (.int .i64 0):=⟨H.cell (i:=1) rfl rfl,H.cell (i:=1) rfl rfl,H.cell (i:=1) rfl rfl,H.cell (i:=1) rfl rfl,H.cell (i:=1) rfl rfl,H.cell (i:=1) rfl rfl,H.cell (i:=1) rfl rfl⟩;refine hKq.out _ _ (fun _=>hS20) (fun _=>?_);clear hKq Kq;refine held.step (i:=0) (by kernel_rfl) rfl (fun Kq hKq=>?_)
  go_simp
  refine (y6i _ _ _ _ _ _ H).mono ?_;clear H;rintro e x2 ⟨rfl,H⟩;replace H:Hp _ _ _ (_::_::_::M):=H
  try go_simp
  have hS21:x2.cell? ⟨g2,0,none⟩=some (.int .i64 4)∧x2.cell? ⟨g2,1,none⟩=some (.string ⟨#[78,111,32,108,111,110,103,101,114,32,115,117,112,112,111,114,116,101,100]⟩)∧x2.cell? ⟨g2,2,none⟩=some (.bool false)∧x2.cell? ⟨g2,3,none⟩=some (.slice none 0 0)∧x2.cell? ⟨g2,4,none⟩=some (.slice none 0 0)∧x2.cell? ⟨g2,5,none⟩=some (.int .i64 0)∧x2.cell? ⟨g2,6,none⟩=some (.int .i64 0):=⟨H.cell (i:=1) rfl rfl,H.cell (i:=1) rfl rfl,H.cell (i:=1) rfl rfl,H.cell (i:=1) rfl rfl,H.cell (i:=1) rfl rfl,H.cell (i:=1) rfl rfl,H.cell (i:=1) rfl rfl⟩;refine hKq.out _ _ (fun _=>hS21) (fun _=>?_);clear hKq Kq;refine tk 2 hS21 ?_;refine held.step (i:=4) (by kernel_rfl) rfl (fun Kq hKq=>?_);refine y9p (by rfl) 123 (.tmp 3) (.tmp 9) (by rfl) g3 0 (by first|rfl|simp [Act.eval,Act.put]) (.agg #[.bool false,.bool false,.string ⟨#[]⟩,.string ⟨#[114,101,97,115,111,110]⟩,.string ⟨#[83,116,114,105,110,103]⟩,.string ⟨#[]⟩,.bool true,.int .i64 4,.string ⟨#[78,111,32,108,111,110,103,101,114,32,115,117,112,112,111,114,116,101,100]⟩,.bool false,.slice none 0 0,.slice none 0 0,.int .i64 0,.int .i64 0,.slice none 0 0,.int .i64 0,.int .i64 0]) (by first|rfl|simp [Act.eval,Act.put]) [.bool false,.bool false,.string ⟨#[]⟩,.string ⟨#[114,101,97,115,111,110]⟩,.string ⟨#[83,116,114,105,110,103]⟩,.string ⟨#[]⟩,.bool true,.int .i64 4,.string ⟨#[78,111,32,108,111,110,103,101,114,32,115,117,112,112,111,114,116,101,100]⟩,.bool false,.slice none 0 0,.slice none 0 0,.int .i64 0,.int .i64 0,.slice none 0 0,.int .i64 0,.int .i64 0] (by rfl) (by simp [Value.oneCell']) (by kernel_rfl) H 0 [.bool false,.bool false,.string ⟨#[]⟩,.string ⟨#[]⟩,.string ⟨#[]⟩,.string ⟨#[]⟩,.bool false,.int .i64 0,.string ⟨#[]⟩,.bool false,.slice none 0 0,.slice none 0 0,.int .i64 0,.int .i64 0,.slice none 0 0,.int .i64 0,.int .i64 0] [.bool false,.bool false,.string ⟨#[]⟩,.string ⟨#[114,101,97,115,111,110]⟩,.string ⟨#[83,116,114,105,110,103]⟩,.string ⟨#[]⟩,.bool true,.int .i64 4,.string ⟨#[78,111,32,108,111,110,103,101,114,32,115,117,112,112,111,114,116,101,100]⟩,.bool false,.slice none 0 0,.slice none 0 0,.int .i64 0,.int .i64 0,.slice none 0 0,.int .i64 0,.int .i64 0] 123 (by rfl) (Qbn (by rfl)) (by rfl) ?_;clear H;intro w22 H;refine hKq.out _ _ (fun h=>absurd (Qax.2 rfl) h) (fun _=>?_);clear hKq Kq;refine held.done (by kernel_rfl) ?_ _;simp only [Act.put,List.getElem_toArray,List.getElem_cons_zero,List.getElem_cons_succ,List.setIfInBounds_toArray,List.set_cons_zero,List.set_cons_succ];replace H:Hp _ _ _ (_::_::_::M):=H
  go_upto_region 4 with (fail)
  replace H:=H.sub (Qaa _ (Qai _ (Qaa _ (Qam _))));refine x8x (R:=BdR) (by kernel_rfl) (by kernel_rfl) (by kernel_rfl) (by kernel_rfl) BdR.sat ?_ H ?_
  ·simp only [Qbd,List.not_mem_nil,or_false,forall_eq_or_imp,forall_eq];refine ⟨?_,?_,?_,?_,?_,?_,?_,?_,?_,?_,?_,?_,?_,?_,?_⟩
   ·intro a w K hK H hdep hold Kc hKc;have e1:a.tmps.getD 1 undef= .pointer (some ⟨g1,0,none⟩):=hold 1 (by kernel_rfl);refine y25 (by rfl) 123 (.tmp 1) (by rfl) g1 0 e1 condV _ Tryz.underlying123 rfl (by kernel_rfl) H 1 condV 123 (by rfl) (by rfl) ?_;exact hKc _ _ _ (Sat.refl _) H (fun t ht=>by injection ht with ht;subst ht;exact rfl)
   ·intro a w K hK H hdep hold Kc hKc;refine y1i (by rfl) 27 9 3 _ (by rfl) Tryz.underlying27 [(0,.string ⟨#[70,73,69,76,68]⟩),(1,.string ⟨#[70,82,65,71,77,69,78,84,95,83,80,82,69,65,68]⟩),(2,.string ⟨#[73,78,76,73,78,69,95,70,82,65,71,77,69,78,84]⟩)] (by kernel_rfl) [.string ⟨#[70,73,69,76,68]⟩,.string ⟨#[70,82,65,71,77,69,78,84,95,83,80,82,69,65,68]⟩,.string ⟨#[73,78,76,73,78,69,95,70,82,65,71,77,69,78,84]⟩] (by kernel_rfl) H ?_;intro w1 g H;obtain ⟨K1,hle,H,hb⟩:=H.freezeBox (n:=3) (ls:=y0t pl3) (rt_s (rt_s (rt_s (RL.z)))) (by simp [maxLen]);exact hKc _ _ _ hle H (fun t ht=>by injection ht with ht;subst ht;exact ⟨_,rfl,hb⟩)
   ·intro a w K hK H hdep hold Kc hKc;obtain ⟨g,ev,hs⟩:=hdep 1 11 (by kernel_rfl) (by rfl);have ea:a.tmps.getD 10 undef= .agg condV.toArray:=hdep 0 10 (by kernel_rfl) (by rfl);rw [ev] at hs;have hc:=y16 ⟨#[115,107,105,112]⟩ y9y _ _ _ _ _ _ _ _ _ _ _ _ _ _ _ _ _ pl3 3 3 (some ⟨g,0,none⟩) _ _ _ _ H rfl (by omega) hs y7q
    go_simp
    refine hc.mono ?_;rintro e w1 ⟨K1,gi,A,c,rfl,hle,H,hn,hi⟩;exact hKc _ _ _ hle H (fun t ht=>by injection ht with ht;subst ht;exact ⟨_,_,_,rfl,hn,hi⟩)
   ·intro a w K hK H hdep hold Kc hKc;have e1:a.tmps.getD 1 undef= .pointer (some ⟨g1,0,none⟩):=hold 1 (by kernel_rfl);refine y25 (by rfl) 123 (.tmp 1) (by rfl) g1 0 e1 condV _ Tryz.underlying123 rfl (by kernel_rfl) H 1 condV 123 (by rfl) (by rfl) ?_;exact hKc _ _ _ (Sat.refl _) H (fun t ht=>by injection ht with ht;subst ht;exact rfl)
   ·intro a w K hK H hdep hold Kc hKc;refine y1i (by rfl) 27 9 3 _ (by rfl) Tryz.underlying27 [(0,.string ⟨#[70,73,69,76,68]⟩),(1,.string ⟨#[70,82,65,71,77,69,78,84,95,83,80,82,69,65,68]⟩),(2,.string ⟨#[73,78,76,73,78,69,95,70,82,65,71,77,69,78,84]⟩)] (by kernel_rfl) [.string ⟨#[70,73,69,76,68]⟩,.string ⟨#[70,82,65,71,77,69,78,84,95,83,80,82,69,65,68]⟩,.string ⟨#[73,78,76,73,78,69,95,70,82,65,71,77,69,78,84]⟩] (by kernel_rfl) H ?_;intro w1 g H;obtain ⟨K1,hle,H,hb⟩:=H.freezeBox (n:=3) (ls:=y0t pl3) (rt_s (rt_s (rt_s (RL.z)))) (by simp [maxLen]);exact hKc _ _ _ hle H (fun t ht=>by injection ht with ht;subst ht;exact ⟨_,rfl,hb⟩)
   ·intro a w K hK H hdep hold Kc hKc;obtain ⟨g,ev,hs⟩:=hdep 4 14 (by kernel_rfl) (by rfl);have ea:a.tmps.getD 13 undef= .agg condV.toArray:=hdep 3 13 (by kernel_rfl) (by rfl);rw [ev] at hs;have hc:=y16 ⟨#[105,110,99,108,117,100,101]⟩ y9y _ _ _ _ _ _ _ _ _ _ _ _ _ _ _ _ _ pl3 3 3 (some ⟨g,0,none⟩) _ _ _ _ H rfl (by omega) hs y7q
    go_simp
    refine hc.mono ?_;rintro e w1 ⟨K1,gi,A,c,rfl,hle,H,hn,hi⟩;exact hKc _ _ _ hle H (fun t ht=>by injection ht with ht;subst ht;exact ⟨_,_,_,rfl,hn,hi⟩)
   ·intro a w K hK H hdep hold Kc hKc;have e1:a.tmps.getD 3 undef= .pointer (some ⟨g3,0,none⟩):=hold 3 (by kernel_rfl);refine y25 (by rfl) 123 (.tmp 3) (by rfl) g3 0 e1 reasonV _ Tryz.underlying123 rfl (by kernel_rfl) H 0 reasonV 123 (by rfl) (by rfl) ?_;exact hKc _ _ _ (Sat.refl _) H (fun t ht=>by injection ht with ht;subst ht;exact rfl)
   ·intro a w K hK H hdep hold Kc hKc;refine y1i (by rfl) 27 9 2 _ (by rfl) Tryz.underlying27 [(0,.string ⟨#[70,73,69,76,68,95,68,69,70,73,78,73,84,73,79,78]⟩),(1,.string ⟨#[69,78,85,77,95,86,65,76,85,69]⟩)] (by kernel_rfl) [.string ⟨#[70,73,69,76,68,95,68,69,70,73,78,73,84,73,79,78]⟩,.string ⟨#[69,78,85,77,95,86,65,76,85,69]⟩] (by kernel_rfl) H ?_;intro w1 g H;obtain ⟨K1,hle,H,hb⟩:=H.freezeBox (n:=2) (ls:=y0t pl2) (rt_s (rt_s (RL.z))) (by simp [maxLen]);exact hKc _ _ _ hle H (fun t ht=>by injection ht with ht;subst ht;exact ⟨_,rfl,hb⟩)
   ·intro a w K hK H hdep hold Kc hKc;obtain ⟨g,ev,hs⟩:=hdep 7 17 (by kernel_rfl) (by rfl);have ea:a.tmps.getD 16 undef= .agg reasonV.toArray:=hdep 6 16 (by kernel_rfl) (by rfl);rw [ev] at hs;have hc:=y16 ⟨#[100,101,112,114,101,99,97,116,101,100]⟩ y64 _ _ _ _ _ _ _ _ _ _ _ _ _ _ _ _ _ pl2 2 2 (some ⟨g,0,none⟩) _ _ _ _ H rfl (by omega) hs z0p
    go_simp
    refine hc.mono ?_;rintro e w1 ⟨K1,gi,A,c,rfl,hle,H,hn,hi⟩;exact hKc _ _ _ hle H (fun t ht=>by injection ht with ht;subst ht;exact ⟨_,_,_,rfl,hn,hi⟩)
   ·intro a w K hK H hdep hold Kc hKc;have hc:=y6i ⟨#[83,116,114,105,110,103]⟩ ⟨#[33]⟩ _ _ _ _ H
    go_simp
    refine hc.mono ?_;rintro e w1 ⟨rfl,H⟩;exact hKc _ _ _ (Sat.refl _) H (fun t ht=>by injection ht with ht;subst ht;exact rfl)
   ·intro a w K hK H hdep hold Kc hKc;have e19:a.tmps.getD 19 undef= .agg #[.string ⟨#[83,116,114,105,110,103]⟩,.string ⟨#[33]⟩]:=hdep 9 19 (by kernel_rfl) (by rfl)
    have e19':a.tmps[19]?.getD undef= .agg #[.string ⟨#[83,116,114,105,110,103]⟩,.string ⟨#[33]⟩]:=by simpa using e19
    go_simp
    exact hKc _ _ _ (Sat.refl _) H (fun t ht=>by injection ht with ht;subst ht;exact rfl)
   ·intro a w K hK H hdep hold Kc hKc;refine y1i (by rfl) 27 9 1 _ (by rfl) Tryz.underlying27 [(0,.string ⟨#[83,67,65,76,65,82]⟩)] (by kernel_rfl) [.string ⟨#[83,67,65,76,65,82]⟩] (by kernel_rfl) H ?_;intro w1 g H;obtain ⟨K1,hle,H,hb⟩:=H.freezeBox (n:=1) (ls:=y0t pl1) (rt_s (RL.z)) (by simp [maxLen]);exact hKc _ _ _ hle H (fun t ht=>by injection ht with ht;subst ht;exact ⟨_,rfl,hb⟩)
   ·intro a w K hK H hdep hold Kc hKc;obtain ⟨g,ev,hs⟩:=hdep 11 21 (by kernel_rfl) (by rfl);have ea:a.tmps.getD 20 undef= .agg urlV.toArray:=hdep 10 20 (by kernel_rfl) (by rfl);rw [ev] at hs;have hc:=y16 ⟨#[115,112,101,99,105,102,105,101,100,66,121]⟩ urlD _ _ _ _ _ _ _ _ _ _ _ _ _ _ _ _ _ pl1 1 1 (some ⟨g,0,none⟩) _ _ _ _ H rfl (by omega) hs x0n
    go_simp
    refine hc.mono ?_;rintro e w1 ⟨K1,gi,A,c,rfl,hle,H,hn,hi⟩;exact hKc _ _ _ hle H (fun t ht=>by injection ht with ht;subst ht;exact ⟨_,_,_,rfl,hn,hi⟩)
   ·intro a w K hK H hdep hold Kc hKc;obtain ⟨ga,Aa,ca,e12,na,ia⟩:=hdep 2 12 (by kernel_rfl) (by rfl);obtain ⟨gb,Ab,cb,e15,nb,ib⟩:=hdep 5 15 (by kernel_rfl) (by rfl);obtain ⟨gc,Ac,cc,e18,nc,ic⟩:=hdep 8 18 (by kernel_rfl) (by rfl);obtain ⟨gd,Ad,cd,e22,nd,id⟩:=hdep 12 22 (by kernel_rfl) (by rfl);refine y1i (by rfl) 22 43 4 _ (by rfl) Tryz.underlying22 [(0,.agg #[.int .i64 8,.bool false,.bool false,.bool false,.string ⟨#[]⟩,.string ⟨#[115,107,105,112]⟩,.slice none 0 0,.slice none 0 0,.slice none 0 0,.slice (some ⟨ga,0,none⟩) 1 1,.slice none 0 0,.slice none 0 0,.slice none 0 0,.bool false,.slice Aa 3 ca,.int .i64 0,.int .i64 0]),(1,.agg #[.int .i64 8,.bool false,.bool false,.bool false,.string ⟨#[]⟩,.string ⟨#[105,110,99,108,117,100,101]⟩,.slice none 0 0,.slice none 0 0,.slice none 0 0,.slice (some ⟨gb,0,none⟩) 1 1,.slice none 0 0,.slice none 0 0,.slice none 0 0,.bool false,.slice Ab 3 cb,.int .i64 0,.int .i64 0]),(2,.agg #[.int .i64 8,.bool false,.bool false,.bool false,.string ⟨#[]⟩,.string ⟨#[100,101,112,114,101,99,97,116,101,100]⟩,.slice none 0 0,.slice none 0 0,.slice none 0 0,.slice (some ⟨gc,0,none⟩) 1 1,.slice none 0 0,.slice none 0 0,.slice none 0 0,.bool false,.slice Ac 2 cc,.int .i64 0,.int .i64 0]),(3,.agg #[.int .i64 8,.bool false,.bool false,.bool false,.string ⟨#[]⟩,.string ⟨#[115,112,101,99,105,102,105,101,100,66,121]⟩,.slice none 0 0,.slice none 0 0,.slice none 0 0,.slice (some ⟨gd,0,none⟩) 1 1,.slice none 0 0,.slice none 0 0,.slice none 0 0,.bool false,.slice Ad 1 cd,.int .i64 0,.int .i64 0])] (Eq.trans (b:=[(0,a.tmps.getD 12 undef),(1,a.tmps.getD 15 undef),(2,a.tmps.getD 18 undef),(3,a.tmps.getD 22 undef)]) (by kernel_rfl) (by rw [e12,e15,e18,e22])) [.int .i64 8,.bool false,.bool false,.bool false,.string ⟨#[]⟩,.string ⟨#[115,107,105,112]⟩,.slice none 0 0,.slice none 0 0,.slice none 0 0,.slice (some ⟨ga,0,none⟩) 1 1,.slice none 0 0,.slice none 0 0,.slice none 0 0,.bool false,.slice Aa 3 ca,.int .i64 0,.int .i64 0,.int .i64 8,.bool false,.bool false,.bool false,.string ⟨#[]⟩,.string ⟨#[105,110,99,108,117,100,101]⟩,.slice none 0 0,.slice none 0 0,.slice none 0 0,.slice (some ⟨gb,0,none⟩) 1 1,.slice none 0 0,.slice none 0 0,.slice none 0 0,.bool false,.slice Ab 3 cb,.int .i64 0,.int .i64 0,.int .i64 8,.bool false,.bool false,.bool false,.string ⟨#[]⟩,.string ⟨#[100,101,112,114,101,99,97,116,101,100]⟩,.slice none 0 0,.slice none 0 0,.slice none 0 0,.slice (some ⟨gc,0,none⟩) 1 1,.slice none 0 0,.slice none 0 0,.slice none 0 0,.bool false,.slice Ac 2 cc,.int .i64 0,.int .i64 0,.int .i64 8,.bool false,.bool false,.bool false,.string ⟨#[]⟩,.string ⟨#[115,112,101,99,105,102,105,101,100,66,121]⟩,.slice none 0 0,.slice none 0 0,.slice none 0 0,.slice (some ⟨gd,0,none⟩) 1 1,.slice none 0 0,.slice none 0 0,.slice none 0 0,.bool false,.slice Ad 1 cd,.int .i64 0,.int .i64 0] (by kernel_rfl) H ?_;intro w1 g H;obtain ⟨K1,hle,H,hb⟩:=H.freezeBox (n:=4) (ls:=y0q givenDirsD) (x0o na ia nb ib nc ic nd id) (by simp [maxLen]);exact hKc _ _ _ hle H (fun t ht=>by injection ht with ht;subst ht;exact ⟨_,rfl,hb⟩)
   ·intro a w K hK H hdep hold Kc hKc;obtain ⟨g,ev,hs⟩:=hdep 13 23 (by kernel_rfl) (by rfl)
    go_simp
    exact hKc _ _ _ (Sat.refl _) H (fun t ht=>by injection ht with ht;subst ht;exact ⟨g,rfl,by rw [←ev];exact hs⟩)
  ·intro a' w' K' hle H hd hsz hn hold;obtain ⟨g,ev,hv⟩:=hn 0 (by kernel_rfl)
   go_wp2_with fail
   have e0:a'.tmps[0]?.getD undef= .slice (some ⟨g,0,none⟩) 4 4:=by simpa using ev
   rw [ev] at hv;replace H:=H.tail.tail;exact bodyPost_ret (v:=.slice (some ⟨g,0,none⟩) 4 4) (by simp [results,Tryz.results57,go_sem,e0]) hd ⟨K',_,_,rfl,hle,H,hv⟩
end Go.Proofs.YtbpgkkoeehopjaaGreat.hp
namespace Go.Proofs.YtbpgkkoeehopjaaGreat.hp
open Go.RowKit words enc tree gram lex rd dec dat held
def y02 (l:List (Txt×Value)):List (Value×Value):=l.map fun p=>(.string (str p.1),p.2)
def y4z (l:List (Txt×Value)) (x:Txt):Option Value:=(l.find? (·.1==x)).map (·.2)
def sput:List (Txt×Value)→Txt→Value→List (Txt×Value)
 |[],x,v=>[(x,v)]
 |p::r,x,v=>if p.1=x then (x,v)::r else p::sput r x v
theorem q2j {l:List (Txt×Value)} {x:Txt} {v:Value} (h:y4z l x=none):sput l x v=l++[(x,v)]:=by
 induction l with
 |nil=>rfl
 |cons p r ih=>
  by_cases hp:p.1=x
  ·simp [y4z,hp] at h
  ·have:y4z r x=none:=by simpa [y4z,hp] using h
   rw [sput,if_neg hp,ih this];rfl
theorem str_eq (a b:Txt):(str a==str b)=decide (a=b):=by
 show ((str a).data==(str b).data)=_
 rw [Bool.eq_iff_iff];simp [str]
theorem z1t {w:World} {b:Nat} {l:List (Value×Value)} {P:Program} (h:w.heap[b]?=some (mobj l)):(getObj b).run P w= .ok (.map (y2m l).toArray l.length) w:=by
 unfold getObj;simp only [Sem.run,h,mobj]
theorem z78 (x:Txt): ∀(l:List (Txt×Value)) (j i:Nat),Instr.findNow .string (.string (str x)) (((y02 l).zipIdx j).map fun p=>({key:=p.1.1,val:=p.1.2,born:=p.2}:MapEntry)) i=some ((l.findIdx? (·.1==x)).bind fun k=>(l[k]?).map fun p=>(i+k,p.2))
 |[],j,i=>rfl
 |p::r,j,i=>by
  simp only [y02,List.map_cons,List.zipIdx_cons,Instr.findNow,Instr.sameNow,str_eq];by_cases h:p.1=x
  ·have h':x=p.1:=h.symm;simp [h',List.findIdx?_cons]
  ·have h': ¬x=p.1:=fun e=>h e.symm;have:=z78 x r (j+1) (i+1);simp only [y02] at this;simp only [h',decide_false,this,List.findIdx?_cons,h,Qa7,if_false,Bool.false_eq_true]
   cases hq:r.findIdx? (·.1==x) with
   |none=>simp
   |some k=>simp [Nat.add_comm,Nat.add_left_comm,Nat.add_assoc]
section
variable {P : Program} {w : World} {b t kt et : Nat} {l : List (Txt × Value)}
theorem y9z (hk:P.underlying kt=some .string) (x:Txt):(Instr.findKey kt (.string (str x)) (y2m (y02 l))).run P w= .ok ((l.findIdx? (·.1==x)).bind fun k=>(l[k]?).map fun p=>(k,p.2)) w:=by
 have:=z78 x l 0 0;simp only [Nat.zero_add] at this;unfold Instr.findKey y2m;rw [Sem.run_bind,run_underlying hk w];simp only [Result.andThen_ok,this,Sem.run_pure]
theorem y7r (hk:P.underlying kt=some .string) (e:Bool) (x:Txt):(Instr.checkKey e 10000 kt (.string (str x))).run P w= .ok () w:=by
 unfold Instr.checkKey;rw [Sem.run_bind,run_underlying hk w];rfl
theorem z79 (x:Txt): ∀l:List (Txt×Value),((l.findIdx? (·.1==x)).bind fun k=>(l[k]?).map fun p=>(k,p.2)).map (·.2)=y4z l x
 |[]=>rfl
 |p::r=>by
  by_cases h:p.1=x
  ·simp [List.findIdx?_cons,h,y4z]
  ·have:=z79 x r;simp only [y4z,List.find?_cons,List.findIdx?_cons,h,Qa7,if_false,Bool.false_eq_true] at this ⊢;have hb:(p.1==x)=false:=Qa3.2 h;simp only [hb];rw [←this]
   cases hq:r.findIdx? (·.1==x) with
   |none=>simp
   |some k=>simp [Function.comp_def]
theorem z8a (ht:P.underlying t=some (.map kt et)) (hk:P.underlying kt=some .string) (z:Value) (hz:(zeroValue et).run P w= .ok z w) (hb:w.heap[b]?=some (mobj (y02 l))) (x:Txt) (ok:Bool):
  (Instr.lookup t (.map (some b)) (.string (str x)) ok).run P w= .ok (if ok then .tuple #[(y4z l x).getD z,.bool (y4z l x).isSome] else (y4z l x).getD z) w:=by
 have hf:=y9z (P:=P) (w:=w) (l:=l) hk x;have hi:=z79 x l;unfold Instr.lookup;simp only [Sem.run_bind,run_underlying ht w,Result.andThen_ok,z1t hb,Sem.run_pure,y7r hk,hf]
 cases hq:((l.findIdx? (·.1==x)).bind fun k=>(l[k]?).map fun p=>(k,p.2)) with
 |none=>
  rw [hq] at hi;have hi:y4z l x=none:=hi.symm;simp [hi,hz,Sem.run_bind]
 |some p=>
  rw [hq] at hi;have hi:y4z l x=some p.2:=hi.symm;simp [hi,Sem.run_bind]
theorem x2i (x:Txt) (v:Value): ∀(l:List (Txt×Value)),match l.findIdx? (·.1==x) with
  |none=>sput l x v=l++[(x,v)]
  |some k=>k<l.length∧sput l x v=l.set k (x,v)∧(l[k]?).map (·.1)=some x
 |[]=>rfl
 |p::r=>by
  by_cases h:p.1=x
  ·simp [List.findIdx?_cons,h,sput]
  ·have ih:=x2i x v r;have hb:(p.1==x)=false:=Qa3.2 h;simp only [List.findIdx?_cons,hb,Bool.false_eq_true,if_false,sput,h]
   cases hq:r.findIdx? (·.1==x) with
   |none=>rw [hq] at ih;simp only [Option.map_none] at ih ⊢;simp [ih]
   |some k=>rw [hq] at ih;simp only [Option.map_some] at ih ⊢;exact ⟨by simpa using ih.1,by rw [ih.2.1];rfl,by simpa using ih.2.2⟩
theorem x8z (l:List (Txt×Value)) (k:Nat) (hk:k<l.length) (p:Txt×Value):y2m (y02 (l.set k p))=(y2m (y02 l)).modify k fun e=>{e with key:=.string (str p.1),val:=p.2}:=by
 apply Qbz;intro j;simp only [y2m,y02,Qb0,List.getElem?_zipIdx,List.getElem?_modify,List.getElem?_set,List.map_set];by_cases hj:k=j
 ·subst hj;simp [hk]
 ·simp [hj]
theorem z42 {o o':Obj} (hb:w.heap[b]?=some o) (hn: ∀c e f,o≠ .cells c e f):(setObj b o').run P w= .ok () {w with heap:=w.heap.setIfInBounds b o'}:=by
 unfold setObj
 cases o with
 |cells c e f=>exact absurd rfl (hn c e f)
 |_=>simp [Sem.run,hb]
theorem z8b (ht:P.underlying t=some (.map kt et)) (hk:P.underlying kt=some .string) (hb:w.heap[b]?=some (mobj (y02 l))) (x:Txt) (v:Value):
  (Instr.mapUpdate t (.map (some b)) (.string (str x)) v).run P w= .ok () {w with heap:=w.heap.setIfInBounds b (mobj (y02 (sput l x v)))}:=by
 have hf:=y9z (P:=P) (w:=w) (l:=l) hk x;have hi:=x2i x v l;have hs: ∀o',(setObj b o').run P w= .ok () {w with heap:=w.heap.setIfInBounds b o'}:=fun o'=>z42 hb (fun c e f h=>by cases h);unfold Instr.mapUpdate;simp only [Sem.run_bind,run_underlying ht w,Result.andThen_ok,z1t hb,y7r hk,hf]
 cases hq:l.findIdx? (·.1==x) with
 |none=>
  rw [hq] at hi;simp only [Option.bind_none];rw [hs,hi];simp [mobj,y02,y2m,List.zipIdx_append]
 |some k=>
  rw [hq] at hi;obtain ⟨hkl,hsp,hkx⟩:=hi;obtain ⟨p,hp⟩: ∃p,l[k]?=some p:=⟨_,Qad hkl⟩
  have hpx:p.1=x:=by simpa [hp] using hkx
  have hes:((y2m (y02 l)).toArray[k]?).map (·.key)=some (.string (str x)):=by simp [y2m,y02,hp,hpx]
  have hst:(Instr.keyThatStays (.string (str x)) (.string (str x))).run P w= .ok (.string (str x)) w:=by
   unfold Instr.keyThatStays;rw [if_pos (by simp [Instr.sameBits,str_eq])];rfl
  simp only [Option.bind_some,hp,Option.map_some,Sem.run_bind,hes,Option.getD_some,hst,Result.andThen_ok,hs];rw [hsp];have:=x8z l k hkl (x,v)
  have hob:Obj.map ((y2m (y02 l)).toArray.modify k fun e=>{e with key:=.string (str x),val:=v}) l.length=mobj (y02 (l.set k (x,v))):=by
   unfold mobj;rw [this];simp [y02]
  rw [←hob];simp [y02]
end
section
variable {P : Program} {w0 w K : World} {M : List Ent} {ops : Array Oper} {rest : List Oper} {o : Oper} {a : Act} {Q : Exit → Act → World → Prop} {i b t kt et : Nat}
theorem Hp.mapAt (H:Hp w0 w K M) {l:List (Value×Value)} (hi:M[i]?=some (.map b l)):w.heap[b]?=some (mobj l):=H.ok _ (Qaf hi)
theorem Hp.mapSet (H:Hp w0 w K M) {l:List (Value×Value)} (hi:M[i]?=some (.map b l)) (l':List (Value×Value)):Hp w0 {w with heap:=w.heap.setIfInBounds b (mobj l')} K (M.set i (.map b l')):=by
 have hb:=H.mapAt hi;have hlt:=(Qan.1 hb).1;refine H.setAt hi ⟨rfl,rfl,rfl,by simp,fun k hk hne=>?_⟩ ?_ (.inl rfl)
 ·have hkb:b≠k:=fun e=>hne (by subst e;rfl);simp [hkb]
 ·simp [Ent.ok,hlt]
end
def nmap (ks:List Txt):List (Txt×Value):=ks.zipIdx.map fun p=>(p.1,.int .i64 p.2)
theorem y8k (x:Txt): ∀(ks:List Txt) (j:Nat),y4z (ks.zipIdx j |>.map fun p=>(p.1,(Value.int .i64 p.2:Value))) x=(ks.findIdx? (· ==x)).map fun i=>.int .i64 ((j+i:Nat):Int)
 |[],j=>rfl
 |k::r,j=>by
  by_cases h:k=x
  ·simp [y4z,h,List.findIdx?_cons]
  ·have ih:=y8k x r (j+1);simp only [y4z] at ih;have hb:(k==x)=false:=Qa3.2 h;simp only [y4z,List.zipIdx_cons,List.map_cons,List.find?_cons,hb,List.findIdx?_cons,Bool.false_eq_true,if_false,ih]
   cases r.findIdx? (· ==x) with
   |none=>rfl
   |some i=>simp;omega
theorem y90 (ks:List Txt) (x:Txt):y4z (nmap ks) x=(ks.findIdx? (· ==x)).map fun i=>.int .i64 ((i:Nat):Int):=by
 have:=y8k x ks 0;simpa [nmap] using this
theorem x2j (ks:List Txt) (x:Txt) (h:x∉ks):sput (nmap ks) x (.int .i64 (ks.length:Int))=nmap (ks++[x]):=by
 rw [q2j]
 ·simp [nmap,List.zipIdx_append]
 ·rw [y90]
  have:ks.findIdx? (· ==x)=none:=by
   rw [List.findIdx?_eq_none_iff];intro y hy;exact Qa3.2 (fun e=>h (e▸hy))
  rw [this];rfl
set_option maxRecDepth 100000
set_option maxHeartbeats 40000000
attribute [local go_sem ↓] Go.wp_at_zero Go.wp_at_succ
instance scM87:Sc Tryz.prog 87:=⟨⟨_,Tryz.underlying87,rfl⟩⟩
instance scD22:Sc Tryz.prog 22:=⟨⟨_,Tryz.underlying22,rfl⟩⟩
abbrev tbox (g ga gd gf go:Nat) (VT VD:Value):Ent:=.box g [.int .i64 0,.bool false,.bool false,.bool false,.string ⟨#[]⟩,.string ⟨#[]⟩,.slice none 0 0,.slice none 0 0,.slice none 0 0,.slice none 0 0,.slice none 0 0,.slice none 0 0,.slice none 0 0,.bool false,.slice none 0 0,.int .i64 0,.int .i64 0,VT,.map (some ga),VD,.map (some gd),.map (some gf),.map (some go)] 91
theorem y0v (w:World):(zeroValue 3).run Tryz.prog w= .ok (.int .i64 0) w:=by kernel_rfl
theorem z3l {ks:List Txt} {x:Txt} (h:x∉ks):y4z (nmap ks) x=none:=by
 rw [y90]
 have:ks.findIdx? (· ==x)=none:=by
  rw [List.findIdx?_eq_none_iff];intro y hy;exact Qa3.2 (fun e=>h (e▸hy))
 rw [this];rfl
theorem z8c {ks:List Txt} {x:Txt} (h:x∈ks): ∃i,ks[i]?=some x∧(∀j,j<i→ks[j]?≠some x)∧y4z (nmap ks) x=some (.int .i64 (i:Nat)):=by
 rw [y90]
 cases hq:ks.findIdx? (· ==x) with
 |none=>
  rw [List.findIdx?_eq_none_iff] at hq;have:=hq x h;simp at this
 |some i=>
  rw [Qbs] at hq;obtain ⟨hi,h1,h2⟩:=hq;refine ⟨i,?_,?_,rfl⟩
  ·rw [Qad hi];exact congrArg some (eq_of_beq h1)
  ·intro j hj he;have:=h2 j hj;rw [Qad (by omega)] at he;injection he with he;simp [he] at this
section
variable {P : Program} {w0 w K : World} {M M' : List Ent} {a : Act} {o : Oper}
theorem dlM {t kt et:TypeId} {m x:Operand} {b i:Nat} {l:List (Txt×Value)} {k:Txt} {z r:Value} (ht:P.underlying t=some (.map kt et)) (hk:P.underlying kt=some .string) (hz: ∀w,(zeroValue et).run P w= .ok z w) (hr:Value.tuple #[(y4z l k).getD z,.bool (y4z l k).isSome]=r)
  (ho:o.op= .lookup t m x true:=by rfl) (hm:a.eval m= .map (some b):=by rfl) (hx:a.eval x= .string (str k):=by rfl) (hi:M[i]?=some (.map b (y02 l)):=by ((repeat (first|exact i0|apply iS))<;>fail)):z2p P o a K M r:=fun w0 w H=>by
 have hrun:=z8a (w:=w) ht hk z (hz w) (H.mapAt hi) k true;rw [if_pos rfl,hr] at hrun;unfold execOp;simp only [ho,hm,hx,Sem.run_bind,hrun,Result.andThen_ok,Sem.run_pure]
theorem dsM {t kt et:TypeId} {m x y:Operand} {b i:Nat} {l l':List (Txt×Value)} {k:Txt} {v:Value} (ht:P.underlying t=some (.map kt et)) (hk:P.underlying kt=some .string) (hl:sput l k v=l')
  (ho:o.op= .mapUpdate t m x y:=by rfl) (hm:a.eval m= .map (some b):=by rfl) (hx:a.eval x= .string (str k):=by rfl) (hy:a.eval y=v:=by rfl) (hi:M[i]?=some (.map b (y02 l)):=by ((repeat (first|exact i0|apply iS))<;>fail)) (hM:M.set i (.map b (y02 l'))=M':=by (dsimp only [List.set];try rfl)):Does P o a w0 w K M (fun _=>undef) (fun _=>M'):=fun C Q H h=>by
 have hrun:=z8b (w:=w) ht hk (H.mapAt hi) k v;rw [hl] at hrun;unfold Oper.wp execOp;simp only [ho,hm,hx,hy,Sem.run_bind,hrun,Result.andThen_ok,Sem.run_pure];exact h _ 0 (hM▸H.mapSet hi _)
end
theorem x0p (d:DefD) (cs:Array Value) (ks:List Txt) (g ga gd gf go:Nat) (VT VD:Value) (w0 w K:World) (M:List Ent) (H:Hp w0 w K (tbox g ga gd gf go VT VD:: .map ga (y02 (nmap ks))::M)) (hd:RL K (defL d) cs.toList) (hin:d.name∈ks):
  Calls Tryz.prog 59 #[.pointer (some ⟨g,0,none⟩),.agg cs] w fun e w'=>e= .returned (.tuple #[])∧Hp w0 w' K (tbox g ga gd gf go VT VD:: .map ga (y02 (nmap ks))::M):=by
 obtain ⟨A6,c6,A7,c7,A8,c8,A9,c9,A10,c10,A11,c11,A12,c12,A14,c14,hcs,-⟩:=y0e hd;obtain rfl:cs= #[_,_,_,_,_,_,_,_,_,_,_,_,_,_,_,_,_]:=Qal.1 hcs;obtain ⟨i,-,-,hf⟩:=z8c hin;clear hcs hd;go_enter Tryz.func59,Tryz.ntmps59
 go_upto_region 1 with (first|(refine oL H ?_)|(refine oA 3 H ?_;clear H;intro w g3 H)|(refine oP H ?_;clear H;intro w _ H))
 refine rB [] H ?_;clear H;intro w H;refine rT 0 H ?_;refine rT 1 H ?_;refine rT 2 H ?_;refine rT 3 H ?_;refine rT 4 H ?_;refine rT 5 H ?_;refine rT 6 H ?_ (hd:=dlM Tryz.underlying87 Tryz.underlying9 y0v (by rw [hf]));refine rT 7 H ?_;refine rT 8 H ?_;refine rT 9 H ?_;refine rT 10 H ?_;refine rT 11 H ?_;refine rE ?_
 go_wp2_with fail
 refine o0 ?_;exact ⟨rfl,H.fin⟩
def AddT (d:DefD) (ks:List Txt) (g ga gd gf go:Nat) (VD:Value) (xT:List Value) (w0 K:World) (M:List Ent) (e:Ending) (w':World):Prop:=
 ∃K' V VT',e= .returned (.tuple #[])∧Sat K' K∧Hp w0 w' K' (tbox g ga gd gf go VT' VD:: .map ga (y02 (nmap (ks++[d.name]))):: .row 43 17 VT' (ks.length+1) (xT++DV.cells d V)::DV.rows d V++M)∧V.ok K' d
theorem x0q (d:DefD) (cs:Array Value) (ks:List Txt) (g ga gd gf go:Nat) (VT VD:Value) (xT:List Value) (w0 w K:World) (M:List Ent) (H:Hp w0 w K (tbox g ga gd gf go VT VD:: .map ga (y02 (nmap ks)):: .row 43 17 VT ks.length xT::M)) (hd:RL K (defL d) cs.toList) (hin:d.name∉ks) (hm:defN d≤9000000) (hk:ks.length≤9000000):
  Calls Tryz.prog 59 #[.pointer (some ⟨g,0,none⟩),.agg cs] w (AddT d ks g ga gd gf go VD xT w0 K M):=by
 obtain ⟨A6,c6,A7,c7,A8,c8,A9,c9,A10,c10,A11,c11,A12,c12,A14,c14,hcs,-⟩:=y0e hd;obtain rfl:cs= #[_,_,_,_,_,_,_,_,_,_,_,_,_,_,_,_,_]:=Qal.1 hcs;have hf:=z3l hin;have hput:=x2j ks d.name hin;obtain ⟨VA,Vc,rfl,-,-⟩:=H.slice (i:=2) rfl;clear hcs;go_enter Tryz.func59,Tryz.ntmps59
 go_upto_region 1 with (first|(refine oL H ?_)|(refine oA 3 H ?_;clear H;intro w g3 H)|(refine oP H ?_;clear H;intro w _ H))
 refine rB [] H ?_;clear H;intro w H;refine rT 0 H ?_;refine rT 1 H ?_;refine rT 2 H ?_;refine rT 3 H ?_;refine rT 4 H ?_;refine rT 5 H ?_;refine rT 6 H ?_ (hd:=dlM Tryz.underlying87 Tryz.underlying9 y0v (by rw [hf]));refine rT 7 H ?_;refine rT 8 H ?_;refine rT 9 H ?_;refine rT 10 H ?_;refine rT 11 H ?_;refine rE ?_
 go_wp2_with fail
 refine rB [11] H ?_;clear H;intro w H;refine rT 0 H ?_;refine rT 1 H ?_;refine rT 2 H ?_;refine rT 3 H ?_;refine rT 4 H ?_;refine rT 5 H ?_;refine rT 6 H ?_;refine rT 7 H ?_;refine rT 8 H ?_;refine rT 9 H ?_;refine rT 10 H ?_;refine rL 11 H ?_ (hd:=dsM Tryz.underlying87 Tryz.underlying9 hput);clear H;intro w _ H;refine rE ?_
 go_wp2_with fail
 refine rN [.box g3 _ _,.box g _ _] [11] H ?_;clear H;intro w H;refine rT 0 H ?_;refine rT 1 H ?_;refine rT 2 H ?_;refine rT 3 H ?_;refine rT 4 H ?_;refine rT 5 H ?_;refine rC 6 (y60 d _ H hm hd) ?_;clear H;rintro e w ⟨K5,V,rfl,hle,H,hV⟩;have ho:=y8f H;replace H:Hp _ _ _ (.row 52 10 V.v8 d.fields.length V.x8:: .row 133 7 V.v11 d.values.length V.x11:: .row 113 3 V.v6 d.ifaces.length V.x6:: .row 113 3 V.v10 d.members.length V.x10:: .row 113 3 V.v14 d.places.length V.x14:: .row 100 4 V.v12 d.roots.length V.x12:: .row 123 17 V.v9 d.inputs.length V.x9:: .row 181 4 V.v7 d.dirs.length V.x7::_):=H;refine rX H ?_ (v:=.agg #[.int .i64 d.kind,.bool d.ext,.bool d.note.has,.bool d.note.block,.string (str d.note.text),.string (str d.name),V.v6,V.v7,V.v8,V.v9,V.v10,V.v11,V.v12,.bool d.rep,V.v14,.int .i64 d.line,.int .i64 d.col]);refine rW 7 H ?_;clear H;intro w g7 H;refine rA 8 H ?_ (h1:=ho);clear H;intro A8 c8 w _ _ H;dsimp only [List.set] at H;refine rT 9 H ?_;refine rT 10 H ?_;refine rL 11 H ?_;clear H;intro w _ H;refine rE ?_
 go_wp2_with fail
 refine o0 ?_;exact ⟨K5,V,_,rfl,hle,(show Hp _ _ _ (tbox _ _ _ _ _ _ _::_::_:: .row 52 10 V.v8 d.fields.length V.x8:: .row 133 7 V.v11 d.values.length V.x11:: .row 113 3 V.v6 d.ifaces.length V.x6:: .row 113 3 V.v10 d.members.length V.x10:: .row 113 3 V.v14 d.places.length V.x14:: .row 100 4 V.v12 d.roots.length V.x12:: .row 123 17 V.v9 d.inputs.length V.x9:: .row 181 4 V.v7 d.dirs.length V.x7::M) from H.fin),hV⟩
theorem x42 (d:DefD) (cs:Array Value) (ks:List Txt) (g ga gd gf go:Nat) (VT VD:Value) (w0 w K:World) (M:List Ent) (H:Hp w0 w K (tbox g ga gd gf go VT VD:: .map gd (y02 (nmap ks))::M)) (hd:RL K (defL d) cs.toList) (hin:d.name∈ks):
  Calls Tryz.prog 58 #[.pointer (some ⟨g,0,none⟩),.agg cs] w fun e w'=>e= .returned (.tuple #[])∧Hp w0 w' K (tbox g ga gd gf go VT VD:: .map gd (y02 (nmap ks))::M):=by
 obtain ⟨A6,c6,A7,c7,A8,c8,A9,c9,A10,c10,A11,c11,A12,c12,A14,c14,hcs,-⟩:=y0e hd;obtain rfl:cs= #[_,_,_,_,_,_,_,_,_,_,_,_,_,_,_,_,_]:=Qal.1 hcs;obtain ⟨i,-,-,hf⟩:=z8c hin;clear hcs hd;go_enter Tryz.func58,Tryz.ntmps58
 go_upto_region 1 with (first|(refine oL H ?_)|(refine oA 3 H ?_;clear H;intro w g3 H)|(refine oP H ?_;clear H;intro w _ H))
 refine rB [] H ?_;clear H;intro w H;refine rT 0 H ?_;refine rT 1 H ?_;refine rT 2 H ?_;refine rT 3 H ?_;refine rT 4 H ?_;refine rT 5 H ?_;refine rT 6 H ?_ (hd:=dlM Tryz.underlying87 Tryz.underlying9 y0v (by rw [hf]));refine rT 7 H ?_;refine rT 8 H ?_;refine rT 9 H ?_;refine rT 10 H ?_;refine rT 11 H ?_;refine rE ?_
 go_wp2_with fail
 refine o0 ?_;exact ⟨rfl,H.fin⟩
def AddD (d:DefD) (ks:List Txt) (g ga gd gf go:Nat) (VT:Value) (xD:List Value) (w0 K:World) (M:List Ent) (e:Ending) (w':World):Prop:=
 ∃K' xs VD',e= .returned (.tuple #[])∧Sat K' K∧Hp w0 w' K' (tbox g ga gd gf go VT VD':: .map gd (y02 (nmap (ks++[d.name]))):: .row 43 17 VD' (ks.length+1) (xD++xs)::M)∧RL K' (defL d) xs
theorem x43 (d:DefD) (cs:Array Value) (ks:List Txt) (g ga gd gf go:Nat) (VT VD:Value) (xD:List Value) (w0 w K:World) (M:List Ent) (H:Hp w0 w K (tbox g ga gd gf go VT VD:: .map gd (y02 (nmap ks)):: .row 43 17 VD ks.length xD::M)) (hd:RL K (defL d) cs.toList) (hin:d.name∉ks) (hm:defN d≤9000000) (hk:ks.length≤9000000):
  Calls Tryz.prog 58 #[.pointer (some ⟨g,0,none⟩),.agg cs] w (AddD d ks g ga gd gf go VT xD w0 K M):=by
 obtain ⟨A6,c6,A7,c7,A8,c8,A9,c9,A10,c10,A11,c11,A12,c12,A14,c14,hcs,-⟩:=y0e hd;obtain rfl:cs= #[_,_,_,_,_,_,_,_,_,_,_,_,_,_,_,_,_]:=Qal.1 hcs;have hf:=z3l hin;have hput:=x2j ks d.name hin;obtain ⟨VA,Vc,rfl,-,-⟩:=H.slice (i:=2) rfl;clear hcs;go_enter Tryz.func58,Tryz.ntmps58
 go_upto_region 1 with (first|(refine oL H ?_)|(refine oA 3 H ?_;clear H;intro w g3 H)|(refine oP H ?_;clear H;intro w _ H))
 refine rB [] H ?_;clear H;intro w H;refine rT 0 H ?_;refine rT 1 H ?_;refine rT 2 H ?_;refine rT 3 H ?_;refine rT 4 H ?_;refine rT 5 H ?_;refine rT 6 H ?_ (hd:=dlM Tryz.underlying87 Tryz.underlying9 y0v (by rw [hf]));refine rT 7 H ?_;refine rT 8 H ?_;refine rT 9 H ?_;refine rT 10 H ?_;refine rT 11 H ?_;refine rE ?_
 go_wp2_with fail
 refine rB [11] H ?_;clear H;intro w H;refine rT 0 H ?_;refine rT 1 H ?_;refine rT 2 H ?_;refine rT 3 H ?_;refine rT 4 H ?_;refine rT 5 H ?_;refine rT 6 H ?_;refine rT 7 H ?_;refine rT 8 H ?_;refine rT 9 H ?_;refine rT 10 H ?_;refine rL 11 H ?_ (hd:=dsM Tryz.underlying87 Tryz.underlying9 hput);clear H;intro w _ H;refine rE ?_
 go_wp2_with fail
 refine rN [.box g3 _ _,.box g _ _] [11] H ?_;clear H;intro w H;refine rT 0 H ?_;refine rT 1 H ?_;refine rT 2 H ?_;refine rT 3 H ?_;refine rT 4 H ?_;refine rT 5 H ?_;refine rC 6 (y7m d _ H hm hd) ?_;clear H;rintro e w ⟨K5,cs5,rfl,hle,H,he⟩;have ho:=he.one;obtain ⟨B6,e6,B7,e7,B8,e8,B9,e9,B10,e10,B11,e11,B12,e12,B14,e14,hcs,-⟩:=y0e he;obtain rfl:cs5= #[_,_,_,_,_,_,_,_,_,_,_,_,_,_,_,_,_]:=Qal.1 hcs;clear hcs;refine rX H ?_;refine rW 7 H ?_;clear H;intro w g7 H;refine rA 8 H ?_ (h1:=ho);clear H;intro A8 c8 w _ _ H;dsimp only [List.set] at H;refine rT 9 H ?_;refine rT 10 H ?_;refine rL 11 H ?_;clear H;intro w _ H;refine rE ?_
 go_wp2_with fail
 refine o0 ?_;exact ⟨K5,_,_,rfl,hle,H.fin,he⟩
end Go.Proofs.YtbpgkkoeehopjaaGreat.hp
