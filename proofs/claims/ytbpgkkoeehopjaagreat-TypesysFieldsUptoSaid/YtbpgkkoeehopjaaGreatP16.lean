/- Part 16 of 17 of a proof: see the last part. -/
import Derived.Test.YtbpgkkoeehopjaaGreatP11
import Derived.Test.YtbpgkkoeehopjaaGreatP12
import Derived.Test.YtbpgkkoeehopjaaGreatP13
import Derived.Test.YtbpgkkoeehopjaaGreatP14
import Derived.Test.YtbpgkkoeehopjaaGreatP15
import Derived.Deep.QuietTactic
import Derived.BigQuiet
set_option linter.unusedVariables false
set_option linter.unusedSimpArgs false
namespace Go.Proofs.YtbpgkkoeehopjaaGreat.hp
open Go.RowKit words enc tree gram lex rd dec dat held
set_option maxRecDepth 100000
set_option maxHeartbeats 40000000
attribute [local go_sem ↓] Go.wp_at_zero Go.wp_at_succ
theorem z2h {K:World}: ∀l:List Txt,RL K (y03 l) (l.map fun x=>.string (str x))
 |[]=>RL.z
 |x::r=>.lit (z2h r)
def x0d (s:Txt):Bool:=(decide ((y1f s).length=2)||decide ((y1f s).length=3))&&decide (s.length≤1000000)&&decide ((wAt s 1).length≤1000000)&&decide (refA (wAt s 1)<refZ (wAt s 1))
theorem z1t {l:List Txt} (h:l.all x0d=true): ∀x∈l,LineOk x:=fun x hx=>by
 have h:=Qbi.1 h x hx;unfold x0d at h;simp only [Qao,Bool.or_eq_true,decide_eq_true_eq] at h;exact ⟨h.1.1.1,h.1.1.2,h.1.2,h.2⟩
theorem y25 {K:World} {l:List DefD} {d:DefD} {vs us:List Value} (h:RL K (y0q l) vs) (hd:RL K (defL d) us):RL K (y0q (l++[d])) (vs++us):=by
 rw [z3i];exact h.app (y7c (f:=defL) hd)
def ln7:List Txt:=[[100,101,115,99,114,105,112,116,105,111,110,32,83,116,114,105,110,103],[116,121,112,101,115,32,91,95,95,84,121,112,101,33,93,33],[113,117,101,114,121,84,121,112,101,32,95,95,84,121,112,101,33],[109,117,116,97,116,105,111,110,84,121,112,101,32,95,95,84,121,112,101],[115,117,98,115,99,114,105,112,116,105,111,110,84,121,112,101,32,95,95,84,121,112,101],[100,105,114,101,99,116,105,118,101,115,32,91,95,95,68,105,114,101,99,116,105,118,101,33,93,33]]
def ln8:List Txt:=[[107,105,110,100,32,95,95,84,121,112,101,75,105,110,100,33],[110,97,109,101,32,83,116,114,105,110,103],[100,101,115,99,114,105,112,116,105,111,110,32,83,116,114,105,110,103],[115,112,101,99,105,102,105,101,100,66,121,85,82,76,32,83,116,114,105,110,103],[102,105,101,108,100,115,32,91,95,95,70,105,101,108,100,33,93,32,105,110,99,108,117,100,101,68,101,112,114,101,99,97,116,101,100],[105,110,116,101,114,102,97,99,101,115,32,91,95,95,84,121,112,101,33,93],[112,111,115,115,105,98,108,101,84,121,112,101,115,32,91,95,95,84,121,112,101,33,93],[101,110,117,109,86,97,108,117,101,115,32,91,95,95,69,110,117,109,86,97,108,117,101,33,93,32,105,110,99,108,117,100,101,68,101,112,114,101,99,97,116,101,100],[105,110,112,117,116,70,105,101,108,100,115,32,91,95,95,73,110,112,117,116,86,97,108,117,101,33,93],[111,102,84,121,112,101,32,95,95,84,121,112,101]]
def wd9:Txt:=[83,67,65,76,65,82,32,79,66,74,69,67,84,32,73,78,84,69,82,70,65,67,69,32,85,78,73,79,78,32,69,78,85,77,32,73,78,80,85,84,95,79,66,74,69,67,84,32,76,73,83,84,32,78,79,78,95,78,85,76,76]
def ln10:List Txt:=[[110,97,109,101,32,83,116,114,105,110,103,33],[100,101,115,99,114,105,112,116,105,111,110,32,83,116,114,105,110,103],[97,114,103,115,32,91,95,95,73,110,112,117,116,86,97,108,117,101,33,93,33],[116,121,112,101,32,95,95,84,121,112,101,33],[105,115,68,101,112,114,101,99,97,116,101,100,32,66,111,111,108,101,97,110,33],[100,101,112,114,101,99,97,116,105,111,110,82,101,97,115,111,110,32,83,116,114,105,110,103]]
def ln11:List Txt:=[[110,97,109,101,32,83,116,114,105,110,103,33],[100,101,115,99,114,105,112,116,105,111,110,32,83,116,114,105,110,103],[116,121,112,101,32,95,95,84,121,112,101,33],[100,101,102,97,117,108,116,86,97,108,117,101,32,83,116,114,105,110,103]]
def ln12:List Txt:=[[110,97,109,101,32,83,116,114,105,110,103,33],[100,101,115,99,114,105,112,116,105,111,110,32,83,116,114,105,110,103],[105,115,68,101,112,114,101,99,97,116,101,100,32,66,111,111,108,101,97,110,33],[100,101,112,114,101,99,97,116,105,111,110,82,101,97,115,111,110,32,83,116,114,105,110,103]]
def ln13:List Txt:=[[110,97,109,101,32,83,116,114,105,110,103,33],[100,101,115,99,114,105,112,116,105,111,110,32,83,116,114,105,110,103],[108,111,99,97,116,105,111,110,115,32,91,95,95,68,105,114,101,99,116,105,118,101,76,111,99,97,116,105,111,110,33,93,33],[97,114,103,115,32,91,95,95,73,110,112,117,116,86,97,108,117,101,33,93,33],[105,115,82,101,112,101,97,116,97,98,108,101,32,66,111,111,108,101,97,110,33]]
def wd14:Txt:=[81,85,69,82,89,32,77,85,84,65,84,73,79,78,32,83,85,66,83,67,82,73,80,84,73,79,78,32,70,73,69,76,68,32,70,82,65,71,77,69,78,84,95,68,69,70,73,78,73,84,73,79,78,32,70,82,65,71,77,69,78,84,95,83,80,82,69,65,68,32,73,78,76,73,78,69,95,70,82,65,71,77,69,78,84,32,86,65,82,73,65,66,76,69,95,68,69,70,73,78,73,84,73,79,78,32,83,67,72,69,77,65,32,83,67,65,76,65,82,32,79,66,74,69,67,84,32,70,73,69,76,68,95,68,69,70,73,78,73,84,73,79,78,32,65,82,71,85,77,69,78,84,95,68,69,70,73,78,73,84,73,79,78,32,73,78,84,69,82,70,65,67,69,32,85,78,73,79,78,32,69,78,85,77,32,69,78,85,77,95,86,65,76,85,69,32,73,78,80,85,84,95,79,66,74,69,67,84,32,73,78,80,85,84,95,70,73,69,76,68,95,68,69,70,73,78,73,84,73,79,78]
def wdS:Txt:=[73,110,116,32,70,108,111,97,116,32,83,116,114,105,110,103,32,66,111,111,108,101,97,110,32,73,68]
def wdP3:Txt:=[70,73,69,76,68,32,70,82,65,71,77,69,78,84,95,83,80,82,69,65,68,32,73,78,76,73,78,69,95,70,82,65,71,77,69,78,84]
def wdP2:Txt:=[70,73,69,76,68,95,68,69,70,73,78,73,84,73,79,78,32,69,78,85,77,95,86,65,76,85,69]
def wdP1:Txt:=[83,67,65,76,65,82]
theorem lo7:ln7.all x0d=true:=by decide+kernel
theorem le7:ln7.map z2l=gf0:=by kernel_rfl
theorem lo8:ln8.all x0d=true:=by decide+kernel
theorem le8:ln8.map z2l=gf1:=by kernel_rfl
theorem le9:y1f wd9=ge2:=by kernel_rfl
theorem lo10:ln10.all x0d=true:=by decide+kernel
theorem le10:ln10.map z2l=gf3:=by kernel_rfl
theorem lo11:ln11.all x0d=true:=by decide+kernel
theorem le11:ln11.map z2l=gf4:=by kernel_rfl
theorem lo12:ln12.all x0d=true:=by decide+kernel
theorem le12:ln12.map z2l=gf5:=by kernel_rfl
theorem lo13:ln13.all x0d=true:=by decide+kernel
theorem le13:ln13.map z2l=gf6:=by kernel_rfl
theorem le14:y1f wd14=ge7:=by kernel_rfl
theorem leS:y1f wdS=scalT:=by kernel_rfl
theorem leP1:y1f wdP1=pl1:=by kernel_rfl
theorem leP2:y1f wdP2=pl2:=by kernel_rfl
theorem leP3:y1f wdP3=pl3:=by kernel_rfl
def q8l (a b c d a' b' c' d':Value):List Value:=[.int .i64 8,.bool false,.bool false,.bool false,.string ⟨#[]⟩,.string ⟨#[115,107,105,112]⟩,.slice none 0 0,.slice none 0 0,.slice none 0 0,a',.slice none 0 0,.slice none 0 0,.slice none 0 0,.bool false,a,.int .i64 0,.int .i64 0,.int .i64 8,.bool false,.bool false,.bool false,.string ⟨#[]⟩,.string ⟨#[105,110,99,108,117,100,101]⟩,.slice none 0 0,.slice none 0 0,.slice none 0 0,b',.slice none 0 0,.slice none 0 0,.slice none 0 0,.bool false,b,.int .i64 0,.int .i64 0,.int .i64 8,.bool false,.bool false,.bool false,.string ⟨#[]⟩,.string ⟨#[100,101,112,114,101,99,97,116,101,100]⟩,.slice none 0 0,.slice none 0 0,.slice none 0 0,c',.slice none 0 0,.slice none 0 0,.slice none 0 0,.bool false,c,.int .i64 0,.int .i64 0,.int .i64 8,.bool false,.bool false,.bool false,.string ⟨#[]⟩,.string ⟨#[115,112,101,99,105,102,105,101,100,66,121]⟩,.slice none 0 0,.slice none 0 0,.slice none 0 0,d',.slice none 0 0,.slice none 0 0,.slice none 0 0,.bool false,d,.int .i64 0,.int .i64 0]
section
variable {w0 w K : World} {M : List Ent}
theorem q44 (H:Hp w0 w K M):Calls Tryz.prog 72 #[] w fun e w'=>∃K' A c,e= .returned (.slice A givenT.length c)∧Sat K' K∧Hp w0 w' K' M∧RD K' (.list givenT.length (y0q givenT)) (.slice A givenT.length c):=by
 have hsp:=fun {w K M} (H:Hp w0 w K M)=>z2v wdS (by decide) H;rw [leS] at hsp;have hK:=Sat.refl K;go_enter Tryz.func72,Tryz.ntmps72
 go_upto_region 4 with (refine (hsp H).mono ?_;clear H;rintro e w ⟨K1,A1,c1,rfl,hle1,H,hd⟩)
 clear hsp;replace hK:=hle1.trans hK;clear hle1
 go_wp2_with fail
 replace H:=H.nilRow 43 17
 go_loopw [1,3] (fun v i wr=>∃(k:Nat) (A':Option Addr) (c':Nat) (vs:List Value),k≤5∧i= .int .i64 k∧v= .slice A' k c'∧RL K1 (y0q ((scalT.take k).map scD)) vs∧Hp w0 wr K1 (.row 43 17 (.slice A' k c') k vs::M)) (fun _ i _=>5 - (intOf i).toNat)
 case atStart=>exact ⟨0,none,0,[],Qak _,rfl,rfl,RL.z,H⟩
 case round=>
  clear H;obtain ⟨k,A',c',vs,hk,rfl,rfl,hvs,H⟩:=hrel;have h5:scalT.length=5:=rfl;rw [h5] at hd ⊢;by_cases hlt:k<5
  ·obtain ⟨ad,x,rfl,hx,hat⟩:=y7a hd (k:=k) (by rw [h5];exact hlt)
   have hkI:(k:Int)<5:=by omega
   have hkJ:(k:Int)<((5:Nat):Int):=by omega
   have hwr:IntKind.i64.wrap ((k:Int)+1)=k+1:=IntWalk.i64_in _ (by omega);have HX:=hide (y0n hx);clear hx h5
   go_wp2_with (first|(refine oL H ?_)|(refine oP H ?_;clear H;intro w _ H)|(refine oQ H ?_;clear H;intro A' c' w _ _ H;dsimp only [List.set] at H))
   go_roundw
   case rel=>exact ⟨k+1,_,_,_,by omega,by go_num,rfl,by rw [HX.out];exact x3o hvs,H.fin⟩
   case measure=>simp [intOf];omega
  ·obtain rfl:k=5:=by omega
   rw [Qaj (by rw [h5];exact Qab _)] at hvs;clear hd h5;have hc7:=fun {w K M} (H:Hp w0 w K M) {g} (hl:RD K (.list 6 (y03 ln7)) (.slice (some ⟨g,0,none⟩) 6 6))=>y47 (z1t lo7) rfl (by decide) hl H;rw [le7] at hc7
   go_upto_region 8 with (first|(refine oA 20 H ?_ (hd:=dbS (cs:=ln7.map fun x=>.string (str x)) (hcs:=by kernel_rfl));clear H;intro w g H;obtain ⟨K2,hle2,H,hl⟩:=H.freezeBox (n:=6) (ls:=y03 ln7) (z2h ln7) (by simp [maxLen]))|(go_at_call 123;refine (hc7 H hl).mono ?_;clear H hc7 hl;rintro e w ⟨K3,A3,c3,rfl,hle3,H,hf⟩)|(go_at_call 122;refine (y46 ⟨#[95,95,83,99,104,101,109,97]⟩ _ _ _ H).mono ?_;clear H;rintro e w ⟨rfl,H⟩)|(refine oP H ?_;clear H;intro w _ H)|(refine oQ H ?_;clear H;intro A' c' w _ _ H;dsimp only [List.set] at H))
   replace hvs:=y25 (d:=gd0) (hvs.sat (hle3.trans hle2)) (y01 RD.z RD.z hf RD.z RD.z RD.z RD.z RD.z);replace hK:=hle3.trans (hle2.trans hK);replace H:Hp _ _ _ (.row 43 17 _ _ _::M):=H.fin;clear hf hle2 hle3;have hc8:=fun {w K M} (H:Hp w0 w K M) {g} (hl:RD K (.list 10 (y03 ln8)) (.slice (some ⟨g,0,none⟩) 10 10))=>y47 (z1t lo8) rfl (by decide) hl H;rw [le8] at hc8
   go_upto_region 9 with (first|(refine oA 26 H ?_ (hd:=dbS (cs:=ln8.map fun x=>.string (str x)) (hcs:=by kernel_rfl));clear H;intro w g H;obtain ⟨K2,hle2,H,hl⟩:=H.freezeBox (n:=10) (ls:=y03 ln8) (z2h ln8) (by simp [maxLen]))|(go_at_call 123;refine (hc8 H hl).mono ?_;clear H hc8 hl;rintro e w ⟨K3,A3,c3,rfl,hle3,H,hf⟩)|(go_at_call 122;refine (y46 ⟨#[95,95,84,121,112,101]⟩ _ _ _ H).mono ?_;clear H;rintro e w ⟨rfl,H⟩)|(refine oP H ?_;clear H;intro w _ H)|(refine oQ H ?_;clear H;intro A' c' w _ _ H;dsimp only [List.set] at H))
   replace hvs:=y25 (d:=gd1) (hvs.sat (hle3.trans hle2)) (y01 RD.z RD.z hf RD.z RD.z RD.z RD.z RD.z);replace hK:=hle3.trans (hle2.trans hK);replace H:Hp _ _ _ (.row 43 17 _ _ _::M):=H.fin;clear hf hle2 hle3
   go_upto_region 10 with (first|(go_at_call 124;refine (z6h wd9 (by decide) H le9).mono ?_;clear H;rintro e w ⟨K3,A3,c3,rfl,hle3,H,hf⟩)|(refine oP H ?_;clear H;intro w _ H)|(refine oQ H ?_;clear H;intro A' c' w _ _ H;dsimp only [List.set] at H))
   replace hvs:=y25 (d:=gd2) (hvs.sat hle3) (y01 RD.z RD.z RD.z RD.z RD.z hf RD.z RD.z);replace hK:=hle3.trans hK;replace H:Hp _ _ _ (.row 43 17 _ _ _::M):=H.fin;clear hf hle3;have hc10:=fun {w K M} (H:Hp w0 w K M) {g} (hl:RD K (.list 6 (y03 ln10)) (.slice (some ⟨g,0,none⟩) 6 6))=>y47 (z1t lo10) rfl (by decide) hl H;rw [le10] at hc10
   go_upto_region 11 with (first|(refine oA 37 H ?_ (hd:=dbS (cs:=ln10.map fun x=>.string (str x)) (hcs:=by kernel_rfl));clear H;intro w g H;obtain ⟨K2,hle2,H,hl⟩:=H.freezeBox (n:=6) (ls:=y03 ln10) (z2h ln10) (by simp [maxLen]))|(go_at_call 123;refine (hc10 H hl).mono ?_;clear H hc10 hl;rintro e w ⟨K3,A3,c3,rfl,hle3,H,hf⟩)|(go_at_call 122;refine (y46 ⟨#[95,95,70,105,101,108,100]⟩ _ _ _ H).mono ?_;clear H;rintro e w ⟨rfl,H⟩)|(refine oP H ?_;clear H;intro w _ H)|(refine oQ H ?_;clear H;intro A' c' w _ _ H;dsimp only [List.set] at H))
   replace hvs:=y25 (d:=gd3) (hvs.sat (hle3.trans hle2)) (y01 RD.z RD.z hf RD.z RD.z RD.z RD.z RD.z);replace hK:=hle3.trans (hle2.trans hK);replace H:Hp _ _ _ (.row 43 17 _ _ _::M):=H.fin;clear hf hle2 hle3;have hc11:=fun {w K M} (H:Hp w0 w K M) {g} (hl:RD K (.list 4 (y03 ln11)) (.slice (some ⟨g,0,none⟩) 4 4))=>y47 (z1t lo11) rfl (by decide) hl H;rw [le11] at hc11
   go_upto_region 12 with (first|(refine oA 43 H ?_ (hd:=dbS (cs:=ln11.map fun x=>.string (str x)) (hcs:=by kernel_rfl));clear H;intro w g H;obtain ⟨K2,hle2,H,hl⟩:=H.freezeBox (n:=4) (ls:=y03 ln11) (z2h ln11) (by simp [maxLen]))|(go_at_call 123;refine (hc11 H hl).mono ?_;clear H hc11 hl;rintro e w ⟨K3,A3,c3,rfl,hle3,H,hf⟩)|(go_at_call 122;refine (y46 ⟨#[95,95,73,110,112,117,116,86,97,108,117,101]⟩ _ _ _ H).mono ?_;clear H;rintro e w ⟨rfl,H⟩)|(refine oP H ?_;clear H;intro w _ H)|(refine oQ H ?_;clear H;intro A' c' w _ _ H;dsimp only [List.set] at H))
   replace hvs:=y25 (d:=gd4) (hvs.sat (hle3.trans hle2)) (y01 RD.z RD.z hf RD.z RD.z RD.z RD.z RD.z);replace hK:=hle3.trans (hle2.trans hK);replace H:Hp _ _ _ (.row 43 17 _ _ _::M):=H.fin;clear hf hle2 hle3;have hc12:=fun {w K M} (H:Hp w0 w K M) {g} (hl:RD K (.list 4 (y03 ln12)) (.slice (some ⟨g,0,none⟩) 4 4))=>y47 (z1t lo12) rfl (by decide) hl H;rw [le12] at hc12
   go_upto_region 13 with (first|(refine oA 49 H ?_ (hd:=dbS (cs:=ln12.map fun x=>.string (str x)) (hcs:=by kernel_rfl));clear H;intro w g H;obtain ⟨K2,hle2,H,hl⟩:=H.freezeBox (n:=4) (ls:=y03 ln12) (z2h ln12) (by simp [maxLen]))|(go_at_call 123;refine (hc12 H hl).mono ?_;clear H hc12 hl;rintro e w ⟨K3,A3,c3,rfl,hle3,H,hf⟩)|(go_at_call 122;refine (y46 ⟨#[95,95,69,110,117,109,86,97,108,117,101]⟩ _ _ _ H).mono ?_;clear H;rintro e w ⟨rfl,H⟩)|(refine oP H ?_;clear H;intro w _ H)|(refine oQ H ?_;clear H;intro A' c' w _ _ H;dsimp only [List.set] at H))
   replace hvs:=y25 (d:=gd5) (hvs.sat (hle3.trans hle2)) (y01 RD.z RD.z hf RD.z RD.z RD.z RD.z RD.z);replace hK:=hle3.trans (hle2.trans hK);replace H:Hp _ _ _ (.row 43 17 _ _ _::M):=H.fin;clear hf hle2 hle3;have hc13:=fun {w K M} (H:Hp w0 w K M) {g} (hl:RD K (.list 5 (y03 ln13)) (.slice (some ⟨g,0,none⟩) 5 5))=>y47 (z1t lo13) rfl (by decide) hl H;rw [le13] at hc13
   go_upto_region 14 with (first|(refine oA 55 H ?_ (hd:=dbS (cs:=ln13.map fun x=>.string (str x)) (hcs:=by kernel_rfl));clear H;intro w g H;obtain ⟨K2,hle2,H,hl⟩:=H.freezeBox (n:=5) (ls:=y03 ln13) (z2h ln13) (by simp [maxLen]))|(go_at_call 123;refine (hc13 H hl).mono ?_;clear H hc13 hl;rintro e w ⟨K3,A3,c3,rfl,hle3,H,hf⟩)|(go_at_call 122;refine (y46 ⟨#[95,95,68,105,114,101,99,116,105,118,101]⟩ _ _ _ H).mono ?_;clear H;rintro e w ⟨rfl,H⟩)|(refine oP H ?_;clear H;intro w _ H)|(refine oQ H ?_;clear H;intro A' c' w _ _ H;dsimp only [List.set] at H))
   replace hvs:=y25 (d:=gd6) (hvs.sat (hle3.trans hle2)) (y01 RD.z RD.z hf RD.z RD.z RD.z RD.z RD.z);replace hK:=hle3.trans (hle2.trans hK);replace H:Hp _ _ _ (.row 43 17 _ _ _::M):=H.fin;clear hf hle2 hle3
   go_wp2_with (first|(go_at_call 124;refine (z6h wd14 (by decide) H le14).mono ?_;clear H;rintro e w ⟨K3,A3,c3,rfl,hle3,H,hf⟩)|(refine oP H ?_;clear H;intro w _ H)|(refine oQ H ?_;clear H;intro A' c' w _ _ H;dsimp only [List.set] at H))
   replace hvs:=y25 (d:=gd7) (hvs.sat hle3) (y01 RD.z RD.z RD.z RD.z RD.z hf RD.z RD.z);replace hK:=hle3.trans hK;replace H:Hp _ _ _ (.row 43 17 _ _ _::M):=H.fin;clear hf hle3;go_ret;obtain ⟨K4,hle4,H,hd⟩:=H.freezeRow hvs;exact ⟨K4,_,_,rfl,hle4.trans hK,H,hd⟩
theorem q45 (H:Hp w0 w K M):Calls Tryz.prog 73 #[] w fun e w'=>∃K' A c,e= .returned (.slice A 4 c)∧Sat K' K∧Hp w0 w' K' M∧RD K' (.list 4 (y0q givenDirsD)) (.slice A 4 c):=by
 have hb:=fun {w K M} (H:Hp w0 w K M)=>z4w [66,111,111,108,101,97,110,33] (by decide) (by decide+kernel) H;have hs:=fun {w K M} (H:Hp w0 w K M)=>z4w [83,116,114,105,110,103] (by decide) (by decide+kernel) H;have hu:=fun {w K M} (H:Hp w0 w K M)=>z4w [83,116,114,105,110,103,33] (by decide) (by decide+kernel) H;rw [show refF [66,111,111,108,101,97,110,33]=([66,111,111,108,101,97,110],[33]) by decide+kernel] at hb;rw [show refF [83,116,114,105,110,103]=([83,116,114,105,110,103],[]) by decide+kernel] at hs;rw [show refF [83,116,114,105,110,103,33]=([83,116,114,105,110,103],[33]) by decide+kernel] at hu;have hK:=Sat.refl K;go_enter Tryz.func73,Tryz.ntmps73
 go_upto_region 2 with (first|(refine (hb H).mono ?_;clear H;rintro e w ⟨rfl,H⟩)|(refine oA 8 H ?_;clear H;intro w g8 H))
 obtain ⟨K1,hle1,H,i1⟩:=H.freezeBox (n:=1) (ls:=y0k [z0o]) y8n (by simp [maxLen])
 go_upto_region 3 with (first|(refine (hb H).mono ?_;clear H;rintro e w ⟨rfl,H⟩)|(refine oA 11 H ?_;clear H;intro w g11 H))
 obtain ⟨K2,hle2,H,i2⟩:=H.freezeBox (n:=1) (ls:=y0k [z0o]) y8n (by simp [maxLen])
 go_upto_region 4 with (first|(refine oA 3 H ?_;clear H;intro w g3 H)|(refine oP H ?_;clear H;intro w _ H))
 refine rB [] H ?_;clear H;intro w H;refine rT 1 H ?_;refine rC 0 (show Calls Tryz.prog 125 #[.string ⟨#[83,116,114,105,110,103]⟩] _ _ from hs H) ?_;clear H;rintro e w ⟨rfl,H⟩;refine rX H ?_;refine rT 2 H ?_;refine rW 3 H ?_;clear H;intro w g16 H;refine rT 4 H ?_;refine rE ?_;obtain ⟨K3,hle3,H,i3⟩:=H.freezeBox (n:=1) (ls:=y0k [y72]) z1i (by simp [maxLen])
 go_upto_region 6 with (first|(refine (hu H).mono ?_;clear H;rintro e w ⟨rfl,H⟩)|(refine oA 19 H ?_;clear H;intro w g19 H))
 obtain ⟨K4,hle4,H,i4⟩:=H.freezeBox (n:=1) (ls:=y0k [urlD]) x1t (by simp [maxLen]);have q3:=fun {w K M} (H:Hp w0 w K M)=>z1s wdP3 (by decide) H leP3;have q2:=fun {w K M} (H:Hp w0 w K M)=>z1s wdP2 (by decide) H leP2;have q1:=fun {w K M} (H:Hp w0 w K M)=>z1s wdP1 (by decide) H leP1
 go_wp2_with fail
 refine (q3 H).mono ?_;clear H;rintro e w ⟨K5,A5,c5,rfl,hle5,H,n1⟩
 go_wp2_with fail
 refine (q3 H).mono ?_;clear H;rintro e w ⟨K6,A6,c6,rfl,hle6,H,n2⟩
 go_wp2_with fail
 refine (q2 H).mono ?_;clear H;rintro e w ⟨K7,A7,c7,rfl,hle7,H,n3⟩
 go_wp2_with fail
 refine (q1 H).mono ?_;clear H;rintro e w ⟨K8,A8,c8,rfl,hle8,H,n4⟩;have s7:=hle8;have s6:=hle8.trans hle7;have s5:=s6.trans hle6;have s4:=s5.trans hle5;have s3:=s4.trans hle4;have s2:=s3.trans hle3;have s1:=s2.trans hle2;have hv:RL K8 (y0q givenDirsD) (q8l (.slice A5 3 c5) (.slice A6 3 c6) (.slice A7 2 c7) (.slice A8 1 c8) (.slice (some ⟨g8,0,none⟩) 1 1) (.slice (some ⟨g11,0,none⟩) 1 1) (.slice (some ⟨g16,0,none⟩) 1 1) (.slice (some ⟨g19,0,none⟩) 1 1)):=x1u (n1.sat s5) (i1.sat s1) (n2.sat s6) (i2.sat s2) (n3.sat s7) (i3.sat s3) n4 (i4.sat s4);have HV:=hide hv;clear hv n1 n2 n3 n4 i1 i2 i3 i4 q1 q2 q3 hb hs hu
 go_wp2_with (refine oA 32 H ?_ (hd:=dbS (cs:=q8l (.slice A5 3 c5) (.slice A6 3 c6) (.slice A7 2 c7) (.slice A8 1 c8) (.slice (some ⟨g8,0,none⟩) 1 1) (.slice (some ⟨g11,0,none⟩) 1 1) (.slice (some ⟨g16,0,none⟩) 1 1) (.slice (some ⟨g19,0,none⟩) 1 1)) (hcs:=by kernel_rfl));clear H;intro w g H)
 go_ret;obtain ⟨K9,hle9,H,hd⟩:=H.freezeBox (n:=4) (ls:=y0q givenDirsD) HV.out (by simp [maxLen]);exact ⟨K9,_,_,rfl,hle9.trans (s1.trans hle1),H.fin,hd⟩
end
end Go.Proofs.YtbpgkkoeehopjaaGreat.hp
namespace Go.Proofs.YtbpgkkoeehopjaaGreat.hp
open Go.RowKit words enc tree gram lex rd dec dat held ty
set_option maxRecDepth 100000
attribute [local go_sem ↓] Go.wp_at_zero Go.wp_at_succ
abbrev sv (x:Txt):Value:=.string (str x)
set_option maxHeartbeats 40000000
def y2l (l:List DefD) (x:Txt):Int:=match y1k l x with
 |some i=>(i:Int)
 |none=> -1
theorem q8m {l:List DefD} {x:Txt} {k:Nat} {d:DefD} (hd:l[k]?=some d) (hx:d.name=x) (hno:x∉(l.take k).map (·.name)):y1k l x=some k:=by
 unfold y1k;rw [Qbs]
 have hk:k<(y0a l).length:=by simpa using (Qac.1 hd).1
 refine ⟨hk,?_,fun j hj=>?_⟩
 ·have:(y0a l)[k]?=some x:=by simp [y0a,hd,hx]
  rw [Qad hk] at this;injection this with this;simp [this]
 ·intro h;refine hno (Qbp.2 ⟨j,?_⟩);rw [List.map_take,Qbb,if_pos hj];have e:(y0a l)[j]?=some ((y0a l)[j]'(by omega)):=Qad _;rw [show l.map (·.name)=y0a l from rfl,e];exact congrArg some (by simpa using h)
theorem q46 {l:List DefD} {x:Txt} (hno:x∉l.map (·.name)):y1k l x=none:=by
 unfold y1k;rw [List.findIdx?_eq_none_iff];intro y hy;exact Qa3.2 fun e=>hno (e▸hy)
section
variable {w0 w K : World} {M : List Ent}
theorem rowR {e:TypeId} {m n i:Nat} {v:Value} {vs:List Value} {ls:List Leaf} (H:Hp w0 w K M) (hi:M[i]?=some (.row e m v n vs)) (hl:RL K ls vs):RD w (.list n ls) v:=
 ⟨y19 (show w.ownsRow 0 e m v n vs from H.ok _ (Qaf hi)) (hl.sat H.sat).reads (fun g hg=>⟨Qak _,(World.ownsRow.lt (show w.ownsRow 0 e m v n vs from H.ok _ (Qaf hi)) g hg).2⟩),Qab _⟩
theorem y1o {l:List DefD} {A:Option Addr} {n c:Nat} (x:Txt) (hl:l.length=n) (hn:n≤9000000) (hd:RD w (.list n (y0q l)) (.slice A n c)) {r:Int} (hr:y2l l x=r):
  Calls Tryz.prog 77 #[.slice A n c,.string (str x)] w fun e w'=>e= .returned (.int .i64 r)∧w'=w:=by
 have H:=Hp.start w;have HN:=hide hl;have HR:=hide hr;clear hl hr;go_enter Tryz.func77,Tryz.ntmps77
 go_wp2_with fail
 go_loopw [5] (fun i wr=>∃k:Nat,k≤n∧i= .int .i64 k∧Hid (x∉(l.take k).map (·.name))∧wr=w) (fun i _=>n - (intOf i).toNat)
 case atStart=>exact ⟨0,Qak _,rfl,(by show _∉_;simp),rfl⟩
 case round=>
  obtain ⟨k,hk,rfl,hno,rfl⟩:=hrel;by_cases hlt:k<n
  ·obtain ⟨d,ad,us,hx,rfl,hxl,hat⟩:=el_k (m:=17) (f:=defL) y0u hd (by rw [HN.out];exact hlt) (by decide);obtain ⟨hkI,hwr⟩:=wr_k hlt hn;obtain ⟨A6,c6,A7,c7,A8,c8,A9,c9,A10,c10,A11,c11,A12,c12,A14,c14,rfl,-,-,-,-,-,-,-,-⟩:=y0c hxl;have htk:=y0n hx;by_cases he:d.name=x
   ·have e1:((str d.name).toList==(str x).toList)=true:=by rw [Go.Proofs.YtbpgkkoeehopjaaGreat.gram.str_eq];exact Qa5 he
    obtain rfl:r=(k:Int):=by rw [←HR.out];unfold y2l;rw [q8m hx he hno.out]
    clear he hx htk hxl
    go_wp2_with (first|(refine oL H ?_)|(refine oP H ?_;clear H;intro w _ H))
    go_ret;exact ⟨rfl,rfl⟩
   ·have e1:((str d.name).toList==(str x).toList)=false:=by rw [Go.Proofs.YtbpgkkoeehopjaaGreat.gram.str_eq];exact Qa4 he
    have HNX:Hid (x∉(l.take (k+1)).map (·.name)):=by
     show _∉_
     rw [htk,Qas];intro hm;rcases Qbf.1 hm with hm|hm
     ·exact hno.out hm
     ·exact he (Qax.1 hm).symm
    clear he hx htk hno hxl
    go_wp2_with (first|(refine oL H ?_)|(refine oP H ?_;clear H;intro w _ H))
    go_roundw
    case rel=>exact ⟨k+1,by omega,by go_num,HNX,trivial⟩
    case measure=>simp [intOf];omega
  ·obtain rfl:n=k:=by omega
   have hno:=hno.out;rw [Qaj (by rw [HN.out];exact Qab _)] at hno
   obtain rfl:r= -1:=by rw [←HR.out];unfold y2l;rw [q46 hno]
   clear hno
   go_wp2_with (first|(refine oL H ?_)|(refine oP H ?_;clear H;intro w _ H))
   go_ret;exact ⟨rfl,rfl⟩
theorem x6w (defs:List DefD) {n c:Nat} {A:Option Addr} (H:Hp w0 w K M) (hn:defs.length=n) (hd:RD K (.list n (y0q defs)) (.slice A n c)) (hm:n≤9000000):
  Calls Tryz.prog 74 #[.slice A n c] w fun e w'=>∃A' c',e= .returned (.slice A' n c')∧Hp w0 w' K (.row 9 1 (.slice A' n c') n ((defs.map (·.name)).map sv)::M):=by
 have HN:=hide hn;clear hn;go_enter Tryz.func74,Tryz.ntmps74
 go_wp2_with fail
 replace H:=H.nilRow 9 1
 go_loopw [3,4] (fun v i wr=>∃(k:Nat) (A':Option Addr) (c':Nat) (vs:List Value),k≤n∧i= .int .i64 k∧v= .slice A' k c'∧Hp w0 wr K (.row 9 1 (.slice A' k c') k vs::M)∧Hid (vs=((defs.take k).map (·.name)).map sv)) (fun _ i _=>n - (intOf i).toNat)
 case atStart=>exact ⟨0,none,0,[],Qak _,rfl,rfl,H,rfl⟩
 case round=>
  clear H;obtain ⟨k,A',c',vs,hk,rfl,rfl,H,hvs⟩:=hrel;by_cases hlt:k<n
  ·obtain ⟨d,ad,us,hx,rfl,hxl,hat⟩:=el_k (m:=17) (f:=defL) y0u hd (by rw [HN.out];exact hlt) (by decide);obtain ⟨hkI,hwr⟩:=wr_k hlt hm;obtain ⟨A6,c6,A7,c7,A8,c8,A9,c9,A10,c10,A11,c11,A12,c12,A14,c14,rfl,-,-,-,-,-,-,-,-⟩:=y0c hxl;have HX:=hide (y0n hx);clear hx hxl
   go_wp2_with (first|(refine oL H ?_)|(refine oP H ?_;clear H;intro w _ H)|(refine oQ H ?_;clear H;intro A' c' w _ _ H;dsimp only [List.set] at H))
   go_roundw
   case rel=>exact ⟨k+1,_,_,_,by omega,by go_num,rfl,H.fin,by show _=_;rw [HX.out,hvs.out];simp [sv]⟩
   case measure=>simp [intOf];omega
  ·obtain rfl:n=k:=by omega
   have hvs:=hvs.out;rw [Qaj (by rw [HN.out];exact Qab _)] at hvs;subst hvs
   go_wp2_with fail
   go_ret;exact ⟨_,_,rfl,H⟩
theorem z0y {k:Int} {c1 c2 c3 c4 c5 c6 c7 c8 c9 c10 c11 c12 c13 c14 c15 c16:Value} (H:Hp w0 w K M) {r:Bool} (hr:decide (2≤k∧k≤7)=r):
  Calls Tryz.prog 119 #[.agg #[.int .i64 k,c1,c2,c3,c4,c5,c6,c7,c8,c9,c10,c11,c12,c13,c14,c15,c16]] w fun e w'=>e= .returned (.bool r)∧Hp w0 w' K M:=by
 subst hr;go_enter Tryz.func119,Tryz.ntmps119;by_cases h2:2≤k
 ·by_cases h7:k≤7
  ·rw [Qa5 ⟨h2,h7⟩]
   go_wp2_with (first|(refine oL H ?_)|(refine oP H ?_;clear H;intro w _ H))
   go_ret;exact ⟨rfl,H.fin⟩
  ·rw [Qa4 (fun h=>h7 h.2)]
   go_wp2_with (first|(refine oL H ?_)|(refine oP H ?_;clear H;intro w _ H))
   go_ret;exact ⟨rfl,H.fin⟩
 ·rw [Qa4 (fun h=>h2 h.1)]
  go_wp2_with (first|(refine oL H ?_)|(refine oP H ?_;clear H;intro w _ H))
  go_ret;exact ⟨rfl,H.fin⟩
end
theorem q8n (d:DefD): ∀(l:List DefD) (a:DefD),defN (l.foldl (y4e d) a)≤defN a+y0e l
 |[],a=>by simp [y0e,sumN]
 |x::r,a=>by
  have h1:=q8n d r (y4e d a x)
  have h2:defN (y4e d a x)≤defN a+defN x:=by
   unfold y4e;split
   ·exact z7l a x
   ·omega
  simp only [List.foldl_cons,y0e,sumN] at h1 ⊢;omega
theorem x2f (defs:List DefD): ∀(l out:List DefD),(l.foldl (y2i defs) out).length≤out.length+l.length
 |[],out=>by simp
 |x::r,out=>by
  have h1:=x2f defs r (y2i defs out x)
  have h2:(y2i defs out x).length≤out.length+1:=by
   unfold y2i
   split<;>simp
  simp only [List.foldl_cons,List.length_cons];omega
theorem y8v {l:List DefD} {x:Txt} (h:x∈y0a l): ∃i:Nat,y2l l x=i:=by
 unfold y2l
 cases hq:y1k l x with
 |none=>exact absurd h (y6f hq)
 |some i=>exact ⟨i,rfl⟩
theorem y8w {l:List DefD} {x:Txt} (h:x∉y0a l):y2l l x= -1:=by
 unfold y2l;rw [q46 h]
theorem y64 {l:List DefD} {k:Nat} {d:DefD} (h:l[k]?=some d):defN d≤y0e l:=y5e (f:=defN) h
section
variable {w0 w K : World} {M : List Ent}
theorem q0x (defs:List DefD) {n c:Nat} {A:Option Addr} (hl:defs.length=n) (hN:y0e defs≤2900000) (hd:RD K (.list n (y0q defs)) (.slice A n c)) (H:Hp w0 w K M):
  Calls Tryz.prog 69 #[.slice A n c] w fun e w'=>∃K' A' c' vs,e= .returned (.slice A' (y3y defs).length c')∧Sat K' K∧RL K' (y0q (y3y defs)) vs∧Hp w0 w' K' (.row 43 17 (.slice A' (y3y defs).length c') (y3y defs).length vs::M):=by
 have hn:n≤9000000:=by have:=y0o y2g defs;unfold y0e at hN;omega
 have HN:=hide hl;have HD:=hide hN;obtain ⟨R,hR⟩: ∃R,y3y defs=R:=⟨_,rfl⟩;rw [hR];have HR:=hide hR;clear hl hR hN;go_enter Tryz.func69,Tryz.ntmps69
 go_upto_region 3 with (refine (q44 H).mono ?_;clear H;rintro e w ⟨K1,Ag,cg,rfl,hle1,H,hg⟩)
 replace hd:=hd.sat hle1
 go_wp2_with fail
 replace H:=H.nilRow 43 17
 go_loopw [3,5] (fun v i wr=>∃(K':World) (k:Nat) (A':Option Addr) (c':Nat) (vs:List Value) (out:List DefD),k≤n∧i= .int .i64 k∧v= .slice A' out.length c'∧Hid ((defs.take k).foldl (y2i defs) []=out)∧Sat K' K1∧RL K' (y0q out) vs∧Hp w0 wr K' (.row 43 17 (.slice A' out.length c') out.length vs::M)) (fun _ i _=>n - (intOf i).toNat)
 case atStart=>exact ⟨K1,0,none,0,[],[],Qak _,rfl,rfl,rfl,Sat.refl _,RL.z,H⟩
 case round=>
  clear H;obtain ⟨K',k,A',c',vs,out,hk,rfl,rfl,HO,hle,hvs,H⟩:=hrel;replace hd:=hd.sat hle;replace hg:=hg.sat hle
  have hml:out.length≤k:=by have:=x2f defs (defs.take k) [];rw [HO.out] at this;simp only [List.length_nil,Qau] at this;omega
  have hmn:out.length≤9000000:=by omega
  by_cases hlt:k<n
  ·obtain ⟨d,ad,us,hx,rfl,hxl,hat⟩:=el_k (m:=17) (f:=defL) y0u hd (by rw [HN.out];exact hlt) (by decide);obtain ⟨hkI,hwr⟩:=wr_k hlt hn;have hdn:=y64 hx;have htk:=y0n hx;obtain ⟨A6,c6,A7,c7,A8,c8,A9,c9,A10,c10,A11,c11,A12,c12,A14,c14,rfl,-,-,-,-,-,-,-,-⟩:=y0c hxl;have HXN:=hide (show defN d≤2900000 from Qah hdn HD.out);clear hx hdn hml;obtain ⟨ty,hty⟩: ∃b,decide (2≤d.kind∧d.kind≤7)=b:=⟨_,rfl⟩;obtain ⟨p1,hp1⟩: ∃b,y2l out d.name=b:=⟨_,rfl⟩;obtain ⟨p2,hp2⟩: ∃b,y2l givenT d.name=b:=⟨_,rfl⟩
   cases ty with
   |false=>
    have hno:=of_decide_eq_false hty
    have HS:Hid ((defs.take (k+1)).foldl (y2i defs) []=out):=by
     show _=_
     rw [htk,List.foldl_append,HO.out];simp only [List.foldl_cons,List.foldl_nil,y2i];rw [if_neg (fun h=>hno ⟨h.1.1,h.1.2.1⟩)]
    go_wp2_with (first|(refine oL H ?_)|(refine oA 6 H ?_;clear H;intro w g6 H)|(refine oP H ?_;clear H;intro w _ H)|((with_reducible refine (z0y H hty).mono ?_);clear H;rintro e w ⟨rfl,H⟩)|((with_reducible refine (y1o d.name rfl hmn (rowR H (i:=1) rfl hvs) hp1).mono ?_);rintro e w9 ⟨rfl,hw9⟩;subst w9)|((with_reducible refine (y1o d.name rfl (by decide) (hg.sat H.sat) hp2).mono ?_);rintro e w9 ⟨rfl,hw9⟩;subst w9))
    go_roundw
    case rel=>exact ⟨K',k+1,A',c',vs,out,by omega,by go_num,rfl,HS,hle,hvs,H.fin⟩
    case measure=>simp [intOf];omega
   |true=>
    have hyes:=Qa6 hty;by_cases hext:d.ext=true
    ·have hex2:=hext
     have HS:Hid ((defs.take (k+1)).foldl (y2i defs) []=out):=by
      show _=_
      rw [htk,List.foldl_append,HO.out];simp only [List.foldl_cons,List.foldl_nil,y2i];rw [if_neg (fun h=>by have:=h.1.2.2;rw [hext] at this;cases this)]
     go_wp2_with (first|(refine oL H ?_)|(refine oA 6 H ?_;clear H;intro w g6 H)|(refine oP H ?_;clear H;intro w _ H)|((with_reducible refine (z0y H hty).mono ?_);clear H;rintro e w ⟨rfl,H⟩)|((with_reducible refine (y1o d.name rfl hmn (rowR H (i:=1) rfl hvs) hp1).mono ?_);rintro e w9 ⟨rfl,hw9⟩;subst w9)|((with_reducible refine (y1o d.name rfl (by decide) (hg.sat H.sat) hp2).mono ?_);rintro e w9 ⟨rfl,hw9⟩;subst w9))
     go_roundw
     case rel=>exact ⟨K',k+1,A',c',vs,out,by omega,by go_num,rfl,HS,hle,hvs,H.fin⟩
     case measure=>simp [intOf];omega
    ·replace hext:d.ext=false:=by simpa using hext
     by_cases h1:d.name∈y0a out
     ·obtain ⟨i,hi⟩:=y8v h1;obtain rfl:p1=(i:Int):=hp1.symm.trans hi
      have hi0:(0:Int)≤(i:Int):=by omega
      clear hi
      have HS:Hid ((defs.take (k+1)).foldl (y2i defs) []=out):=by
       show _=_
       rw [htk,List.foldl_append,HO.out];simp only [List.foldl_cons,List.foldl_nil,y2i];rw [if_neg (fun h=>h.2.1 h1)]
      go_wp2_with (first|(refine oL H ?_)|(refine oA 6 H ?_;clear H;intro w g6 H)|(refine oP H ?_;clear H;intro w _ H)|((with_reducible refine (z0y H hty).mono ?_);clear H;rintro e w ⟨rfl,H⟩)|((with_reducible refine (y1o d.name rfl hmn (rowR H (i:=1) rfl hvs) hp1).mono ?_);rintro e w9 ⟨rfl,hw9⟩;subst w9)|((with_reducible refine (y1o d.name rfl (by decide) (hg.sat H.sat) hp2).mono ?_);rintro e w9 ⟨rfl,hw9⟩;subst w9))
      go_roundw
      case rel=>exact ⟨K',k+1,A',c',vs,out,by omega,by go_num,rfl,HS,hle,hvs,H.fin⟩
      case measure=>simp [intOf];omega
     ·obtain rfl:p1= -1:=hp1.symm.trans (y8w h1);by_cases h2:d.name∈y0a givenT
      ·obtain ⟨i,hi⟩:=y8v h2;obtain rfl:p2=(i:Int):=hp2.symm.trans hi
       have hi0:(0:Int)≤(i:Int):=by omega
       clear hi
       have HS:Hid ((defs.take (k+1)).foldl (y2i defs) []=out):=by
        show _=_
        rw [htk,List.foldl_append,HO.out];simp only [List.foldl_cons,List.foldl_nil,y2i];rw [if_neg (fun h=>h.2.2 h2)]
       go_wp2_with (first|(refine oL H ?_)|(refine oA 6 H ?_;clear H;intro w g6 H)|(refine oP H ?_;clear H;intro w _ H)|((with_reducible refine (z0y H hty).mono ?_);clear H;rintro e w ⟨rfl,H⟩)|((with_reducible refine (y1o d.name rfl hmn (rowR H (i:=1) rfl hvs) hp1).mono ?_);rintro e w9 ⟨rfl,hw9⟩;subst w9)|((with_reducible refine (y1o d.name rfl (by decide) (hg.sat H.sat) hp2).mono ?_);rintro e w9 ⟨rfl,hw9⟩;subst w9))
       go_roundw
       case rel=>exact ⟨K',k+1,A',c',vs,out,by omega,by go_num,rfl,HS,hle,hvs,H.fin⟩
       case measure=>simp [intOf];omega
      ·obtain rfl:p2= -1:=hp2.symm.trans (y8w h2)
       have HS:Hid ((defs.take (k+1)).foldl (y2i defs) []=out++[x2a defs d]):=by
        show _=_
        rw [htk,List.foldl_append,HO.out];simp only [List.foldl_cons,List.foldl_nil,y2i];rw [if_pos ⟨⟨hyes.1,hyes.2,hext⟩,h1,h2⟩]
       clear h1 h2 hyes htk
       go_upto_region 8 with (first|(refine oL H ?_)|(refine oA 6 H ?_;clear H;intro w g6 H)|(refine oP H ?_;clear H;intro w _ H)|((with_reducible refine (z0y H hty).mono ?_);clear H;rintro e w ⟨rfl,H⟩)|((with_reducible refine (y1o d.name rfl hmn (rowR H (i:=1) rfl hvs) hp1).mono ?_);rintro e w9 ⟨rfl,hw9⟩;subst w9)|((with_reducible refine (y1o d.name rfl (by decide) (hg.sat H.sat) hp2).mono ?_);rintro e w9 ⟨rfl,hw9⟩;subst w9))
       clear hp1 hp2 hty;clear hg;clear hext
       have hd9:defN d≤9000000:=by have:=HXN.out;omega
       go_upto_region 9 with (first|(refine oL H ?_)|(go_at_call 86;(refine (y75 d _ H hd9 hxl).mono ?_);clear H;rintro e w ⟨K2,V,he,hle2,H,hV⟩;obtain rfl:e= .returned (.agg #[.int .i64 d.kind,.bool d.ext,.bool d.note.has,.bool d.note.block,.string (str d.note.text),.string (str d.name),V.v6,V.v7,V.v8,V.v9,V.v10,V.v11,V.v12,.bool d.rep,V.v14,.int .i64 d.line,.int .i64 d.col]):=he;have ho:=hide (y87 H);replace H:Hp _ _ _ (.row 52 10 V.v8 d.fields.length V.x8:: .row 133 7 V.v11 d.values.length V.x11:: .row 113 3 V.v6 d.ifaces.length V.x6:: .row 113 3 V.v10 d.members.length V.x10:: .row 113 3 V.v14 d.places.length V.x14:: .row 100 4 V.v12 d.roots.length V.x12:: .row 123 17 V.v9 d.inputs.length V.x9:: .row 181 4 V.v7 d.dirs.length V.x7::_):=H)|(refine oA 7 H ?_;clear H;intro w g7 H)|(refine oP H ?_;clear H;intro w _ H))
       clear hat hxl hd9;replace hd:=hd.sat hle2;replace hvs:=hvs.sat hle2
       go_wp2_with fail
       go_loopw [8] (fun i wr=>∃(K3:World) (j:Nat) (V:DV) (W:DefD),j≤n∧i= .int .i64 j∧Hid ((defs.take j).foldl (y4e d) d=W)∧Sat K3 K2∧V.ok K3 W∧Hp w0 wr K3 (.box g7 [.int .i64 W.kind,.bool W.ext,.bool W.note.has,.bool W.note.block,.string (str W.note.text),.string (str W.name),V.v6,V.v7,V.v8,V.v9,V.v10,V.v11,V.v12,.bool W.rep,V.v14,.int .i64 W.line,.int .i64 W.col] 43:: .box g6 [.int .i64 d.kind,.bool d.ext,.bool d.note.has,.bool d.note.block,.string (str d.note.text),.string (str d.name),.slice A6 d.ifaces.length c6,.slice A7 d.dirs.length c7,.slice A8 d.fields.length c8,.slice A9 d.inputs.length c9,.slice A10 d.members.length c10,.slice A11 d.values.length c11,.slice A12 d.roots.length c12,.bool d.rep,.slice A14 d.places.length c14,.int .i64 d.line,.int .i64 d.col] 43:: .row 52 10 V.v8 W.fields.length V.x8:: .row 133 7 V.v11 W.values.length V.x11:: .row 113 3 V.v6 W.ifaces.length V.x6:: .row 113 3 V.v10 W.members.length V.x10:: .row 113 3 V.v14 W.places.length V.x14:: .row 100 4 V.v12 W.roots.length V.x12:: .row 123 17 V.v9 W.inputs.length V.x9:: .row 181 4 V.v7 W.dirs.length V.x7:: .row 43 17 (.slice A' out.length c') out.length vs::M)) (fun i _=>n - (intOf i).toNat)
       case atStart=>exact ⟨K2,0,V,d,Qak _,rfl,rfl,Sat.refl _,hV,H.fin⟩
       case round=>
        clear H hV ho;obtain ⟨K3,j,V,W,hj,rfl,HW,hle3,hV,H⟩:=hrel;replace hd:=hd.sat hle3;by_cases hlt2:j<n
        ·obtain ⟨x,ad2,us,hx2,e2,hyl,hat2⟩:=el_k (m:=17) (f:=defL) y0u hd (by rw [HN.out];exact hlt2) (by decide);injection e2 with e2;subst e2;obtain ⟨hjI,hwj⟩:=wr_k hlt2 hn;have hxn:=y64 hx2;have htk2:=y0n hx2;obtain ⟨B6,b6,B7,b7,B8,b8,B9,b9,B10,b10,B11,b11,B12,b12,B14,b14,rfl,-,-,-,-,-,-,-,-⟩:=y0c hyl
         have hWn:defN W+defN x≤9000000:=by
          have h1:=q8n d (defs.take j) d;have h2:=z0t (f:=defN) defs j;have h3:=HXN.out;have h4:=HD.out;rw [HW.out] at h1;unfold y0e at*;omega
         have HS2:Hid ((defs.take (j+1)).foldl (y4e d) d=if x.ext=true∧x.kind=d.kind∧x.name=d.name then y0z W x else W):=by
          show _=_
          rw [htk2,List.foldl_append,HW.out];rfl
         clear hx2 hxn htk2;by_cases ce:x.ext=true
         ·by_cases ck:x.kind=d.kind
          ·have ek:(x.kind==d.kind)=true:=Qa7.2 ck;by_cases cn:x.name=d.name
           ·have en:((str x.name).toList==(str d.name).toList)=true:=by rw [Go.Proofs.YtbpgkkoeehopjaaGreat.gram.str_eq];exact Qa5 cn
            have HS2:=HS2.out;rw [if_pos ⟨ce,ck,cn⟩] at HS2;obtain ⟨W2,hW2⟩: ∃W2,y0z W x=W2:=⟨_,rfl⟩;rw [ce] at hyl;have ht:=fun {w} {M} (H:Hp w0 w K3 (DV.rows W V++M))=>z4v W x V #[_,_,_,_,_,_,_,_,_,_,_,_,_,_,_,_,_] H hV hWn hyl;simp only [hW2] at ht;rw [hW2] at HS2;replace HS2:=hide HS2;clear hW2 ck cn hWn hyl
            go_wp2_with (first|(refine oL H ?_)|(go_at_call 120;(refine (ht (M:=.box g9 _ _:: .box g7 _ _:: .box g6 _ _:: .row 43 17 _ _ _::M) H.fin).mono ?_);clear H;rintro e w ⟨K4,V2,he,hle4,H,hV2⟩;obtain rfl:e= .returned (.agg #[.int .i64 W2.kind,.bool W2.ext,.bool W2.note.has,.bool W2.note.block,.string (str W2.note.text),.string (str W2.name),V2.v6,V2.v7,V2.v8,V2.v9,V2.v10,V2.v11,V2.v12,.bool W2.rep,V2.v14,.int .i64 W2.line,.int .i64 W2.col]):=he;have ho:=hide (y87 H);replace H:Hp _ _ _ (.row 52 10 V2.v8 W2.fields.length V2.x8:: .row 133 7 V2.v11 W2.values.length V2.x11:: .row 113 3 V2.v6 W2.ifaces.length V2.x6:: .row 113 3 V2.v10 W2.members.length V2.x10:: .row 113 3 V2.v14 W2.places.length V2.x14:: .row 100 4 V2.v12 W2.roots.length V2.x12:: .row 123 17 V2.v9 W2.inputs.length V2.x9:: .row 181 4 V2.v7 W2.dirs.length V2.x7::_):=H)|(refine oA 9 H ?_;clear H;intro w g9 H)|(refine oP H ?_;clear H;intro w _ H))
            go_roundw
            case rel=>exact ⟨K4,j+1,V2,W2,by omega,by go_num,HS2,hle4.trans hle3,hV2,H.fin⟩
            case measure=>simp [intOf];omega
           ·have en:((str x.name).toList==(str d.name).toList)=false:=by rw [Go.Proofs.YtbpgkkoeehopjaaGreat.gram.str_eq];exact Qa4 cn
            have HS2:=HS2.out;rw [if_neg (fun h=>cn h.2.2)] at HS2;replace HS2:=hide HS2;clear hWn hyl
            go_wp2_with (first|(refine oL H ?_)|(refine oA 9 H ?_;clear H;intro w g9 H)|(refine oP H ?_;clear H;intro w _ H))
            go_roundw
            case rel=>exact ⟨K3,j+1,V,W,by omega,by go_num,HS2,hle3,hV,H.fin⟩
            case measure=>simp [intOf];omega
          ·have ek:(x.kind==d.kind)=false:=Qa3.2 ck;have HS2:=HS2.out;rw [if_neg (fun h=>ck h.2.1)] at HS2;replace HS2:=hide HS2;clear hWn hyl
           go_wp2_with (first|(refine oL H ?_)|(refine oA 9 H ?_;clear H;intro w g9 H)|(refine oP H ?_;clear H;intro w _ H))
           go_roundw
           case rel=>exact ⟨K3,j+1,V,W,by omega,by go_num,HS2,hle3,hV,H.fin⟩
           case measure=>simp [intOf];omega
         ·have HS2:=HS2.out;rw [if_neg (fun h=>ce h.1)] at HS2
          replace ce:x.ext=false:=by simpa using ce
          replace HS2:=hide HS2;clear hWn hyl
          go_wp2_with (first|(refine oL H ?_)|(refine oA 9 H ?_;clear H;intro w g9 H)|(refine oP H ?_;clear H;intro w _ H))
          go_roundw
          case rel=>exact ⟨K3,j+1,V,W,by omega,by go_num,HS2,hle3,hV,H.fin⟩
          case measure=>simp [intOf];omega
        ·obtain rfl:j=n:=by omega
         have hW:=HW.out;rw [Qaj (by rw [HN.out];exact Qab _)] at hW;have ho:=y87 (show Hp w0 _ K3 (DV.rows W V++(.row 43 17 _ _ _::M)) from H.tail.tail)
         go_wp2_with (first|(refine oL H ?_)|(refine oP H ?_;clear H;intro w _ H)|(refine oQ H ?_;clear H;intro A' c' w _ _ H;dsimp only [List.set] at H))
         replace H:Hp _ _ _ (DV.rows W V++(.row 43 17 _ _ _::M)):=H.fin;obtain ⟨K4,hle4,H,hdl⟩:=DV.freeze H hV;have hle5:=hle4.trans hle3;go_roundw
         case rel=>exact ⟨K4,k+1,_,_,_,out++[W],by omega,by go_num,by rw [Qae];rfl,by rw [←hW];exact HS,hle5.trans (hle2.trans hle),y25 (hvs.sat hle5) hdl,by rw [Qae];exact H⟩
         case measure=>simp [intOf];omega
  ·obtain rfl:k=n:=by omega
   have hO:=HO.out;rw [Qaj (by rw [HN.out];exact Qab _)] at hO;obtain rfl:out=R:=hO.symm.trans HR.out;clear hO
   go_wp2_with fail
   go_ret;exact ⟨K',_,_,vs,rfl,hle.trans hle1,hvs,H⟩
end
theorem z7v: ∀(l out:List DefD),(l.foldl y1t out).length≤out.length+l.length
 |[],out=>by simp
 |x::r,out=>by
  have h1:=z7v r (y1t out x)
  have h2:(y1t out x).length≤out.length+1:=by
   unfold y1t
   split<;>simp
  simp only [List.foldl_cons,List.length_cons];omega
section
variable {w0 w K : World} {M : List Ent}
theorem q0y (defs:List DefD) {n c:Nat} {A:Option Addr} (hl:defs.length=n) (hN:y0e defs≤2900000) (hd:RD K (.list n (y0q defs)) (.slice A n c)) (H:Hp w0 w K M):
  Calls Tryz.prog 70 #[.slice A n c] w fun e w'=>∃K' A' c' vs,e= .returned (.slice A' (y5v defs).length c')∧Sat K' K∧RL K' (y0q (y5v defs)) vs∧Hp w0 w' K' (.row 43 17 (.slice A' (y5v defs).length c') (y5v defs).length vs::M):=by
 have hn:n≤9000000:=by have:=y0o y2g defs;unfold y0e at hN;omega
 have HN:=hide hl;have HD:=hide hN;obtain ⟨R,hR⟩: ∃R,y5v defs=R:=⟨_,rfl⟩;rw [hR];have HR:=hide hR;clear hl hR hN;go_enter Tryz.func70,Tryz.ntmps70
 go_upto_region 3 with (refine (q45 H).mono ?_;clear H;rintro e w ⟨K1,Ag,cg,rfl,hle1,H,hg⟩)
 replace hd:=hd.sat hle1
 go_wp2_with fail
 replace H:=H.nilRow 43 17
 go_loopw [3,5] (fun v i wr=>∃(K':World) (k:Nat) (A':Option Addr) (c':Nat) (vs:List Value) (out:List DefD),k≤n∧i= .int .i64 k∧v= .slice A' out.length c'∧Hid ((defs.take k).foldl y1t []=out)∧Sat K' K1∧RL K' (y0q out) vs∧Hp w0 wr K' (.row 43 17 (.slice A' out.length c') out.length vs::M)) (fun _ i _=>n - (intOf i).toNat)
 case atStart=>exact ⟨K1,0,none,0,[],[],Qak _,rfl,rfl,rfl,Sat.refl _,RL.z,H⟩
 case round=>
  clear H;obtain ⟨K',k,A',c',vs,out,hk,rfl,rfl,HO,hle,hvs,H⟩:=hrel;replace hd:=hd.sat hle;replace hg:=hg.sat hle
  have hml:out.length≤k:=by have:=z7v (defs.take k) [];rw [HO.out] at this;simp only [List.length_nil,Qau] at this;omega
  have hmn:out.length≤9000000:=by omega
  by_cases hlt:k<n
  ·obtain ⟨d,ad,us,hx,rfl,hxl,hat⟩:=el_k (m:=17) (f:=defL) y0u hd (by rw [HN.out];exact hlt) (by decide);obtain ⟨hkI,hwr⟩:=wr_k hlt hn;have hdn:=y64 hx;have htk:=y0n hx;obtain ⟨A6,c6,A7,c7,A8,c8,A9,c9,A10,c10,A11,c11,A12,c12,A14,c14,rfl,-,-,-,-,-,-,-,-⟩:=y0c hxl
   have hd9:defN d≤9000000:=by have:=HD.out;omega
   have hat8:=hat;clear hx hdn hml;obtain ⟨p1,hp1⟩: ∃b,y2l out d.name=b:=⟨_,rfl⟩;obtain ⟨p2,hp2⟩: ∃b,y2l givenDirsD d.name=b:=⟨_,rfl⟩;by_cases h8:d.kind=8
   ·have e8:(d.kind==8)=true:=Qa7.2 h8;by_cases h1:d.name∈y0a out
    ·obtain ⟨i,hi⟩:=y8v h1;obtain rfl:p1=(i:Int):=hp1.symm.trans hi
     have hi0: ¬((i:Int)<0):=by omega
     clear hi h8
     have HS:Hid ((defs.take (k+1)).foldl y1t []=out):=by
      show _=_
      rw [htk,List.foldl_append,HO.out];simp only [List.foldl_cons,List.foldl_nil,y1t];rw [if_neg (fun h=>h.2.1 h1)]
     clear hat8
     go_wp2_with (first|(refine oL H ?_)|(refine oA 6 H ?_;clear H;intro w g6 H)|(refine oP H ?_;clear H;intro w _ H)|((with_reducible refine (y1o d.name rfl hmn (rowR H (i:=1) rfl hvs) hp1).mono ?_);rintro e w9 ⟨rfl,hw9⟩;subst w9)|((with_reducible refine (y1o (l:=givenDirsD) (n:=4) d.name rfl (by decide) (hg.sat H.sat) hp2).mono ?_);rintro e w9 ⟨rfl,hw9⟩;subst w9))
     go_roundw
     case rel=>exact ⟨K',k+1,A',c',vs,out,by omega,by go_num,rfl,HS,hle,hvs,H.fin⟩
     case measure=>simp [intOf];omega
    ·obtain rfl:p1= -1:=hp1.symm.trans (y8w h1);by_cases h2:d.name∈y0a givenDirsD
     ·obtain ⟨i,hi⟩:=y8v h2;obtain rfl:p2=(i:Int):=hp2.symm.trans hi
      have hi0: ¬((i:Int)<0):=by omega
      clear hi h8
      have HS:Hid ((defs.take (k+1)).foldl y1t []=out):=by
       show _=_
       rw [htk,List.foldl_append,HO.out];simp only [List.foldl_cons,List.foldl_nil,y1t];rw [if_neg (fun h=>h.2.2 h2)]
      clear hat8
      go_wp2_with (first|(refine oL H ?_)|(refine oA 6 H ?_;clear H;intro w g6 H)|(refine oP H ?_;clear H;intro w _ H)|((with_reducible refine (y1o d.name rfl hmn (rowR H (i:=1) rfl hvs) hp1).mono ?_);rintro e w9 ⟨rfl,hw9⟩;subst w9)|((with_reducible refine (y1o (l:=givenDirsD) (n:=4) d.name rfl (by decide) (hg.sat H.sat) hp2).mono ?_);rintro e w9 ⟨rfl,hw9⟩;subst w9))
      go_roundw
      case rel=>exact ⟨K',k+1,A',c',vs,out,by omega,by go_num,rfl,HS,hle,hvs,H.fin⟩
      case measure=>simp [intOf];omega
     ·obtain rfl:p2= -1:=hp2.symm.trans (y8w h2)
      have HS:Hid ((defs.take (k+1)).foldl y1t []=out++[d]):=by
       show _=_
       rw [htk,List.foldl_append,HO.out];simp only [List.foldl_cons,List.foldl_nil,y1t];rw [if_pos ⟨h8,h1,h2⟩]
      clear h1 h2 htk h8 hat8
      go_upto_region 8 with (first|(refine oL H ?_)|(refine oA 6 H ?_;clear H;intro w g6 H)|(refine oP H ?_;clear H;intro w _ H)|((with_reducible refine (y1o d.name rfl hmn (rowR H (i:=1) rfl hvs) hp1).mono ?_);rintro e w9 ⟨rfl,hw9⟩;subst w9)|((with_reducible refine (y1o (l:=givenDirsD) (n:=4) d.name rfl (by decide) (hg.sat H.sat) hp2).mono ?_);rintro e w9 ⟨rfl,hw9⟩;subst w9))
      clear hp1 hp2 hg e8
      go_upto_region 9 with (first|(refine oL H ?_)|(go_at_call 86;refine (z6g d _ H hd9 hxl).mono ?_;clear H;rintro e w ⟨K2,cs,rfl,hle2,H,hdl⟩;have ho:=hide hdl.one;obtain ⟨B6,b6,B7,b7,B8,b8,B9,b9,B10,b10,B11,b11,B12,b12,B14,b14,hcs,-⟩:=y0c hdl;obtain rfl:cs= #[_,_,_,_,_,_,_,_,_,_,_,_,_,_,_,_,_]:=Qal.1 hcs;clear hcs)|(refine oA 7 H ?_;clear H;intro w g7 H)|(refine oP H ?_;clear H;intro w _ H))
      replace hvs:=hvs.sat hle2
      go_wp2_with (first|(refine oL H ?_)|(refine oP H ?_;clear H;intro w _ H)|(refine oQ H ?_;clear H;intro A' c' w _ _ H;dsimp only [List.set] at H))
      go_roundw
      case rel=>exact ⟨K2,k+1,_,_,_,out++[d],by omega,by go_num,by rw [Qae];rfl,HS,hle2.trans hle,y25 hvs hdl,by rw [Qae];exact H.fin⟩
      case measure=>simp [intOf];omega
   ·have e8:(d.kind==8)=false:=Qa3.2 h8
    have HS:Hid ((defs.take (k+1)).foldl y1t []=out):=by
     show _=_
     rw [htk,List.foldl_append,HO.out];simp only [List.foldl_cons,List.foldl_nil,y1t];rw [if_neg (fun h=>h8 h.1)]
    clear hat8
    go_wp2_with (first|(refine oL H ?_)|(refine oA 6 H ?_;clear H;intro w g6 H)|(refine oP H ?_;clear H;intro w _ H)|((with_reducible refine (y1o d.name rfl hmn (rowR H (i:=1) rfl hvs) hp1).mono ?_);rintro e w9 ⟨rfl,hw9⟩;subst w9)|((with_reducible refine (y1o (l:=givenDirsD) (n:=4) d.name rfl (by decide) (hg.sat H.sat) hp2).mono ?_);rintro e w9 ⟨rfl,hw9⟩;subst w9))
    go_roundw
    case rel=>exact ⟨K',k+1,A',c',vs,out,by omega,by go_num,rfl,HS,hle,hvs,H.fin⟩
    case measure=>simp [intOf];omega
  ·obtain rfl:k=n:=by omega
   have hO:=HO.out;rw [Qaj (by rw [HN.out];exact Qab _)] at hO;obtain rfl:out=R:=hO.symm.trans HR.out;clear hO
   go_wp2_with fail
   go_ret;exact ⟨K',_,_,vs,rfl,hle.trans hle1,hvs,H⟩
end
theorem q8o: ∀(l:List DefD) (a:DefD),defN (l.foldl y74 a)≤defN a+y0e l
 |[],a=>by simp [y0e,sumN]
 |x::r,a=>by
  have h1:=q8o r (y74 a x)
  have h2:defN (y74 a x)≤defN a+defN x:=by
   unfold y74;split
   ·exact z7l a x
   ·omega
  simp only [List.foldl_cons,y0e,sumN] at h1 ⊢;omega
def y52 (own:List DefD) (k:Nat):List RootD:=((rootN.zipIdx.take k).filter fun p=>y0l own p.1==3).map fun p=>⟨1+(p.2:Int),p.1,0,0⟩
theorem q0z {l:List DefD} {x:Txt} {i:Nat} {d:DefD} (h:y1k l x=some i) (hd:l[i]?=some d):y0l l x=d.kind:=by unfold y0l;rw [h];simp [hd]
theorem x2g {l:List DefD} {x:Txt} (h:y1k l x=none):y0l l x=0:=by unfold y0l;rw [h];rfl
theorem q00 {own:List DefD} {k:Nat} {x:Txt} (hx:rootN[k]?=some x) (h:y0l own x=3):y52 own (k+1)=y52 own k++[⟨1+(k:Int),x,0,0⟩]:=by
 have e:rootN.zipIdx[k]?=some (x,k):=by rw [List.getElem?_zipIdx,hx];simp
 unfold y52;rw [y0n e,List.filter_append,Qas];simp [h]
theorem x36 {own:List DefD} {k:Nat} {x:Txt} (hx:rootN[k]?=some x) (h:y0l own x≠3):y52 own (k+1)=y52 own k:=by
 have e:rootN.zipIdx[k]?=some (x,k):=by rw [List.getElem?_zipIdx,hx];simp
 unfold y52;rw [y0n e,List.filter_append,Qas];simp [h]
theorem q4b (own:List DefD) (k:Nat):(y52 own k).length≤k:=by
 unfold y52;rw [Qay];exact Qah (Qb4 _ _) (by rw [Qau];exact Nat.min_le_left _ _)
instance sc30:Sc Tryz.prog 30:=⟨⟨_,Tryz.underlying30,rfl⟩⟩
section
variable {w0 w K : World} {M : List Ent}
theorem x6x (defs own:List DefD) {n c no co:Nat} {A Ao:Option Addr} {vo:List Value} (hl:defs.length=n) (hN:y0e defs≤2900000) (hd:RD K (.list n (y0q defs)) (.slice A n c)) (hlo:own.length=no) (hno:no≤9000000) (hO:RL K (y0q own) vo) (H:Hp w0 w K (.row 43 17 (.slice Ao no co) no vo::M)):
  Calls Tryz.prog 71 #[.slice A n c,.slice Ao no co] w fun e w'=>∃K' cs,e= .returned (.agg cs)∧Sat K' K∧RL K' (defL (y5l defs own)) cs.toList∧Hp w0 w' K' (.row 43 17 (.slice Ao no co) no vo::M):=by
 have hn:n≤9000000:=by have:=y0o y2g defs;unfold y0e at hN;omega
 have HN:=hide hl;have HD:=hide hN;have HLO:=hide hlo;obtain ⟨R,hR⟩: ∃R,y5l defs own=R:=⟨_,rfl⟩;rw [hR];have HR:=hide hR;clear hl hR hN hlo;go_enter Tryz.func71,Tryz.ntmps71
 go_upto_region 1 with (refine oA 4 H ?_;clear H;intro w g4 H)
 go_wp2_with fail
 go_loopw [5] (fun i wr=>∃k:Nat,k≤n∧i= .int .i64 k∧Hid ((defs.take k).find? y1h=none)∧Hp w0 wr K (.box g4 [.int .i64 0,.bool false,.bool false,.bool false,.string ⟨#[]⟩,.string ⟨#[]⟩,.slice none 0 0,.slice none 0 0,.slice none 0 0,.slice none 0 0,.slice none 0 0,.slice none 0 0,.slice none 0 0,.bool false,.slice none 0 0,.int .i64 0,.int .i64 0] 43:: .row 43 17 (.slice Ao no co) no vo::M)) (fun i _=>n - (intOf i).toNat)
 case atStart=>exact ⟨0,Qak _,rfl,rfl,H⟩
 case round=>
  clear H;obtain ⟨k,hk,rfl,HF,H⟩:=hrel;by_cases hlt:k<n
  ·obtain ⟨d,ad,us,hx,rfl,hxl,hat⟩:=el_k (m:=17) (f:=defL) y0u hd (by rw [HN.out];exact hlt) (by decide);obtain ⟨hkI,hwr⟩:=wr_k hlt hn;have hdn:=y64 hx;have htk:=y0n hx;obtain ⟨A6,c6,A7,c7,A8,c8,A9,c9,A10,c10,A11,c11,A12,c12,A14,c14,rfl,-,-,-,-,-,-,-,-⟩:=y0c hxl;have hat2:At K ⟨(ad.add (k*17)).block,(ad.add (k*17)).off+1,none⟩ [.bool d.ext]:=z99 (us:=[_]) (vs:=[_]) (ws:=_) (k:=0) hat rfl;have HXN:=hide (show defN d≤2900000 from Qah hdn HD.out);clear hdn;by_cases h1:d.kind=1
   ·have e1:(d.kind !=1)=false:=by simp [h1]
    by_cases hext:d.ext=true
    ·clear h1
     have HS:Hid ((defs.take (k+1)).find? y1h=none):=by
      show _=_
      rw [htk,Qby,HF.out]
      have:y1h d=false:=by unfold y1h;rw [hext];simp
      simp [this]
     clear htk
     go_wp2_with (first|(refine oL H ?_)|(refine oP H ?_;clear H;intro w _ H))
     go_roundw
     case rel=>exact ⟨k+1,by omega,by go_num,HS,H⟩
     case measure=>simp [intOf];omega
    ·replace hext:d.ext=false:=by simpa using hext
     have hsd:y1h d=true:=by unfold y1h;rw [hext,h1];rfl
     have HR2:Hid (defs.foldl y74 d=R):=by
      have hf:defs.find? y1h=some d:=by
       rw [←List.take_append_drop (k+1) defs,Qby,htk,Qby,HF.out];simp [hsd]
      have:=HR.out;unfold y5l at this;rw [hf] at this;exact this
     clear h1 hsd htk HF HR hx
     go_upto_region 5 with (refine oL H ?_)
     clear hext hat2
     have hd9:defN d≤9000000:=by have:=HXN.out;omega
     go_upto_region 6 with (first|(refine oL H ?_)|(go_at_call 86;refine (y75 d _ H hd9 hxl).mono ?_;clear H;rintro e w ⟨K2,V,he,hle2,H,hV⟩;obtain rfl:e= .returned (.agg #[.int .i64 d.kind,.bool d.ext,.bool d.note.has,.bool d.note.block,.string (str d.note.text),.string (str d.name),V.v6,V.v7,V.v8,V.v9,V.v10,V.v11,V.v12,.bool d.rep,V.v14,.int .i64 d.line,.int .i64 d.col]):=he;have ho:=hide (y87 H);replace H:Hp _ _ _ (.row 52 10 V.v8 d.fields.length V.x8:: .row 133 7 V.v11 d.values.length V.x11:: .row 113 3 V.v6 d.ifaces.length V.x6:: .row 113 3 V.v10 d.members.length V.x10:: .row 113 3 V.v14 d.places.length V.x14:: .row 100 4 V.v12 d.roots.length V.x12:: .row 123 17 V.v9 d.inputs.length V.x9:: .row 181 4 V.v7 d.dirs.length V.x7::_):=H)|(refine oA 6 H ?_;clear H;intro w g6 H)|(refine oP H ?_;clear H;intro w _ H))
     clear hat hxl hd9;replace hd:=hd.sat hle2;replace hO:=hO.sat hle2
     go_wp2_with fail
     go_loopw [7] (fun i wr=>∃(K3:World) (j:Nat) (V:DV) (W:DefD),j≤n∧i= .int .i64 j∧Hid ((defs.take j).foldl y74 d=W)∧Sat K3 K2∧V.ok K3 W∧Hp w0 wr K3 (.box g6 [.int .i64 W.kind,.bool W.ext,.bool W.note.has,.bool W.note.block,.string (str W.note.text),.string (str W.name),V.v6,V.v7,V.v8,V.v9,V.v10,V.v11,V.v12,.bool W.rep,V.v14,.int .i64 W.line,.int .i64 W.col] 43:: .box g4 [.int .i64 0,.bool false,.bool false,.bool false,.string ⟨#[]⟩,.string ⟨#[]⟩,.slice none 0 0,.slice none 0 0,.slice none 0 0,.slice none 0 0,.slice none 0 0,.slice none 0 0,.slice none 0 0,.bool false,.slice none 0 0,.int .i64 0,.int .i64 0] 43:: .row 52 10 V.v8 W.fields.length V.x8:: .row 133 7 V.v11 W.values.length V.x11:: .row 113 3 V.v6 W.ifaces.length V.x6:: .row 113 3 V.v10 W.members.length V.x10:: .row 113 3 V.v14 W.places.length V.x14:: .row 100 4 V.v12 W.roots.length V.x12:: .row 123 17 V.v9 W.inputs.length V.x9:: .row 181 4 V.v7 W.dirs.length V.x7:: .row 43 17 (.slice Ao no co) no vo::M)) (fun i _=>n - (intOf i).toNat)
     case atStart=>exact ⟨K2,0,V,d,Qak _,rfl,rfl,Sat.refl _,hV,H.fin⟩
     case round=>
      clear H hV ho;obtain ⟨K3,j,V,W,hj,rfl,HW,hle3,hV,H⟩:=hrel;replace hd:=hd.sat hle3;by_cases hlt2:j<n
      ·obtain ⟨x,ad2,us,hx2,e2,hyl,hat2⟩:=el_k (m:=17) (f:=defL) y0u hd (by rw [HN.out];exact hlt2) (by decide);injection e2 with e2;subst e2;obtain ⟨hjI,hwj⟩:=wr_k hlt2 hn;have hxn:=y64 hx2;have htk2:=y0n hx2;obtain ⟨B6,b6,B7,b7,B8,b8,B9,b9,B10,b10,B11,b11,B12,b12,B14,b14,rfl,-,-,-,-,-,-,-,-⟩:=y0c hyl;have hat3:At K3 ⟨(ad.add (j*17)).block,(ad.add (j*17)).off+1,none⟩ [.bool x.ext]:=z99 (us:=[_]) (vs:=[_]) (ws:=_) (k:=0) hat2 rfl
       have hWn:defN W+defN x≤9000000:=by
        have h1:=q8o (defs.take j) d;have h2:=z0t (f:=defN) defs j;have h3:=HXN.out;have h4:=HD.out;rw [HW.out] at h1;unfold y0e at*;omega
       have HS2:Hid ((defs.take (j+1)).foldl y74 d=if x.kind=1∧x.ext=true then y0z W x else W):=by
        show _=_
        rw [htk2,List.foldl_append,HW.out];rfl
       clear hx2 hxn htk2;by_cases ck:x.kind=1
       ·have ek:(x.kind==1)=true:=Qa7.2 ck;by_cases ce:x.ext=true
        ·have HS2:=HS2.out;rw [if_pos ⟨ck,ce⟩] at HS2;obtain ⟨W2,hW2⟩: ∃W2,y0z W x=W2:=⟨_,rfl⟩;have ht:=fun (w:World) (M:List Ent) (H:Hp w0 w K3 (DV.rows W V++M))=>z4v W x V #[_,_,_,_,_,_,_,_,_,_,_,_,_,_,_,_,_] H hV hWn hyl;simp only [hW2] at ht;rw [hW2] at HS2;replace HS2:=hide HS2;have HT:=hide ht;clear hW2 ck hWn hyl ht
         go_upto_region 10 with (refine oL H ?_)
         clear ce ek hat3;refine rN [.box g6 _ _] [6] H ?_;clear H;intro w H;refine rT 0 H ?_;refine rT 1 H ?_;refine rT 2 H ?_;refine rT 3 H ?_;refine rT 4 H ?_;refine rC 5 (HT.out _ (.box g6 _ _:: .box g4 _ _:: .row 43 17 (.slice Ao no co) no vo::M) H.fin) ?_;clear H;rintro e w ⟨K4,V2,he,hle4,H,hV2⟩;obtain rfl:e= .returned (.agg #[.int .i64 W2.kind,.bool W2.ext,.bool W2.note.has,.bool W2.note.block,.string (str W2.note.text),.string (str W2.name),V2.v6,V2.v7,V2.v8,V2.v9,V2.v10,V2.v11,V2.v12,.bool W2.rep,V2.v14,.int .i64 W2.line,.int .i64 W2.col]):=he;have ho:=y87 H;replace H:Hp _ _ _ (.row 52 10 V2.v8 W2.fields.length V2.x8:: .row 133 7 V2.v11 W2.values.length V2.x11:: .row 113 3 V2.v6 W2.ifaces.length V2.x6:: .row 113 3 V2.v10 W2.members.length V2.x10:: .row 113 3 V2.v14 W2.places.length V2.x14:: .row 100 4 V2.v12 W2.roots.length V2.x12:: .row 123 17 V2.v9 W2.inputs.length V2.x9:: .row 181 4 V2.v7 W2.dirs.length V2.x7::_):=H;refine rX H ?_;refine rL 6 H ?_;clear H;intro w _ H;refine rE ?_
         go_wp2_with (first|(refine oL H ?_)|(refine oP H ?_;clear H;intro w _ H))
         go_roundw
         case rel=>exact ⟨K4,j+1,V2,W2,by omega,by go_num,HS2,hle4.trans hle3,hV2,H.fin⟩
         case measure=>simp [intOf];omega
        ·have HS2:=HS2.out;rw [if_neg (fun h=>ce h.2)] at HS2
         replace ce:x.ext=false:=by simpa using ce
         clear ck;replace HS2:=hide HS2;clear hWn hyl
         go_wp2_with (first|(refine oL H ?_)|(refine oP H ?_;clear H;intro w _ H))
         go_roundw
         case rel=>exact ⟨K3,j+1,V,W,by omega,by go_num,HS2,hle3,hV,H⟩
         case measure=>simp [intOf];omega
       ·have ek:(x.kind==1)=false:=Qa3.2 ck;have HS2:=HS2.out;rw [if_neg (fun h=>ck h.1)] at HS2;replace HS2:=hide HS2;clear hWn hyl
        go_wp2_with (first|(refine oL H ?_)|(refine oP H ?_;clear H;intro w _ H))
        go_roundw
        case rel=>exact ⟨K3,j+1,V,W,by omega,by go_num,HS2,hle3,hV,H⟩
        case measure=>simp [intOf];omega
      ·obtain rfl:j=n:=by omega
       have hW:=HW.out;rw [Qaj (by rw [HN.out];exact Qab _)] at hW;obtain rfl:W=R:=hW.symm.trans HR2.out;have ho:=hide (y87 (show Hp w0 _ K3 (DV.rows W V++(.row 43 17 (.slice Ao no co) no vo::M)) from H.tail.tail))
       go_wp2_with (first|(refine oL H ?_)|(refine oP H ?_;clear H;intro w _ H))
       refine oB H ?_;replace H:Hp _ _ _ (DV.rows W V++(.row 43 17 (.slice Ao no co) no vo::M)):=H.fin;obtain ⟨K4,hle4,H,hdl⟩:=DV.freeze H hV;exact ⟨K4,_,rfl,(hle4.trans hle3).trans hle2,hdl,H⟩
   ·have e1:(d.kind !=1)=true:=by rw [Qa8];exact h1
    have HS:Hid ((defs.take (k+1)).find? y1h=none):=by
     show _=_
     rw [htk,Qby,HF.out]
     have:y1h d=false:=by unfold y1h;simp [h1]
     simp [this]
    clear htk
    go_wp2_with (first|(refine oL H ?_)|(refine oP H ?_;clear H;intro w _ H))
    go_roundw
    case rel=>exact ⟨k+1,by omega,by go_num,HS,H⟩
    case measure=>simp [intOf];omega
  ·obtain rfl:k=n:=by omega
   have hF:=HF.out;rw [Qaj (by rw [HN.out];exact Qab _)] at hF;have hR:=HR.out;unfold y5l at hR;rw [hF] at hR;have HR2:Hid ({y3k with roots:=y52 own 3}=R):=hR;clear hF hR HR
   go_upto_region 13 with (first|(refine oA 8 H ?_;clear H;intro w g8 H)|(refine oP H ?_;clear H;intro w _ H))
   go_upto_region 14 with (refine oA 64 H ?_ (hd:=dbS (cs:=rootN.map fun x=>.string (str x)) (hcs:=by kernel_rfl));clear H;intro w g9 H)
   obtain ⟨K5,hle5,H,hs9⟩:=H.freezeBox (n:=3) (ls:=y03 rootN) (z2h rootN) (by simp [maxLen])
   go_upto_region 15 with (refine oA 65 H ?_ (hd:=dbS (cs:=[.int .i64 1,.int .i64 2,.int .i64 3]) (hcs:=by kernel_rfl));clear H;intro w g10 H)
   obtain ⟨K6,hle6,H,hs10⟩:=H.freezeBox (n:=3) (ls:=[(1:Int),2,3].flatMap fun i=>[int' i]) (.lit (.lit (.lit RL.z))) (by simp [maxLen]);replace hs9:=hs9.sat hle6;replace hO:=hO.sat (hle6.trans hle5);clear hd;obtain ⟨A9,hA9⟩: ∃A:Option Addr,some ⟨g9,0,none⟩=A:=⟨_,rfl⟩;obtain ⟨A10,hA10⟩: ∃A:Option Addr,some ⟨g10,0,none⟩=A:=⟨_,rfl⟩;rw [hA9] at hs9 ⊢;rw [hA10] at hs10 ⊢;clear hA9 hA10
   go_wp2_with fail
   replace H:=H.nilRow 100 4
   go_loopw [11] (fun i wr=>∃(k:Nat) (A':Option Addr) (c':Nat) (vs:List Value) (rs:List RootD),k≤3∧i= .int .i64 k∧Hid (y52 own k=rs)∧RL K6 (y2k rs) vs∧Hp w0 wr K6 (.row 100 4 (.slice A' rs.length c') rs.length vs:: .box g8 [.int .i64 1,.bool false,.bool false,.bool false,.string ⟨#[]⟩,.string ⟨#[]⟩,.slice none 0 0,.slice none 0 0,.slice none 0 0,.slice none 0 0,.slice none 0 0,.slice none 0 0,.slice A' rs.length c',.bool false,.slice none 0 0,.int .i64 0,.int .i64 0] 43:: .box g4 [.int .i64 0,.bool false,.bool false,.bool false,.string ⟨#[]⟩,.string ⟨#[]⟩,.slice none 0 0,.slice none 0 0,.slice none 0 0,.slice none 0 0,.slice none 0 0,.slice none 0 0,.slice none 0 0,.bool false,.slice none 0 0,.int .i64 0,.int .i64 0] 43:: .row 43 17 (.slice Ao no co) no vo::M)) (fun i _=>3 - (intOf i).toNat)
   case atStart=>exact ⟨0,none,0,[],[],Qak _,rfl,rfl,RL.z,H⟩
   case round=>
    clear H;obtain ⟨j,A',c',vs,rs,hj,rfl,HRS,hvs,H⟩:=hrel
    have hrl:rs.length≤3:=by have:=q4b own j;rw [HRS.out] at this;omega
    by_cases hlt:j<3
    ·obtain ⟨ad9,x,e9,hx,hat9⟩:=y7a hs9 (k:=j) (by rw [show rootN.length=3 from rfl];exact hlt);subst e9;obtain ⟨v,ad10,us,hv,e10,hvl,hat10⟩:=el_k (m:=1) (f:=fun i:Int=>[int' i]) (fun _=>rfl) hs10 hlt (by decide);subst e10
     have hv2:v=1+(j:Int):=by
      rcases (show j=0∨j=1∨j=2 by omega) with rfl|rfl|rfl<;>simp at hv<;>omega
     subst hv2;obtain ⟨r0,rfl,h0⟩:=hvl.lit_inv;obtain rfl:=h0.nil_inv;rw [Nat.mul_one] at hat10
     have hjI:(j:Int)<3:=by omega
     have hjJ:(j:Int)<((3:Nat):Int):=by omega
     have hwj:IntKind.i64.wrap ((j:Int)+1)=j+1:=IntWalk.i64_in _ (by omega);have hro:=rowR H (i:=3) rfl hO;clear h0 hv hvl
     cases hq:y1k own x with
     |none=>
      have hp:y2l own x= -1:=by unfold y2l;rw [hq]
      have HS:=hide ((x36 hx (by rw [x2g hq];decide)).trans HRS.out);clear hq hx
      go_wp2_with (first|(refine oL H ?_)|((with_reducible refine (y1o x HLO.out hno hro hp).mono ?_);rintro e w9 ⟨rfl,hw9⟩;subst w9))
      go_roundw
      case rel=>exact ⟨j+1,_,_,_,rs,by omega,by go_num,HS,hvs,H⟩
      case measure=>simp [intOf];omega
     |some i=>
      have hp:y2l own x=(i:Int):=by unfold y2l;rw [hq]
      obtain ⟨e,he,hne⟩:=y1p hq;have hio:i<own.length:=(Qac.1 he).1
      have hin:i<no:=by rw [←HLO.out];exact hio
      obtain ⟨e2,ado,us,he2,eA,hel,hato⟩:=el_k (m:=17) (f:=defL) y0u hro hio (by decide)
      obtain rfl:e2=e:=by rw [he] at he2;injection he2 with he2;exact he2.symm
      obtain ⟨A6,c6,A7,c7,A8,c8,A9,c9,A10,c10,A11,c11,A12,c12,A14,c14,rfl,-,-,-,-,-,-,-,-⟩:=y0c hel;subst eA
      have hi0:(0:Int)≤(i:Int):=by omega
      have hiI:(i:Int)<(no:Int):=by omega
      have hkk:=q0z hq he;by_cases h3:e2.kind=3
      ·have e3:(e2.kind==3)=true:=Qa7.2 h3;have HS:=hide ((q00 hx (hkk.trans h3)).trans (congrArg (· ++_) HRS.out));clear hq hx hkk h3 he he2 hel
       go_upto_region 20 with (first|(refine oL H ?_)|(refine oL (Hp.start _) ?_)|((with_reducible refine (y1o x HLO.out hno hro hp).mono ?_);rintro e w9 ⟨rfl,hw9⟩;subst w9))
       refine rN [.box g8 _ _] [14] H ?_;clear H;intro w H;refine rT 0 H ?_;refine rT 1 H ?_;refine rT 2 H ?_;refine rT 3 H ?_;refine rT 4 H ?_;refine rT 5 H ?_;refine rT 6 H ?_;refine rT 7 H ?_;refine rT 8 H ?_;refine rT 9 H ?_;refine rT 10 H ?_;refine rW 11 H ?_;clear H;intro w g11 H;refine rA 12 H ?_;clear H;intro A2 c2 w _ _ H;dsimp only [List.set] at H;refine rT 13 H ?_;refine rL 14 H ?_;clear H;intro w _ H;refine rE ?_
       go_wp2_with (first|(refine oL H ?_)|(refine oP H ?_;clear H;intro w _ H))
       go_roundw
       case rel=>exact ⟨j+1,A2,c2,_,rs++[⟨1+(j:Int),x,0,0⟩],by omega,by go_num,HS,by rw [y3i];exact hvs.app (y7c (f:=z0b) (z0d (Qab _))),by rw [Qae];exact H.fin⟩
       case measure=>simp [intOf];omega
      ·have e3:(e2.kind==3)=false:=Qa3.2 h3;have HS:=hide ((x36 hx (by rw [hkk];exact h3)).trans HRS.out);clear hq hx hkk h3 he he2 hel
       go_wp2_with (first|(refine oL H ?_)|(refine oL (Hp.start _) ?_)|((with_reducible refine (y1o x HLO.out hno hro hp).mono ?_);rintro e w9 ⟨rfl,hw9⟩;subst w9))
       go_roundw
       case rel=>exact ⟨j+1,_,_,_,rs,by omega,by go_num,HS,hvs,H⟩
       case measure=>simp [intOf];omega
    ·obtain rfl:j=3:=by omega
     have hR3:=HR2.out;rw [HRS.out] at hR3
     go_wp2_with (first|(refine oL H ?_)|(refine oP H ?_;clear H;intro w _ H))
     refine oB H ?_;replace H:Hp _ _ _ (.row 100 4 _ _ _:: .row 43 17 (.slice Ao no co) no vo::M):=H.fin;obtain ⟨K7,hle7,H,hr⟩:=H.freezeRow hvs;exact ⟨K7,_,rfl,hle7.trans (hle6.trans hle5),by rw [←hR3];exact y01 RD.z RD.z RD.z RD.z RD.z RD.z hr RD.z,H⟩
end
def RfK (K:World) (g:Nat) (s:DefD) (ts ds:List DefD):Prop:=
 ∃(o:Value) (AT AD:Option Addr) (cT cD:Nat) (sch:List Value),Kb K g (o:: .slice AT ts.length cT:: .slice AD ds.length cD::sch) 107∧
  RL K (defL s) sch∧RD K (.list ts.length (y0q ts)) (.slice AT ts.length cT)∧RD K (.list ds.length (y0q ds)) (.slice AD ds.length cD)
theorem RfK.sat {K K':World} {g:Nat} {s:DefD} {ts ds:List DefD} (h:RfK K g s ts ds) (hs:Sat K' K):RfK K' g s ts ds:=by
 obtain ⟨o,AT,AD,cT,cD,sch,h1,h2,h3,h4⟩:=h;exact ⟨o,AT,AD,cT,cD,sch,h1.sat hs,h2.sat hs,h3.sat hs,h4.sat hs⟩
theorem x0e (l:List DefD):(y0q l).length=l.length*17:=y78 defL (fun _=>rfl) l
section
variable {w0 w K : World} {M : List Ent}
theorem x6y (defs:List DefD) {n c:Nat} {A:Option Addr} (hl:defs.length=n) (hN:y0e defs≤2900000) (hd:RD K (.list n (y0q defs)) (.slice A n c)) (H:Hp w0 w K M):
  Calls Tryz.prog 28 #[.slice A n c] w fun e w'=>∃K' g,e= .returned (.pointer (some ⟨g,0,none⟩))∧Sat K' K∧Hp w0 w' K' M∧RfK K' g (y5l defs (y3y defs)) (y3y defs++givenT) (y5v defs++givenDirsD):=by
 have hn:n≤2900000:=by have:=y0o y2g defs;unfold y0e at hN;omega
 have h1:=x2f defs defs [];have h2:=z7v defs [];have hrt:=fun {w K M} (H:Hp w0 w K M) (hd:RD K (.list n (y0q defs)) (.slice A n c))=>q0x defs hl hN hd H;have hrm:=fun {w K M} (H:Hp w0 w K M) (hd:RD K (.list n (y0q defs)) (.slice A n c))=>q0y defs hl hN hd H;have hrs:=fun {w K M} (own:List DefD) {no co:Nat} {Ao:Option Addr} {vo:List Value} (hlo:own.length=no) (hno:no≤9000000) (hO:RL K (y0q own) vo) (H:Hp w0 w K (.row 43 17 (.slice Ao no co) no vo::M)) (hd:RD K (.list n (y0q defs)) (.slice A n c))=>x6x defs own hl hN hd hlo hno hO H;obtain ⟨T,hT⟩: ∃T,y3y defs=T:=⟨_,rfl⟩;obtain ⟨D,hD⟩: ∃T,y5v defs=T:=⟨_,rfl⟩;simp only [hT] at hrt ⊢;simp only [hD] at hrm ⊢;rw [show defs.foldl (y2i defs) []=T from hT,List.length_nil,hl] at h1;rw [show defs.foldl y1t []=D from hD,List.length_nil,hl] at h2
 have hT9:T.length≤2900000:=by omega
 have hD9:D.length≤2900000:=by omega
 clear hT hD hl hN h1 h2 hn;have hK:=Sat.refl K;go_enter Tryz.func28,Tryz.ntmps28
 go_upto_region 2 with (first|(go_at_call 69;refine (hrt H hd).mono ?_;clear H hrt;rintro e w ⟨K1,A1,c1,v1,rfl,hle1,hv1,H⟩;replace hd:=hd.sat hle1;replace hK:=hle1.trans hK;clear hle1)|(go_at_call 70;refine (hrm H hd).mono ?_;clear H hrm;rintro e w ⟨K2,A2,c2,v2,rfl,hle2,hv2,H⟩;replace hd:=hd.sat hle2;replace hv1:=hv1.sat hle2;replace hK:=hle2.trans hK;clear hle2)|(refine oA 9 H ?_;clear H;intro w g9 H))
 go_upto_region 3 with (first|(refine oL H ?_)|(refine oP H ?_;clear H;intro w _ H))
 go_upto_region 4 with (first|(refine oL H ?_)|(go_at_call 71;refine (hrs (M:=.box g9 _ _:: .row 43 17 (.slice A2 _ _) _ _::M) T rfl (by omega) hv1 H.fin hd).mono ?_;clear H hrs;rintro e w ⟨K3,cs,rfl,hle3,hsc,H⟩;replace hK:=hle3.trans hK;replace hv1:=hv1.sat hle3;replace hv2:=hv2.sat hle3;clear hle3;obtain ⟨B6,b6,B7,b7,B8,b8,B9,b9,B10,b10,B11,b11,B12,b12,B14,b14,hcs,-⟩:=y0c hsc;obtain rfl:cs= #[_,_,_,_,_,_,_,_,_,_,_,_,_,_,_,_,_]:=Qal.1 hcs;clear hcs)|(refine oP H ?_;clear H;intro w _ H))
 clear hd;replace H:Hp _ _ _ (.box g9 _ _:: .row 43 17 (.slice A1 _ _) _ _:: .row 43 17 (.slice A2 _ _) _ _::M):=H.fin;refine rN [.box g9 _ _] [9] H ?_;clear H;intro w H;refine rT 0 H ?_;refine rT 1 H ?_;refine rT 2 H ?_;refine rT 3 H ?_;refine rT 4 H ?_;refine rC 5 (q44 H) ?_;clear H;rintro e w ⟨K4,A4,c4,rfl,hle4,H,hg⟩;refine rX H ?_;refine rR 6 H ?_ (hlen:=x0e givenT) (hb:=by rw [show givenT.length=13 from rfl];omega);clear H;intro z1 A1 c1 w hz1 _ _ H;dsimp only [List.set] at H;refine rT 7 H ?_;refine rT 8 H ?_;refine rL 9 H ?_;clear H;intro w _ H;refine rE ?_;replace hK:=hle4.trans hK;replace hv1:=(hv1.sat hle4).app hz1;replace hv2:=hv2.sat hle4;replace hsc:=hsc.sat hle4;clear hle4 hz1 hg
 go_wp2_with fail
 refine rN [.box g9 _ _] [9] H ?_;clear H;intro w H;refine rT 0 H ?_;refine rT 1 H ?_;refine rT 2 H ?_;refine rT 3 H ?_;refine rT 4 H ?_;refine rC 5 (q45 H) ?_;clear H;rintro e w ⟨K5,A5,c5,rfl,hle5,H,hg⟩;refine rX H ?_;refine rR 6 H ?_ (hlen:=x0e givenDirsD) (hb:=by rw [show givenDirsD.length=4 from rfl];omega);clear H;intro z2 A2 c2 w hz2 _ _ H;dsimp only [List.set] at H;refine rT 7 H ?_;refine rT 8 H ?_;refine rL 9 H ?_;clear H;intro w _ H;refine rE ?_;replace hK:=hle5.trans hK;replace hv1:=hv1.sat hle5;replace hv2:=(hv2.sat hle5).app hz2;replace hsc:=hsc.sat hle5;clear hle5 hz2 hg
 go_wp2_with fail
 go_ret;rw [←z3i] at hv1 hv2;replace H:Hp _ _ _ (.box g9 _ _:: .row 43 17 (.slice A1 _ _) _ _:: .row 43 17 (.slice A2 _ _) _ _::M):=H.fin;obtain ⟨K6,e6,H,hb⟩:=H.freezeKb;obtain ⟨K7,e7,H,h1⟩:=H.freezeRow (hv1.sat e6);obtain ⟨K8,e8,H,h2⟩:=H.freezeRow (hv2.sat (e7.trans e6));have e86:=e8.trans e7;rw [show T.length+givenT.length=(T++givenT).length from (Qae ..).symm] at h1 hb;rw [show D.length+givenDirsD.length=(D++givenDirsD).length from (Qae ..).symm] at h2 hb;exact ⟨K8,g9,rfl,(e86.trans e6).trans hK,H,_,_,_,_,_,_,hb.sat e86,hsc.sat (e86.trans e6),h1.sat e8,h2⟩
theorem q01 (defs:List DefD) {n c:Nat} {A:Option Addr} (hl:defs.length=n) (hN:y0e defs≤2900000) (hS:q36 defs) (hd:RD K (.list n (y0q defs)) (.slice A n c)) (H:Hp w0 w K M):
  Calls Tryz.prog 28 #[.slice A n c] w fun e w'=>∃K' g,e= .returned (.pointer (some ⟨g,0,none⟩))∧Sat K' K∧Hp w0 w' K' M∧RfK K' g (y3x defs).schema (y3x defs).types (y3x defs).dirs:=by
 have h:=x6y defs hl hN hd H;rw [←x2d hS,←z98,←q37] at h;exact h
end
theorem x0f {ts:List DefD} (h:y0e ts≤9000000):ts.length≤9000000:=Qah (y0o y2g ts) h
theorem q02 {ts:List DefD} {x:Txt} {i:Nat} {d:DefD} (h:y1k ts x=some i) (hd:ts[i]?=some d):y51 ts x=some d:=by unfold y51;rw [h];simpa using hd
theorem q03 {ts:List DefD} {x:Txt} (h:y1k ts x=none):y51 ts x=none:=by unfold y51;rw [h];rfl
section
variable {w0 w K : World} {M : List Ent} {g : Nat} {s : DefD} {ts ds : List DefD}
theorem z4x (x:Txt) (hT:RfK K g s ts ds) (hN:y0e ts≤9000000) (H:Hp w0 w K M) {k:Int} (hk:y0l ts x=k):
  Calls Tryz.prog 75 #[.pointer (some ⟨g,0,none⟩),.string (str x)] w fun e w'=>e= .returned (.int .i64 k)∧w'=w:=by
 obtain ⟨o,AT,AD,cT,cD,sch,hb,-,hd,-⟩:=hT;have hb:K.heap[g]?=some (.cells _ _ _):=hb;have hl:=x0f hN;have hdw:=hd.sat H.sat;obtain ⟨n,hn⟩: ∃n,ts.length=n:=⟨_,rfl⟩;rw [hn] at hb hd hdw hl;have HN:=hide hn;clear hn hN
 cases hq:y1k ts x with
 |none=>
  have hp:y2l ts x= -1:=by unfold y2l;rw [hq]
  obtain rfl:k=0:=hk.symm.trans (x2g hq);clear hk hq;go_enter Tryz.func75,Tryz.ntmps75
  go_wp2_with (first|(refine oL H ?_)|(go_at_call 77;refine (y1o x HN.out hl hdw hp).mono ?_;rintro e w9 ⟨rfl,hw9⟩;subst w9))
  go_ret;exact ⟨rfl,rfl⟩
 |some i=>
  have hp:y2l ts x=(i:Int):=by unfold y2l;rw [hq]
  obtain ⟨e,he,hne⟩:=y1p hq;obtain rfl:k=e.kind:=hk.symm.trans (q0z hq he);have hio:i<ts.length:=(Qac.1 he).1;obtain ⟨e2,ad,us,he2,rfl,hel,hat⟩:=el_k (m:=17) (f:=defL) y0u hd hio (by decide)
  obtain rfl:e2=e:=by rw [he] at he2;injection he2 with he2;exact he2.symm
  obtain ⟨A6,c6,A7,c7,A8,c8,A9,c9,A10,c10,A11,c11,A12,c12,A14,c14,rfl,-,-,-,-,-,-,-,-⟩:=y0c hel
  have hi0: ¬((i:Int)<0):=by omega
  have hiI:(i:Int)<(n:Int):=by have:=HN.out;omega
  clear hk hq he he2 hio hel;go_enter Tryz.func75,Tryz.ntmps75
  go_wp2_with (first|(refine oL H ?_)|(go_at_call 77;refine (y1o x HN.out hl hdw hp).mono ?_;rintro e w9 ⟨rfl,hw9⟩;subst w9))
  go_ret;exact ⟨rfl,rfl⟩
theorem q04 (hT:RfK K g s ts ds) (hN:y0e ts≤9000000) (H:Hp w0 w K M):
  Calls Tryz.prog 29 #[.pointer (some ⟨g,0,none⟩)] w fun e w'=>∃A' c',e= .returned (.slice A' ts.length c')∧Hp w0 w' K (.row 9 1 (.slice A' ts.length c') ts.length ((ts.map (·.name)).map sv)::M):=by
 obtain ⟨o,AT,AD,cT,cD,sch,hb,-,hd,-⟩:=hT;have hb:K.heap[g]?=some (.cells _ _ _):=hb;have hl:=x0f hN;go_enter Tryz.func29,Tryz.ntmps29
 go_wp2_with (first|(refine oL H ?_)|(go_at_call 74;refine (x6w ts H rfl hd hl).mono ?_;clear H;rintro e w ⟨A',c',rfl,H⟩))
 go_ret;exact ⟨A',c',rfl,H⟩
theorem q4c (x:Txt) (hT:RfK K g s ts ds) (hN:y0e ts≤9000000) (H:Hp w0 w K M) {ok:Bool} {d:DefD} (h1:(y51 ts x).isSome=ok) (h2:(y51 ts x).getD z7r=d):
  Calls Tryz.prog 40 #[.pointer (some ⟨g,0,none⟩),.string (str x)] w fun e w'=>∃K' cs,e= .returned (.tuple #[.agg cs,.bool ok])∧Sat K' K∧Hp w0 w' K' M∧RL K' (defL d) cs.toList:=by
 obtain ⟨o,AT,AD,cT,cD,sch,hb,-,hd,-⟩:=hT;have hb:K.heap[g]?=some (.cells _ _ _):=hb;have hl:=x0f hN;have hdw:=fun {w w0 M} (H:Hp w0 w K M)=>hd.sat H.sat;obtain ⟨n,hn⟩: ∃n,ts.length=n:=⟨_,rfl⟩;rw [hn] at hb hd hl;simp only [hn] at hdw;have HN:=hide hn;have HD:=hide hN;clear hn hN
 cases hq:y1k ts x with
 |none=>
  have hp:y2l ts x= -1:=by unfold y2l;rw [hq]
  rw [q03 hq] at h1 h2;obtain rfl:ok=false:=h1.symm;obtain rfl:d=z7r:=h2.symm;clear h1 h2 hq;go_enter Tryz.func40,Tryz.ntmps40
  go_wp2_with (first|(refine oL H ?_)|(refine oA 4 H ?_;clear H;intro w g4 H)|(refine oP H ?_;clear H;intro w _ H)|(go_at_call 77;refine (y1o x HN.out hl (hdw H) hp).mono ?_;rintro e w9 ⟨rfl,hw9⟩;subst w9))
  refine oB2 H ?_;exact ⟨K,_,rfl,Sat.refl _,H.fin,y01 RD.z RD.z RD.z RD.z RD.z RD.z RD.z RD.z⟩
 |some i=>
  have hp:y2l ts x=(i:Int):=by unfold y2l;rw [hq]
  obtain ⟨e,he,hne⟩:=y1p hq;rw [q02 hq he] at h1 h2;obtain rfl:ok=true:=h1.symm;obtain rfl:d=e:=h2.symm;have hio:i<ts.length:=(Qac.1 he).1;have hdn:defN d≤9000000:=Qah (y64 he) HD.out;obtain ⟨e2,ad,us,he2,rfl,hel,hat⟩:=el_k (m:=17) (f:=defL) y0u hd hio (by decide)
  obtain rfl:e2=d:=by rw [he] at he2;injection he2 with he2;exact he2.symm
  obtain ⟨A6,c6,A7,c7,A8,c8,A9,c9,A10,c10,A11,c11,A12,c12,A14,c14,rfl,-,-,-,-,-,-,-,-⟩:=y0c hel
  have hi0: ¬((i:Int)<0):=by omega
  have hiI:(i:Int)<(n:Int):=by have:=HN.out;omega
  clear h1 h2 hq he he2 hio hne;go_enter Tryz.func40,Tryz.ntmps40
  go_wp2_with (first|(refine oL H ?_)|(go_at_call 86;refine (z6g e2 #[_,_,_,_,_,_,_,_,_,_,_,_,_,_,_,_,_] H hdn hel).mono ?_;clear H;rintro e w ⟨K2,cs,rfl,hle,H,hc⟩;have ho:=hide hc.one;obtain ⟨B6,b6,B7,b7,B8,b8,B9,b9,B10,b10,B11,b11,B12,b12,B14,b14,hcs,-⟩:=y0c hc;obtain rfl:cs= #[_,_,_,_,_,_,_,_,_,_,_,_,_,_,_,_,_]:=Qal.1 hcs;clear hcs)|(refine oA 4 H ?_;clear H;intro w g4 H)|(refine oP H ?_;clear H;intro w _ H)|(go_at_call 77;refine (y1o x HN.out hl (hdw H) hp).mono ?_;rintro e w9 ⟨rfl,hw9⟩;subst w9))
  refine oB2 H ?_;exact ⟨K2,_,rfl,hle,H.fin,hc⟩
end
end Go.Proofs.YtbpgkkoeehopjaaGreat.hp
