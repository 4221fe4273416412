/- TypesysFields, with arguments of bulk at most 1048576: over whatever source, every field of every type, those that types have by themselves, and one that is handed in, are the document's; the call returns true and changes no argument. -/
import Derived.Test.YtbpgkkoeehopjaaGreatP1
import Derived.Test.YtbpgkkoeehopjaaGreatP4
import Derived.Test.YtbpgkkoeehopjaaGreatP7
import Derived.Test.YtbpgkkoeehopjaaGreatP8
import Derived.Test.YtbpgkkoeehopjaaGreatP9
import Derived.Test.YtbpgkkoeehopjaaGreatP11
import Derived.Test.YtbpgkkoeehopjaaGreatP14
import Derived.Test.YtbpgkkoeehopjaaGreatP15
import Derived.Test.YtbpgkkoeehopjaaGreatP16
import Derived.Deep.QuietTactic
import Derived.BigQuiet
import Derived.Test.YtbpgkkoeehopjaaGreatRows
import Derived.ChangeArms
import Derived.ProofKit
import Derived.OpenShut
import Derived.Deep.Matrix
import Derived.SizedLaws
import Derived.WalkKit
import Derived.JoinedCond
set_option linter.unusedVariables false
set_option linter.unusedSimpArgs false
namespace Go.Proofs.YtbpgkkoeehopjaaGreat.hp
open Go.RowKit words enc tree gram lex rd dec dat held ty
set_option maxRecDepth 100000
attribute [local go_sem ↓] Go.wp_at_zero Go.wp_at_succ
def y1l:Txt:=[95,95,116,121,112,101,110,97,109,101]
def y28:Txt:=[95,95,115,99,104,101,109,97]
def y76:Txt:=[95,95,116,121,112,101]
def z2w:Txt:=[95,95,83,99,104,101,109,97]
def x37:Txt:=[95,95,84,121,112,101]
theorem x2h:(str y1l).toList=[95,95,116,121,112,101,110,97,109,101]:=by kernel_rfl
theorem x6z:(str y28).toList=[95,95,115,99,104,101,109,97]:=by kernel_rfl
theorem q4d:(str y76).toList=[95,95,116,121,112,101]:=by kernel_rfl
theorem y2j (f:Txt):((str f).toList==[95,95,116,121,112,101,110,97,109,101])=decide (f=y1l):=by rw [←x2h];exact y11 f _
theorem y48 (f:Txt):((str f).toList==[95,95,115,99,104,101,109,97])=decide (f=y28):=by rw [←x6z];exact y11 f _
theorem z2x (f:Txt):((str f).toList==[95,95,116,121,112,101])=decide (f=y76):=by rw [←q4d];exact y11 f _
def y4y:InputD:=⟨y2v,[110,97,109,101],(y61,[33]),false,litZ,[],0,0⟩
def z7w:FieldD:=⟨y2v,[],[],([],[]),[],0,0⟩
def y3n (D:TysD) (t f:Txt):Option FieldD:=
 if y0l D.types t≠3∧y0l D.types t≠4∧y0l D.types t≠5 then none
 else if f=y1l then some ⟨y2v,f,[],(y61,[33]),[],0,0⟩
 else if y0l D.types t=3∧t=y23 D.schema.roots 1∧f=y28 then some ⟨y2v,f,[],(z2w,[33]),[],0,0⟩
 else if y0l D.types t=3∧t=y23 D.schema.roots 1∧f=y76 then some ⟨y2v,f,[y4y],(x37,[]),[],0,0⟩
 else if y0l D.types t=5 then none
 else match y0x D.fields (t,f) with
  |some (.int .i64 k)=>(y51 D.types t).bind fun d=>d.fields[k.toNat]?
  |_=>none
def FldO (o:Option FieldD) (K:World) (v:Value):Prop:=∃cs,v= .tuple #[.agg cs,.bool o.isSome]∧RL K (y07 (o.getD z7w)) cs.toList
theorem y65 {K:World}:RL K (y07 z7w) [.bool false,.bool false,.string ⟨#[]⟩,.string ⟨#[]⟩,.slice none 0 0,.string ⟨#[]⟩,.string ⟨#[]⟩,.slice none 0 0,.int .i64 0,.int .i64 0]:=.lit (.lit (.lit (.lit (.cons RD.z (.lit (.lit (.cons RD.z (.lit (.lit RL.z)))))))))
theorem z6i {K:World} (f n m:Txt):RL K (y07 ⟨y2v,f,[],(n,m),[],0,0⟩) [.bool false,.bool false,.string ⟨#[]⟩,.string (str f),.slice none 0 0,.string (str n),.string (str m),.slice none 0 0,.int .i64 0,.int .i64 0]:=.lit (.lit (.lit (.lit (.cons RD.z (.lit (.lit (.cons RD.z (.lit (.lit RL.z)))))))))
theorem q05 {K:World} (f n m:Txt) {v:Value} (h:RD K (.list 1 (y0k [y4y])) v):RL K (y07 ⟨y2v,f,[y4y],(n,m),[],0,0⟩) [.bool false,.bool false,.string ⟨#[]⟩,.string (str f),v,.string (str n),.string (str m),.slice none 0 0,.int .i64 0,.int .i64 0]:=.lit (.lit (.lit (.lit (.cons h (.lit (.lit (.cons RD.z (.lit (.lit RL.z)))))))))
theorem y77 {d:DefD} {k:Nat} {f:FieldD} (h:d.fields[k]?=some f):y1j f≤defN d:=by
 have h1:d.fields=d.fields.take k++f::d.fields.drop (k+1):=by
  obtain ⟨hi,rfl⟩:=Qac.1 h;simp
 have h2:sumN y1j d.fields=sumN y1j (d.fields.take k)+sumN y1j (f::d.fields.drop (k+1)):=by
  conv=>lhs;rw [h1]
  exact y7t ..
 simp only [sumN] at h2;unfold defN;omega
set_option maxHeartbeats 16000000 in
theorem q4e (v:Value) (t f:Txt) (kk:Int) (D:TysD) (w0 w K:World) (M:List Ent) (H:Hp w0 w K M) (hv:Tp K v D) (hW:TyW D) (hkk:y0l D.types t=kk) (h3:kk≠3) (h4:kk≠4) (h5:kk≠5):
  Calls Tryz.prog 41 #[v,.string (str t),.string (str f)] w (Post w0 K M (FldO (y3n D t f))):=by
 have HR:=hide (show y3n D t f=none from if_pos ⟨by rw [hkk];exact h3,by rw [hkk];exact h4,by rw [hkk];exact h5⟩)
 have n3:(kk !=3)=true:=by simp [h3]
 have n4:(kk !=4)=true:=by simp [h4]
 have n5:(kk !=5)=true:=by simp [h5]
 have m3:(kk==3)=false:=by simp [h3]
 have m4:(kk==4)=false:=by simp [h4]
 have m5:(kk==5)=false:=by simp [h5]
 go_enter Tryz.func41,Tryz.ntmps41;have hK:=Sat.refl K
 go_upto_region 1 with (first
  |((with_reducible refine isL ?_);first
   |(refine al z52 6 H ?_;clear H;intro w1 g6 H)))
 go_upto_region 2 with (first
  |(go_at_call 64;refine (y9z _ D _ _ K _ H hv).mono ?_;clear H;rintro e w5 ⟨K5,g5,rfl,hle,H,hT5⟩;replace hK:=hle.trans hK))
 obtain ⟨ga,gd,gf,go,sch,VT,VD,OB,T⟩:=hT5;have hT5:TysK K5 g5 D:=⟨ga,gd,gf,go,sch,VT,VD,OB,T⟩
 go_upto_region 3 with (first
  |(go_at_call 79;refine (y1d t _ g5 ga gd gf go sch VT VD D.schema D.types D.dirs _ _ _ _ H T.a hkk).mono ?_;clear H;rintro e wk ⟨rfl,H⟩))
 go_wp2_with (first
  |((with_reducible refine isL ?_);first
   |(refine sA 6 0 H ?_;clear H;intro w5 H)))
 refine bodyPost_ret (y0y rfl _ _ g6 52 _ (0,0) _ (by rfl) (H.blkAt (i:=0) rfl) Tryz.underlying52 rfl (by kernel_rfl)) rfl ?_;replace H:=H.sub (Qai _ (Qam _));exact ⟨K5,_,rfl,hK,H,_,by rw [HR.out];rfl,by rw [HR.out];exact y65⟩
set_option maxHeartbeats 16000000 in
theorem y53 (v:Value) (t f:Txt) (kk:Int) (D:TysD) (w0 w K:World) (M:List Ent) (H:Hp w0 w K M) (hv:Tp K v D) (hW:TyW D) (hkk:y0l D.types t=kk) (hk:kk=3∨kk=4∨kk=5) (hf:f=y1l):
  Calls Tryz.prog 41 #[v,.string (str t),.string (str f)] w (Post w0 K M (FldO (y3n D t f))):=by
 have HR:=hide (show y3n D t f=some ⟨y2v,f,[],(y61,[33]),[],0,0⟩ from (if_neg (by rw [hkk];omega)).trans (if_pos hf));have hs:=y2j f;rw [Qa5 hf] at hs;clear hf;rcases hk with rfl|rfl|rfl
 ·skip
  go_enter Tryz.func41,Tryz.ntmps41;have hK:=Sat.refl K
  go_upto_region 1 with (first
   |((with_reducible refine isL ?_);first
    |(refine al z52 6 H ?_;clear H;intro w6 g6 H)))
  go_upto_region 2 with (first
   |(go_at_call 64;refine (y9z _ D _ _ K _ H hv).mono ?_;clear H;rintro e w5 ⟨K5,g5,rfl,hle,H,hT5⟩;replace hK:=hle.trans hK))
  obtain ⟨ga,gd,gf,go,sch,VT,VD,OB,T⟩:=hT5;have hT5:TysK K5 g5 D:=⟨ga,gd,gf,go,sch,VT,VD,OB,T⟩
  go_upto_region 3 with (first
   |(go_at_call 79;refine (y1d t _ g5 ga gd gf go sch VT VD D.schema D.types D.dirs _ _ _ _ H T.a hkk).mono ?_;clear H;rintro e wk ⟨rfl,H⟩))
  go_upto_region 6 with (fail)
  go_wp2_with (first
   |((with_reducible refine isL ?_);first
    |(refine sA 6 0 H ?_;clear H;intro w10 H)))
  refine bodyPost_ret (y0y rfl _ _ g6 52 _ (0,0) _ (by rfl) (H.blkAt (i:=0) rfl) Tryz.underlying52 rfl (by kernel_rfl)) rfl ?_;replace H:=H.sub (Qai _ (Qam _));exact ⟨K5,_,rfl,hK,H,_,by rw [HR.out];rfl,by rw [HR.out];exact z6i f y61 [33]⟩
 ·skip
  go_enter Tryz.func41,Tryz.ntmps41;have hK:=Sat.refl K
  go_upto_region 1 with (first
   |((with_reducible refine isL ?_);first
    |(refine al z52 6 H ?_;clear H;intro w11 g6 H)))
  go_upto_region 2 with (first
   |(go_at_call 64;refine (y9z _ D _ _ K _ H hv).mono ?_;clear H;rintro e w5 ⟨K5,g5,rfl,hle,H,hT5⟩;replace hK:=hle.trans hK))
  obtain ⟨ga,gd,gf,go,sch,VT,VD,OB,T⟩:=hT5;have hT5:TysK K5 g5 D:=⟨ga,gd,gf,go,sch,VT,VD,OB,T⟩
  go_upto_region 3 with (first
   |(go_at_call 79;refine (y1d t _ g5 ga gd gf go sch VT VD D.schema D.types D.dirs _ _ _ _ H T.a hkk).mono ?_;clear H;rintro e wk ⟨rfl,H⟩))
  go_upto_region 6 with (fail)
  go_wp2_with (first
   |((with_reducible refine isL ?_);first
    |(refine sA 6 0 H ?_;clear H;intro w15 H)))
  refine bodyPost_ret (y0y rfl _ _ g6 52 _ (0,0) _ (by rfl) (H.blkAt (i:=0) rfl) Tryz.underlying52 rfl (by kernel_rfl)) rfl ?_;replace H:=H.sub (Qai _ (Qam _));exact ⟨K5,_,rfl,hK,H,_,by rw [HR.out];rfl,by rw [HR.out];exact z6i f y61 [33]⟩
 ·skip
  go_enter Tryz.func41,Tryz.ntmps41;have hK:=Sat.refl K
  go_upto_region 1 with (first
   |((with_reducible refine isL ?_);first
    |(refine al z52 6 H ?_;clear H;intro w16 g6 H)))
  go_upto_region 2 with (first
   |(go_at_call 64;refine (y9z _ D _ _ K _ H hv).mono ?_;clear H;rintro e w5 ⟨K5,g5,rfl,hle,H,hT5⟩;replace hK:=hle.trans hK))
  obtain ⟨ga,gd,gf,go,sch,VT,VD,OB,T⟩:=hT5;have hT5:TysK K5 g5 D:=⟨ga,gd,gf,go,sch,VT,VD,OB,T⟩
  go_upto_region 3 with (first
   |(go_at_call 79;refine (y1d t _ g5 ga gd gf go sch VT VD D.schema D.types D.dirs _ _ _ _ H T.a hkk).mono ?_;clear H;rintro e wk ⟨rfl,H⟩))
  go_upto_region 6 with (fail)
  go_wp2_with (first
   |((with_reducible refine isL ?_);first
    |(refine sA 6 0 H ?_;clear H;intro w20 H)))
  refine bodyPost_ret (y0y rfl _ _ g6 52 _ (0,0) _ (by rfl) (H.blkAt (i:=0) rfl) Tryz.underlying52 rfl (by kernel_rfl)) rfl ?_;replace H:=H.sub (Qai _ (Qam _));exact ⟨K5,_,rfl,hK,H,_,by rw [HR.out];rfl,by rw [HR.out];exact z6i f y61 [33]⟩
abbrev argV:List Value:=[.bool false,.bool false,.string ⟨#[]⟩,.string ⟨#[110,97,109,101]⟩,.string ⟨#[83,116,114,105,110,103]⟩,.string ⟨#[33]⟩,.bool false,.int .i64 0,.string ⟨#[]⟩,.bool false,.slice none 0 0,.slice none 0 0,.int .i64 0,.int .i64 0,.slice none 0 0,.int .i64 0,.int .i64 0]
theorem q06 {K:World}:RL K (y0k [y4y]) argV:=by unfold y4y;exact .lit (.lit (.lit (.lit (.lit (.lit (.lit (.lit (.lit (.lit (.cons RD.z (.cons RD.z (.lit (.lit (.cons RD.z (.lit (.lit RL.z))))))))))))))))
set_option maxHeartbeats 16000000 in
theorem x0g (v:Value) (t f:Txt) (D:TysD) (w0 w K:World) (M:List Ent) (H:Hp w0 w K M) (hv:Tp K v D) (hW:TyW D) (hkk:y0l D.types t=3) (ht:t=y23 D.schema.roots 1) (hf:f=y28):
  Calls Tryz.prog 41 #[v,.string (str t),.string (str f)] w (Post w0 K M (FldO (y3n D t f))):=by
 have hft:f≠y1l:=by rw [hf];decide
 have HR:=hide (show y3n D t f=some ⟨y2v,f,[],(z2w,[33]),[],0,0⟩ from (if_neg (by rw [hkk];omega)).trans ((if_neg hft).trans (if_pos ⟨hkk,ht,hf⟩)));have hs1:=y2j f;have hs2:=y48 f;have hs4:=y11 t (y23 D.schema.roots 1);rw [Qa4 hft] at hs1;rw [Qa5 hf] at hs2;rw [Qa5 ht] at hs4;clear hf hft ht;go_enter Tryz.func41,Tryz.ntmps41;have hK:=Sat.refl K
 go_upto_region 1 with (first
  |((with_reducible refine isL ?_);first
   |(refine al z52 6 H ?_;clear H;intro w21 g6 H)))
 go_upto_region 2 with (first
  |(go_at_call 64;refine (y9z _ D _ _ K _ H hv).mono ?_;clear H;rintro e w5 ⟨K5,g5,rfl,hle,H,hT5⟩;replace hK:=hle.trans hK))
 obtain ⟨ga,gd,gf,go,sch,VT,VD,OB,T⟩:=hT5;have hT5:TysK K5 g5 D:=⟨ga,gd,gf,go,sch,VT,VD,OB,T⟩
 go_upto_region 3 with (first
  |(go_at_call 79;refine (y1d t _ g5 ga gd gf go sch VT VD D.schema D.types D.dirs _ _ _ _ H T.a hkk).mono ?_;clear H;rintro e wk ⟨rfl,H⟩))
 go_upto_region 7 with (fail)
 go_upto_region 8 with (first
  |(go_at_call 17;refine (z2g (.pointer (some ⟨g5,0,none⟩)) 1 D _ _ _ _ H hT5.tp hW).mono ?_;clear H;rintro e w7 ⟨K7,rfl,hlew7,H⟩;replace hK:=hlew7.trans hK;replace hT5:=hT5.sat hlew7))
 go_wp2_with (first
  |((with_reducible refine isL ?_);first
   |(refine sA 6 0 H ?_;clear H;intro w26 H)))
 refine bodyPost_ret (y0y rfl _ _ g6 52 _ (0,0) _ (by rfl) (H.blkAt (i:=0) rfl) Tryz.underlying52 rfl (by kernel_rfl)) rfl ?_;replace H:=H.sub (Qai _ (Qam _));exact ⟨K7,_,rfl,hK,H,_,by rw [HR.out];rfl,by rw [HR.out];exact z6i f z2w [33]⟩
set_option maxHeartbeats 16000000 in
theorem x60 (v:Value) (t f:Txt) (D:TysD) (w0 w K:World) (M:List Ent) (H:Hp w0 w K M) (hv:Tp K v D) (hW:TyW D) (hkk:y0l D.types t=3) (ht:t=y23 D.schema.roots 1) (hf:f=y76):
  Calls Tryz.prog 41 #[v,.string (str t),.string (str f)] w (Post w0 K M (FldO (y3n D t f))):=by
 have hft:f≠y1l:=by rw [hf];decide
 have hfs:f≠y28:=by rw [hf];decide
 have HR:=hide (show y3n D t f=some ⟨y2v,f,[y4y],(x37,[]),[],0,0⟩ from (if_neg (by rw [hkk];omega)).trans ((if_neg hft).trans ((if_neg (fun h=>hfs h.2.2)).trans (if_pos ⟨hkk,ht,hf⟩))));have hs1:=y2j f;have hs2:=y48 f;have hs3:=z2x f;have hs4:=y11 t (y23 D.schema.roots 1);rw [Qa4 hft] at hs1;rw [Qa4 hfs] at hs2;rw [Qa5 hf] at hs3;rw [Qa5 ht] at hs4;clear hf hft hfs ht;go_enter Tryz.func41,Tryz.ntmps41;have hK:=Sat.refl K
 go_upto_region 1 with (first
  |((with_reducible refine isL ?_);first
   |(refine al z52 6 H ?_;clear H;intro w27 g6 H)))
 go_upto_region 2 with (first
  |(go_at_call 64;refine (y9z _ D _ _ K _ H hv).mono ?_;clear H;rintro e w5 ⟨K5,g5,rfl,hle,H,hT5⟩;replace hK:=hle.trans hK))
 obtain ⟨ga,gd,gf,go,sch,VT,VD,OB,T⟩:=hT5;have hT5:TysK K5 g5 D:=⟨ga,gd,gf,go,sch,VT,VD,OB,T⟩
 go_upto_region 3 with (first
  |(go_at_call 79;refine (y1d t _ g5 ga gd gf go sch VT VD D.schema D.types D.dirs _ _ _ _ H T.a hkk).mono ?_;clear H;rintro e wk ⟨rfl,H⟩))
 go_upto_region 7 with (fail)
 go_upto_region 9 with (first
  |(go_at_call 17;refine (z2g (.pointer (some ⟨g5,0,none⟩)) 1 D _ _ _ _ H hT5.tp hW).mono ?_;clear H;rintro e w7 ⟨K7,rfl,hlew7,H⟩;replace hK:=hlew7.trans hK;replace hT5:=hT5.sat hlew7))
 go_upto_region 10 with (first
  |(go_at_call 17;refine (z2g (.pointer (some ⟨g5,0,none⟩)) 1 D _ _ _ _ H hT5.tp hW).mono ?_;clear H;rintro e w8 ⟨K8,rfl,hlew8,H⟩;replace hK:=hlew8.trans hK;replace hT5:=hT5.sat hlew8))
 go_upto_region 11 with (first
  |((with_reducible refine isL ?_);first
   |(refine al z123 9 H ?_;clear H;intro w33 g9 H)
   |(refine sA 9 0 H ?_;clear H;intro w35 H)))
 go_wp2_with (first
  |(refine y2h (by rfl) 37 123 1 _ (by rfl) (some 69) (by rfl) Tryz.underlying37 [.bool false,.bool false,.string ⟨#[]⟩,.string ⟨#[110,97,109,101]⟩,.string ⟨#[83,116,114,105,110,103]⟩,.string ⟨#[33]⟩,.bool false,.int .i64 0,.string ⟨#[]⟩,.bool false,.slice none 0 0,.slice none 0 0,.int .i64 0,.int .i64 0,.slice none 0 0,.int .i64 0,.int .i64 0] (by kernel_rfl) H ?_;clear H;intro w36 g69 H;obtain ⟨K9,hle37,H,hin⟩:=H.freezeBox (n:=1) (ls:=y0k [y4y]) (q06) (by simp only [maxLen];omega);replace hK:=hle37.trans hK)
  |((with_reducible refine isL ?_);first
   |(refine ld 9 0 17 Tryz.underlying123 H ?_)
   |(refine sA 6 1 H ?_;clear H;intro w38 H)))
 replace H:=H.sub (Qai _ (Qaa _ (Qam _)));refine bodyPost_ret (y0y rfl _ _ g6 52 _ (0,0) _ (by rfl) (H.blkAt (i:=0) rfl) Tryz.underlying52 rfl (by kernel_rfl)) rfl ?_;replace H:=H.sub (Qai _ (Qam _));exact ⟨K9,_,rfl,hK,H,_,by rw [HR.out];rfl,by rw [HR.out];exact q05 f x37 [] hin⟩
set_option maxHeartbeats 16000000 in
theorem x2i (v:Value) (t f:Txt) (D:TysD) (w0 w K:World) (M:List Ent) (H:Hp w0 w K M) (hv:Tp K v D) (hW:TyW D) (hkk:y0l D.types t=5) (hft:f≠y1l):
  Calls Tryz.prog 41 #[v,.string (str t),.string (str f)] w (Post w0 K M (FldO (y3n D t f))):=by
 have HR:=hide (show y3n D t f=none from (if_neg (by rw [hkk];omega)).trans ((if_neg hft).trans ((if_neg (fun h=>by rw [hkk] at h;omega)).trans ((if_neg (fun h=>by rw [hkk] at h;omega)).trans (if_pos hkk)))));have hs1:=y2j f;rw [Qa4 hft] at hs1;clear hft;go_enter Tryz.func41,Tryz.ntmps41;have hK:=Sat.refl K
 go_upto_region 1 with (first
  |((with_reducible refine isL ?_);first
   |(refine al z52 6 H ?_;clear H;intro w39 g6 H)))
 go_upto_region 2 with (first
  |(go_at_call 64;refine (y9z _ D _ _ K _ H hv).mono ?_;clear H;rintro e w5 ⟨K5,g5,rfl,hle,H,hT5⟩;replace hK:=hle.trans hK))
 obtain ⟨ga,gd,gf,go,sch,VT,VD,OB,T⟩:=hT5;have hT5:TysK K5 g5 D:=⟨ga,gd,gf,go,sch,VT,VD,OB,T⟩
 go_upto_region 3 with (first
  |(go_at_call 79;refine (y1d t _ g5 ga gd gf go sch VT VD D.schema D.types D.dirs _ _ _ _ H T.a hkk).mono ?_;clear H;rintro e wk ⟨rfl,H⟩))
 go_upto_region 13 with (fail)
 go_wp2_with (first
  |((with_reducible refine isL ?_);first
   |(refine sA 6 0 H ?_;clear H;intro w43 H)))
 refine bodyPost_ret (y0y rfl _ _ g6 52 _ (0,0) _ (by rfl) (H.blkAt (i:=0) rfl) Tryz.underlying52 rfl (by kernel_rfl)) rfl ?_;replace H:=H.sub (Qai _ (Qam _));exact ⟨K5,_,rfl,hK,H,_,by rw [HR.out];rfl,by rw [HR.out];exact y65⟩
theorem y8x {w:World} {B O:Nat} {vs:List Value} (h:At w ⟨B,O,none⟩ vs):w.rangeAt B O vs:=fun k u hu=>by
 cases k with
 |zero=>exact h.1 u hu
 |succ k=>exact h.2 k u hu
theorem y2m {w K:World} {B O:Nat} {vs:List Value} (h:K.rangeAt B O vs) (hs:Sat w K):w.rangeAt B O vs:=fun k u hu=>hs.cell (h k u hu)
theorem At.sat_cell {w K:World} {p:Addr} {v:Value} (h:K.cell? p=some v) (hs:Sat w K):w.cell? p=some v:=hs.cell h
theorem z7x {D:TysD} {t f:Txt} {k i:Nat} {d:DefD} {fd:FieldD} (hk:y0x D.fields (t,f)=some (.int .i64 ((k:Nat):Int))) (hi:y1k D.types t=some i) (hd:D.types[i]?=some d) (hf:d.fields[k]?=some fd):
  (match y0x D.fields (t,f) with|some (.int .i64 k)=>(y51 D.types t).bind fun d=>d.fields[k.toNat]?|_=>none)=some fd:=by
 rw [hk];simp only [Int.toNat_natCast];rw [y8t hi hd];exact hf
set_option maxHeartbeats 16000000 in
theorem x2j (v:Value) (t f:Txt) (D:TysD) (w0 w K:World) (M:List Ent) (H:Hp w0 w K M) (hv:Tp K v D) (hW:TyW D) (hkk:y0l D.types t=4) (hft:f≠y1l):
  Calls Tryz.prog 41 #[v,.string (str t),.string (str f)] w (Post w0 K M (FldO (y3n D t f))):=by
 have HX:=(show y3n D t f=_ from (if_neg (by rw [hkk];omega)).trans ((if_neg hft).trans ((if_neg (fun h=>by rw [hkk] at h;omega)).trans ((if_neg (fun h=>by rw [hkk] at h;omega)).trans (if_neg (by rw [hkk];omega))))));have HRN:=hide (fun (hk:y0x D.fields (t,f)=none)=>HX.trans (by rw [hk]));have HRS:=hide (fun (k i:Nat) (d:DefD) (fd:FieldD) hk hi hd hf=>HX.trans (z7x (k:=k) (i:=i) (d:=d) (fd:=fd) hk hi hd hf));have hs1:=y2j f;rw [Qa4 hft] at hs1;clear hft HX;go_enter Tryz.func41,Tryz.ntmps41;have hK:=Sat.refl K
 go_upto_region 1 with (first
  |((with_reducible refine isL ?_);first
   |(refine al z52 6 H ?_;clear H;intro w44 g6 H)))
 go_upto_region 2 with (first
  |(go_at_call 64;refine (y9z _ D _ _ K _ H hv).mono ?_;clear H;rintro e w5 ⟨K5,g5,rfl,hle,H,hT5⟩;replace hK:=hle.trans hK))
 obtain ⟨ga,gd,gf,go,sch,VT,VD,OB,T⟩:=hT5;have hT5:TysK K5 g5 D:=⟨ga,gd,gf,go,sch,VT,VD,OB,T⟩
 go_upto_region 3 with (first
  |(go_at_call 79;refine (y1d t _ g5 ga gd gf go sch VT VD D.schema D.types D.dirs _ _ _ _ H T.a hkk).mono ?_;clear H;rintro e wk ⟨rfl,H⟩))
 go_upto_region 14 with (fail)
 obtain ⟨ga6,gd6,gf6,go6,sch6,VT6,VD6,OB6,T6⟩:=hT5;have hcF:=H.kcell T6.a.box T6.a.c21
 cases hk:y0x D.fields (t,f) with
 |none=>
  have HR:=hide (HRN.out hk)
  go_wp2_with (first
   |(refine y1a (by rfl) (.tmp 79) (.tmp 82) 88 true (by rfl) Tryz.underlying88 (z0r z7j) (.int .i64 0) y0j gf6 (D.fields) (H.kmap T6.fields) (by first|rfl|simp [Act.eval,Act.put]) ((t,f)) (by first|rfl|simp [Act.eval,Act.put]) (.tuple #[.int .i64 0,.bool false]) (by rw [hk];rfl) ?_)
   |((with_reducible refine isL ?_);first
    |(refine sA 6 0 H ?_;clear H;intro w48 H)))
  refine bodyPost_ret (y0y rfl _ _ g6 52 _ (0,0) _ (by rfl) (H.blkAt (i:=0) rfl) Tryz.underlying52 rfl (by kernel_rfl)) rfl ?_;replace H:=H.sub (Qai _ (Qam _));exact ⟨K5,_,rfl,hK,H,_,by rw [HR.out];rfl,by rw [HR.out];exact y65⟩
 |some y=>
  obtain ⟨i,d,k,fd,hi,hd,hfd,-,hy⟩:=z7m hW.nd hW.f hk;subst hy;have HR:=hide (HRS.out k i d fd hk hi hd hfd);have hq:=y12 D.types t;rw [hi] at hq;replace hq:y0x (nmap (y0a D.types)) t=some (.int .i64 (i:Int)):=hq;have hlt:=y4x hi
  have hltI:(i:Int)<(D.types.length:Int):=by omega
  have hklt:=(Qac.1 hfd).1
  have hkltI:(k:Int)<(d.fields.length:Int):=by omega
  have hN:=hW.nT;have hdn:=y3h hd;have hfn:=y77 hfd
  have hfm:y1j fd≤9000000:=by omega
  have hTy:=T6.a.types;have hcT:=T6.a.c17;obtain ⟨A,c,hVT,hc1,hc2⟩:=y4h hTy;rw [hVT] at hTy;obtain ⟨ad,xs,hA,hxd,hxl,hatK⟩:=y2r (m:=17) (f:=defL) y0u hTy hd (by omega);subst hA;obtain ⟨B,O,hBO⟩:=y14 (m:=17) (f:=defL) y0u hTy (by omega) (by omega);subst hBO;obtain ⟨A6,c6,A7,c7,A8,c8,A9,c9,A10,c10,A11,c11,A12,c12,A14,c14,hcs,-,-,hfa,-,-,-,-,-⟩:=y0c hxd;subst hcs;subst hVT;rw [y24] at hatK;have hcI:=hatK.2 7 _ rfl;obtain ⟨ad2,ys,hA2,hyd,hyl,hyK⟩:=y2r (m:=10) (f:=y07) (fun _=>rfl) hfa hfd (by omega);subst hA2;obtain ⟨B2,O2,hBO2⟩:=y14 (m:=10) (f:=y07) (fun _=>rfl) hfa (by omega) (by omega);subst hBO2;rw [y24] at hyK;have hrK:=y8x hyK
  have hsz:(Tryz.prog.info? 52).map (·.size)=some ys.length:=by rw [hyl];exact y8s
  go_upto_region 15 with (first
   |(refine y1a (by rfl) (.tmp 79) (.tmp 82) 88 true (by rfl) Tryz.underlying88 (z0r z7j) (.int .i64 0) y0j gf6 (D.fields) (H.kmap T6.fields) (by first|rfl|simp [Act.eval,Act.put]) ((t,f)) (by first|rfl|simp [Act.eval,Act.put]) (.tuple #[.int .i64 (k:Int),.bool true]) (by rw [hk];rfl) ?_))
  go_upto_region 17 with (fail)
  refine held.begin_ (fun w'=>w'.cell? ⟨g5,17,none⟩=some (.slice (some ⟨B,O,none⟩) D.types.length c)∧w'.cell? ⟨g5,18,none⟩=some (.map (some ga6))∧(Instr.lookup 87 (.map (some ga6)) (.string (str t)) false).run Tryz.prog w'= .ok (.int .i64 (i:Int)) w'∧w'.cell? ⟨B,O+i*17+(7+1),none⟩=some (.slice (some ⟨B2,O2,none⟩) d.fields.length c8)∧w'.rangeAt B2 (O2+k*10) ys) [] (by kernel_rfl) ?_;replace H:=H.drew1;obtain ⟨w49,hq50⟩: ∃x,(wk).drew=x:=⟨_,rfl⟩;rw [hq50] at H ⊢;clear hq50;have hS51:w49.cell? ⟨g5,17,none⟩=some (.slice (some ⟨B,O,none⟩) D.types.length c)∧w49.cell? ⟨g5,18,none⟩=some (.map (some ga6))∧(Instr.lookup 87 (.map (some ga6)) (.string (str t)) false).run Tryz.prog w49= .ok (.int .i64 (i:Int)) w49∧w49.cell? ⟨B,O+i*17+(7+1),none⟩=some (.slice (some ⟨B2,O2,none⟩) d.fields.length c8)∧w49.rangeAt B2 (O2+k*10) ys:=⟨H.kcell T6.a.box T6.a.c17,H.kcell T6.a.box T6.a.c18,(y0p Tryz.underlying87 (y08 Tryz.underlying9) (.int .i64 0) (y0j _) (H.kmap T6.a.at_) t false).trans (by rw [hq];rfl),H.sat.cell hcI,y2m hrK H.sat⟩;refine tk 0 hS51 ?_;refine tk 1 hS51 ?_;refine tk 2 hS51 ?_;refine tk 3 hS51 ?_;refine tk 4 hS51 ?_;refine tk 5 hS51 ?_;refine tk 6 hS51 ?_;refine tk 7 hS51 ?_;refine tk 8 hS51 ?_;refine tk 9 hS51 ?_;refine tk 10 hS51 ?_;refine tk 11 hS51 ?_;refine tk 12 hS51 ?_;refine tk 13 hS51 ?_;refine tk 14 hS51 ?_;refine held.take (i:=15) (v:=_) rfl (by kernel_rfl) (by kernel_rfl) (by kernel_rfl) (by kernel_rfl) (by kernel_rfl) (fun _ _ _ h=>h) (yieldsIf_load_mid (by rfl) 52 (.tmp 103) (by rfl) B2 (O2+k*10) (by first|rfl|simp [Act.eval,Act.put]) (ys) _ (fun w h=>h.2.2.2.2) Tryz.underlying52 rfl hsz) hS51 ?_
  try simp only [Act.put,List.getElem_toArray,List.getElem_cons_zero,List.getElem_cons_succ,List.setIfInBounds_toArray,List.set_cons_zero,List.set_cons_succ]
  refine held.step (i:=16) (by kernel_rfl) rfl (fun Kq hKq=>?_)
  go_simp
  refine (y5s fd ys.toArray H hfm hyd).mono ?_;clear H;rintro e wz ⟨Kz,cs5,rfl,hlez,H,hd5⟩;replace hK:=hlez.trans hK;obtain ⟨E4,e4,E7,e7,hcs5,-,-⟩:=y3m hd5;obtain rfl:cs5= #[.bool fd.note.has,.bool fd.note.block,.string (str fd.note.text),.string (str fd.name),.slice E4 fd.args.length e4,.string (str fd.ty.1),.string (str fd.ty.2),.slice E7 fd.dirs.length e7,.int .i64 fd.line,.int .i64 fd.col]:=Qal.1 hcs5;replace T6:=T6.sat hlez;replace hcI:=At.sat_cell hcI hlez;replace hrK:=y2m hrK hlez;replace H:Hp _ _ _ (_::M):=H
  try go_simp
  have hS52:wz.cell? ⟨g5,17,none⟩=some (.slice (some ⟨B,O,none⟩) D.types.length c)∧wz.cell? ⟨g5,18,none⟩=some (.map (some ga6))∧(Instr.lookup 87 (.map (some ga6)) (.string (str t)) false).run Tryz.prog wz= .ok (.int .i64 (i:Int)) wz∧wz.cell? ⟨B,O+i*17+(7+1),none⟩=some (.slice (some ⟨B2,O2,none⟩) d.fields.length c8)∧wz.rangeAt B2 (O2+k*10) ys:=⟨H.kcell T6.a.box T6.a.c17,H.kcell T6.a.box T6.a.c18,(y0p Tryz.underlying87 (y08 Tryz.underlying9) (.int .i64 0) (y0j _) (H.kmap T6.a.at_) t false).trans (by rw [hq];rfl),H.sat.cell hcI,y2m hrK H.sat⟩;refine hKq.out _ _ (fun _=>hS52) (fun _=>?_);clear hKq Kq;refine held.step (i:=17) (by kernel_rfl) rfl (fun Kq hKq=>?_);refine y3u (by rfl) 52 (.tmp 6) (.tmp 105) (by rfl) g6 0 (by first|rfl|simp [Act.eval,Act.put]) (.agg #[.bool fd.note.has,.bool fd.note.block,.string (str fd.note.text),.string (str fd.name),.slice E4 fd.args.length e4,.string (str fd.ty.1),.string (str fd.ty.2),.slice E7 fd.dirs.length e7,.int .i64 fd.line,.int .i64 fd.col]) (by first|rfl|simp [Act.eval,Act.put]) [.bool fd.note.has,.bool fd.note.block,.string (str fd.note.text),.string (str fd.name),.slice E4 fd.args.length e4,.string (str fd.ty.1),.string (str fd.ty.2),.slice E7 fd.dirs.length e7,.int .i64 fd.line,.int .i64 fd.col] (by rfl) (by simp [Value.oneCell']) (by kernel_rfl) H 0 [.bool false,.bool false,.string ⟨#[]⟩,.string ⟨#[]⟩,.slice none 0 0,.string ⟨#[]⟩,.string ⟨#[]⟩,.slice none 0 0,.int .i64 0,.int .i64 0] [.bool fd.note.has,.bool fd.note.block,.string (str fd.note.text),.string (str fd.name),.slice E4 fd.args.length e4,.string (str fd.ty.1),.string (str fd.ty.2),.slice E7 fd.dirs.length e7,.int .i64 fd.line,.int .i64 fd.col] 52 (by rfl) (Qbn (by rfl)) (by rfl) ?_;clear H;intro w53 H;replace H:Hp _ _ _ (_::M):=H;have hS54:w53.cell? ⟨g5,17,none⟩=some (.slice (some ⟨B,O,none⟩) D.types.length c)∧w53.cell? ⟨g5,18,none⟩=some (.map (some ga6))∧(Instr.lookup 87 (.map (some ga6)) (.string (str t)) false).run Tryz.prog w53= .ok (.int .i64 (i:Int)) w53∧w53.cell? ⟨B,O+i*17+(7+1),none⟩=some (.slice (some ⟨B2,O2,none⟩) d.fields.length c8)∧w53.rangeAt B2 (O2+k*10) ys:=⟨H.kcell T6.a.box T6.a.c17,H.kcell T6.a.box T6.a.c18,(y0p Tryz.underlying87 (y08 Tryz.underlying9) (.int .i64 0) (y0j _) (H.kmap T6.a.at_) t false).trans (by rw [hq];rfl),H.sat.cell hcI,y2m hrK H.sat⟩;refine hKq.out _ _ (fun _=>hS54) (fun _=>?_);clear hKq Kq
  try simp only [Act.put,List.getElem_toArray,List.getElem_cons_zero,List.getElem_cons_succ,List.setIfInBounds_toArray,List.set_cons_zero,List.set_cons_succ]
  refine tk 18 hS54 ?_;refine held.done (by kernel_rfl) ?_ _
  go_wp2_with fail
  refine bodyPost_ret (y0y rfl _ _ g6 52 _ (0,0) _ (by rfl) (H.blkAt (i:=0) rfl) Tryz.underlying52 rfl (by kernel_rfl)) rfl ?_;replace H:=H.sub (Qai _ (Qam _));exact ⟨Kz,_,rfl,hK,H,_,by rw [HR.out];rfl,by rw [HR.out];exact hd5⟩
set_option maxHeartbeats 16000000 in
theorem x61 (v:Value) (t f:Txt) (D:TysD) (w0 w K:World) (M:List Ent) (H:Hp w0 w K M) (hv:Tp K v D) (hW:TyW D) (hkk:y0l D.types t=3) (ht:t=y23 D.schema.roots 1) (hft:f≠y1l) (hfs:f≠y28) (hfu:f≠y76):
  Calls Tryz.prog 41 #[v,.string (str t),.string (str f)] w (Post w0 K M (FldO (y3n D t f))):=by
 have HX:=(show y3n D t f=_ from (if_neg (by rw [hkk];omega)).trans ((if_neg hft).trans ((if_neg (fun h=>hfs h.2.2)).trans ((if_neg (fun h=>hfu h.2.2)).trans (if_neg (by rw [hkk];omega))))));have HRN:=hide (fun (hk:y0x D.fields (t,f)=none)=>HX.trans (by rw [hk]));have HRS:=hide (fun (k i:Nat) (d:DefD) (fd:FieldD) hk hi hd hf=>HX.trans (z7x (k:=k) (i:=i) (d:=d) (fd:=fd) hk hi hd hf));have hs1:=y2j f;have hs2:=y48 f;have hs3:=z2x f;have hs4:=y11 t (y23 D.schema.roots 1);rw [Qa4 hft] at hs1;rw [Qa4 hfs] at hs2;rw [Qa4 hfu] at hs3;rw [Qa5 ht] at hs4;clear hft hfs hfu ht HX;go_enter Tryz.func41,Tryz.ntmps41;have hK:=Sat.refl K
 go_upto_region 1 with (first
  |((with_reducible refine isL ?_);first
   |(refine al z52 6 H ?_;clear H;intro w55 g6 H)))
 go_upto_region 2 with (first
  |(go_at_call 64;refine (y9z _ D _ _ K _ H hv).mono ?_;clear H;rintro e w5 ⟨K5,g5,rfl,hle,H,hT5⟩;replace hK:=hle.trans hK))
 obtain ⟨ga,gd,gf,go,sch,VT,VD,OB,T⟩:=hT5;have hT5:TysK K5 g5 D:=⟨ga,gd,gf,go,sch,VT,VD,OB,T⟩
 go_upto_region 3 with (first
  |(go_at_call 79;refine (y1d t _ g5 ga gd gf go sch VT VD D.schema D.types D.dirs _ _ _ _ H T.a hkk).mono ?_;clear H;rintro e wk ⟨rfl,H⟩))
 go_upto_region 7 with (fail)
 go_upto_region 9 with (first
  |(go_at_call 17;refine (z2g (.pointer (some ⟨g5,0,none⟩)) 1 D _ _ _ _ H hT5.tp hW).mono ?_;clear H;rintro e w7 ⟨K7,rfl,hlew7,H⟩;replace hK:=hlew7.trans hK;replace hT5:=hT5.sat hlew7))
 go_upto_region 14 with (first
  |(go_at_call 17;refine (z2g (.pointer (some ⟨g5,0,none⟩)) 1 D _ _ _ _ H hT5.tp hW).mono ?_;clear H;rintro e w8 ⟨K8,rfl,hlew8,H⟩;replace hK:=hlew8.trans hK;replace hT5:=hT5.sat hlew8))
 obtain ⟨ga6,gd6,gf6,go6,sch6,VT6,VD6,OB6,T6⟩:=hT5;have hcF:=H.kcell T6.a.box T6.a.c21
 cases hk:y0x D.fields (t,f) with
 |none=>
  have HR:=hide (HRN.out hk)
  go_wp2_with (first
   |(refine y1a (by rfl) (.tmp 79) (.tmp 82) 88 true (by rfl) Tryz.underlying88 (z0r z7j) (.int .i64 0) y0j gf6 (D.fields) (H.kmap T6.fields) (by first|rfl|simp [Act.eval,Act.put]) ((t,f)) (by first|rfl|simp [Act.eval,Act.put]) (.tuple #[.int .i64 0,.bool false]) (by rw [hk];rfl) ?_)
   |((with_reducible refine isL ?_);first
    |(refine sA 6 0 H ?_;clear H;intro w61 H)))
  refine bodyPost_ret (y0y rfl _ _ g6 52 _ (0,0) _ (by rfl) (H.blkAt (i:=0) rfl) Tryz.underlying52 rfl (by kernel_rfl)) rfl ?_;replace H:=H.sub (Qai _ (Qam _));exact ⟨K8,_,rfl,hK,H,_,by rw [HR.out];rfl,by rw [HR.out];exact y65⟩
 |some y=>
  obtain ⟨i,d,k,fd,hi,hd,hfd,-,hy⟩:=z7m hW.nd hW.f hk;subst hy;have HR:=hide (HRS.out k i d fd hk hi hd hfd);have hq:=y12 D.types t;rw [hi] at hq;replace hq:y0x (nmap (y0a D.types)) t=some (.int .i64 (i:Int)):=hq;have hlt:=y4x hi
  have hltI:(i:Int)<(D.types.length:Int):=by omega
  have hklt:=(Qac.1 hfd).1
  have hkltI:(k:Int)<(d.fields.length:Int):=by omega
  have hN:=hW.nT;have hdn:=y3h hd;have hfn:=y77 hfd
  have hfm:y1j fd≤9000000:=by omega
  have hTy:=T6.a.types;have hcT:=T6.a.c17;obtain ⟨A,c,hVT,hc1,hc2⟩:=y4h hTy;rw [hVT] at hTy;obtain ⟨ad,xs,hA,hxd,hxl,hatK⟩:=y2r (m:=17) (f:=defL) y0u hTy hd (by omega);subst hA;obtain ⟨B,O,hBO⟩:=y14 (m:=17) (f:=defL) y0u hTy (by omega) (by omega);subst hBO;obtain ⟨A6,c6,A7,c7,A8,c8,A9,c9,A10,c10,A11,c11,A12,c12,A14,c14,hcs,-,-,hfa,-,-,-,-,-⟩:=y0c hxd;subst hcs;subst hVT;rw [y24] at hatK;have hcI:=hatK.2 7 _ rfl;obtain ⟨ad2,ys,hA2,hyd,hyl,hyK⟩:=y2r (m:=10) (f:=y07) (fun _=>rfl) hfa hfd (by omega);subst hA2;obtain ⟨B2,O2,hBO2⟩:=y14 (m:=10) (f:=y07) (fun _=>rfl) hfa (by omega) (by omega);subst hBO2;rw [y24] at hyK;have hrK:=y8x hyK
  have hsz:(Tryz.prog.info? 52).map (·.size)=some ys.length:=by rw [hyl];exact y8s
  go_upto_region 15 with (first
   |(refine y1a (by rfl) (.tmp 79) (.tmp 82) 88 true (by rfl) Tryz.underlying88 (z0r z7j) (.int .i64 0) y0j gf6 (D.fields) (H.kmap T6.fields) (by first|rfl|simp [Act.eval,Act.put]) ((t,f)) (by first|rfl|simp [Act.eval,Act.put]) (.tuple #[.int .i64 (k:Int),.bool true]) (by rw [hk];rfl) ?_))
  go_upto_region 17 with (fail)
  refine held.begin_ (fun w'=>w'.cell? ⟨g5,17,none⟩=some (.slice (some ⟨B,O,none⟩) D.types.length c)∧w'.cell? ⟨g5,18,none⟩=some (.map (some ga6))∧(Instr.lookup 87 (.map (some ga6)) (.string (str t)) false).run Tryz.prog w'= .ok (.int .i64 (i:Int)) w'∧w'.cell? ⟨B,O+i*17+(7+1),none⟩=some (.slice (some ⟨B2,O2,none⟩) d.fields.length c8)∧w'.rangeAt B2 (O2+k*10) ys) [] (by kernel_rfl) ?_;replace H:=H.drew1;obtain ⟨w62,hq63⟩: ∃x,(w8).drew=x:=⟨_,rfl⟩;rw [hq63] at H ⊢;clear hq63;have hS64:w62.cell? ⟨g5,17,none⟩=some (.slice (some ⟨B,O,none⟩) D.types.length c)∧w62.cell? ⟨g5,18,none⟩=some (.map (some ga6))∧(Instr.lookup 87 (.map (some ga6)) (.string (str t)) false).run Tryz.prog w62= .ok (.int .i64 (i:Int)) w62∧w62.cell? ⟨B,O+i*17+(7+1),none⟩=some (.slice (some ⟨B2,O2,none⟩) d.fields.length c8)∧w62.rangeAt B2 (O2+k*10) ys:=⟨H.kcell T6.a.box T6.a.c17,H.kcell T6.a.box T6.a.c18,(y0p Tryz.underlying87 (y08 Tryz.underlying9) (.int .i64 0) (y0j _) (H.kmap T6.a.at_) t false).trans (by rw [hq];rfl),H.sat.cell hcI,y2m hrK H.sat⟩;refine tk 0 hS64 ?_;refine tk 1 hS64 ?_;refine tk 2 hS64 ?_;refine tk 3 hS64 ?_;refine tk 4 hS64 ?_;refine tk 5 hS64 ?_;refine tk 6 hS64 ?_;refine tk 7 hS64 ?_;refine tk 8 hS64 ?_;refine tk 9 hS64 ?_;refine tk 10 hS64 ?_;refine tk 11 hS64 ?_;refine tk 12 hS64 ?_;refine tk 13 hS64 ?_;refine tk 14 hS64 ?_;refine held.take (i:=15) (v:=_) rfl (by kernel_rfl) (by kernel_rfl) (by kernel_rfl) (by kernel_rfl) (by kernel_rfl) (fun _ _ _ h=>h) (yieldsIf_load_mid (by rfl) 52 (.tmp 103) (by rfl) B2 (O2+k*10) (by first|rfl|simp [Act.eval,Act.put]) (ys) _ (fun w h=>h.2.2.2.2) Tryz.underlying52 rfl hsz) hS64 ?_
  try simp only [Act.put,List.getElem_toArray,List.getElem_cons_zero,List.getElem_cons_succ,List.setIfInBounds_toArray,List.set_cons_zero,List.set_cons_succ]
  refine held.step (i:=16) (by kernel_rfl) rfl (fun Kq hKq=>?_)
  go_simp
  refine (y5s fd ys.toArray H hfm hyd).mono ?_;clear H;rintro e wz ⟨Kz,cs5,rfl,hlez,H,hd5⟩;replace hK:=hlez.trans hK;obtain ⟨E4,e4,E7,e7,hcs5,-,-⟩:=y3m hd5;obtain rfl:cs5= #[.bool fd.note.has,.bool fd.note.block,.string (str fd.note.text),.string (str fd.name),.slice E4 fd.args.length e4,.string (str fd.ty.1),.string (str fd.ty.2),.slice E7 fd.dirs.length e7,.int .i64 fd.line,.int .i64 fd.col]:=Qal.1 hcs5;replace T6:=T6.sat hlez;replace hcI:=At.sat_cell hcI hlez;replace hrK:=y2m hrK hlez;replace H:Hp _ _ _ (_::M):=H
  try go_simp
  have hS65:wz.cell? ⟨g5,17,none⟩=some (.slice (some ⟨B,O,none⟩) D.types.length c)∧wz.cell? ⟨g5,18,none⟩=some (.map (some ga6))∧(Instr.lookup 87 (.map (some ga6)) (.string (str t)) false).run Tryz.prog wz= .ok (.int .i64 (i:Int)) wz∧wz.cell? ⟨B,O+i*17+(7+1),none⟩=some (.slice (some ⟨B2,O2,none⟩) d.fields.length c8)∧wz.rangeAt B2 (O2+k*10) ys:=⟨H.kcell T6.a.box T6.a.c17,H.kcell T6.a.box T6.a.c18,(y0p Tryz.underlying87 (y08 Tryz.underlying9) (.int .i64 0) (y0j _) (H.kmap T6.a.at_) t false).trans (by rw [hq];rfl),H.sat.cell hcI,y2m hrK H.sat⟩;refine hKq.out _ _ (fun _=>hS65) (fun _=>?_);clear hKq Kq;refine held.step (i:=17) (by kernel_rfl) rfl (fun Kq hKq=>?_);refine y3u (by rfl) 52 (.tmp 6) (.tmp 105) (by rfl) g6 0 (by first|rfl|simp [Act.eval,Act.put]) (.agg #[.bool fd.note.has,.bool fd.note.block,.string (str fd.note.text),.string (str fd.name),.slice E4 fd.args.length e4,.string (str fd.ty.1),.string (str fd.ty.2),.slice E7 fd.dirs.length e7,.int .i64 fd.line,.int .i64 fd.col]) (by first|rfl|simp [Act.eval,Act.put]) [.bool fd.note.has,.bool fd.note.block,.string (str fd.note.text),.string (str fd.name),.slice E4 fd.args.length e4,.string (str fd.ty.1),.string (str fd.ty.2),.slice E7 fd.dirs.length e7,.int .i64 fd.line,.int .i64 fd.col] (by rfl) (by simp [Value.oneCell']) (by kernel_rfl) H 0 [.bool false,.bool false,.string ⟨#[]⟩,.string ⟨#[]⟩,.slice none 0 0,.string ⟨#[]⟩,.string ⟨#[]⟩,.slice none 0 0,.int .i64 0,.int .i64 0] [.bool fd.note.has,.bool fd.note.block,.string (str fd.note.text),.string (str fd.name),.slice E4 fd.args.length e4,.string (str fd.ty.1),.string (str fd.ty.2),.slice E7 fd.dirs.length e7,.int .i64 fd.line,.int .i64 fd.col] 52 (by rfl) (Qbn (by rfl)) (by rfl) ?_;clear H;intro w66 H;replace H:Hp _ _ _ (_::M):=H;have hS67:w66.cell? ⟨g5,17,none⟩=some (.slice (some ⟨B,O,none⟩) D.types.length c)∧w66.cell? ⟨g5,18,none⟩=some (.map (some ga6))∧(Instr.lookup 87 (.map (some ga6)) (.string (str t)) false).run Tryz.prog w66= .ok (.int .i64 (i:Int)) w66∧w66.cell? ⟨B,O+i*17+(7+1),none⟩=some (.slice (some ⟨B2,O2,none⟩) d.fields.length c8)∧w66.rangeAt B2 (O2+k*10) ys:=⟨H.kcell T6.a.box T6.a.c17,H.kcell T6.a.box T6.a.c18,(y0p Tryz.underlying87 (y08 Tryz.underlying9) (.int .i64 0) (y0j _) (H.kmap T6.a.at_) t false).trans (by rw [hq];rfl),H.sat.cell hcI,y2m hrK H.sat⟩;refine hKq.out _ _ (fun _=>hS67) (fun _=>?_);clear hKq Kq
  try simp only [Act.put,List.getElem_toArray,List.getElem_cons_zero,List.getElem_cons_succ,List.setIfInBounds_toArray,List.set_cons_zero,List.set_cons_succ]
  refine tk 18 hS67 ?_;refine held.done (by kernel_rfl) ?_ _
  go_wp2_with fail
  refine bodyPost_ret (y0y rfl _ _ g6 52 _ (0,0) _ (by rfl) (H.blkAt (i:=0) rfl) Tryz.underlying52 rfl (by kernel_rfl)) rfl ?_;replace H:=H.sub (Qai _ (Qam _));exact ⟨Kz,_,rfl,hK,H,_,by rw [HR.out];rfl,by rw [HR.out];exact hd5⟩
set_option maxHeartbeats 16000000 in
theorem q07 (v:Value) (t f:Txt) (D:TysD) (w0 w K:World) (M:List Ent) (H:Hp w0 w K M) (hv:Tp K v D) (hW:TyW D) (hkk:y0l D.types t=3) (ht:t≠y23 D.schema.roots 1) (hft:f≠y1l):
  Calls Tryz.prog 41 #[v,.string (str t),.string (str f)] w (Post w0 K M (FldO (y3n D t f))):=by
 have HX:=(show y3n D t f=_ from (if_neg (by rw [hkk];omega)).trans ((if_neg hft).trans ((if_neg (fun h=>ht h.2.1)).trans ((if_neg (fun h=>ht h.2.1)).trans (if_neg (by rw [hkk];omega))))));have HRN:=hide (fun (hk:y0x D.fields (t,f)=none)=>HX.trans (by rw [hk]));have HRS:=hide (fun (k i:Nat) (d:DefD) (fd:FieldD) hk hi hd hf=>HX.trans (z7x (k:=k) (i:=i) (d:=d) (fd:=fd) hk hi hd hf));have hs1:=y2j f;have hs4:=y11 t (y23 D.schema.roots 1);rw [Qa4 hft] at hs1;rw [Qa4 ht] at hs4;clear hft ht HX;go_enter Tryz.func41,Tryz.ntmps41;have hK:=Sat.refl K
 go_upto_region 1 with (first
  |((with_reducible refine isL ?_);first
   |(refine al z52 6 H ?_;clear H;intro w68 g6 H)))
 go_upto_region 2 with (first
  |(go_at_call 64;refine (y9z _ D _ _ K _ H hv).mono ?_;clear H;rintro e w5 ⟨K5,g5,rfl,hle,H,hT5⟩;replace hK:=hle.trans hK))
 obtain ⟨ga,gd,gf,go,sch,VT,VD,OB,T⟩:=hT5;have hT5:TysK K5 g5 D:=⟨ga,gd,gf,go,sch,VT,VD,OB,T⟩
 go_upto_region 3 with (first
  |(go_at_call 79;refine (y1d t _ g5 ga gd gf go sch VT VD D.schema D.types D.dirs _ _ _ _ H T.a hkk).mono ?_;clear H;rintro e wk ⟨rfl,H⟩))
 go_upto_region 7 with (fail)
 go_upto_region 9 with (first
  |(go_at_call 17;refine (z2g (.pointer (some ⟨g5,0,none⟩)) 1 D _ _ _ _ H hT5.tp hW).mono ?_;clear H;rintro e w7 ⟨K7,rfl,hlew7,H⟩;replace hK:=hlew7.trans hK;replace hT5:=hT5.sat hlew7))
 go_upto_region 14 with (first
  |(go_at_call 17;refine (z2g (.pointer (some ⟨g5,0,none⟩)) 1 D _ _ _ _ H hT5.tp hW).mono ?_;clear H;rintro e w8 ⟨K8,rfl,hlew8,H⟩;replace hK:=hlew8.trans hK;replace hT5:=hT5.sat hlew8))
 obtain ⟨ga6,gd6,gf6,go6,sch6,VT6,VD6,OB6,T6⟩:=hT5;have hcF:=H.kcell T6.a.box T6.a.c21
 cases hk:y0x D.fields (t,f) with
 |none=>
  have HR:=hide (HRN.out hk)
  go_wp2_with (first
   |(refine y1a (by rfl) (.tmp 79) (.tmp 82) 88 true (by rfl) Tryz.underlying88 (z0r z7j) (.int .i64 0) y0j gf6 (D.fields) (H.kmap T6.fields) (by first|rfl|simp [Act.eval,Act.put]) ((t,f)) (by first|rfl|simp [Act.eval,Act.put]) (.tuple #[.int .i64 0,.bool false]) (by rw [hk];rfl) ?_)
   |((with_reducible refine isL ?_);first
    |(refine sA 6 0 H ?_;clear H;intro w74 H)))
  refine bodyPost_ret (y0y rfl _ _ g6 52 _ (0,0) _ (by rfl) (H.blkAt (i:=0) rfl) Tryz.underlying52 rfl (by kernel_rfl)) rfl ?_;replace H:=H.sub (Qai _ (Qam _));exact ⟨K8,_,rfl,hK,H,_,by rw [HR.out];rfl,by rw [HR.out];exact y65⟩
 |some y=>
  obtain ⟨i,d,k,fd,hi,hd,hfd,-,hy⟩:=z7m hW.nd hW.f hk;subst hy;have HR:=hide (HRS.out k i d fd hk hi hd hfd);have hq:=y12 D.types t;rw [hi] at hq;replace hq:y0x (nmap (y0a D.types)) t=some (.int .i64 (i:Int)):=hq;have hlt:=y4x hi
  have hltI:(i:Int)<(D.types.length:Int):=by omega
  have hklt:=(Qac.1 hfd).1
  have hkltI:(k:Int)<(d.fields.length:Int):=by omega
  have hN:=hW.nT;have hdn:=y3h hd;have hfn:=y77 hfd
  have hfm:y1j fd≤9000000:=by omega
  have hTy:=T6.a.types;have hcT:=T6.a.c17;obtain ⟨A,c,hVT,hc1,hc2⟩:=y4h hTy;rw [hVT] at hTy;obtain ⟨ad,xs,hA,hxd,hxl,hatK⟩:=y2r (m:=17) (f:=defL) y0u hTy hd (by omega);subst hA;obtain ⟨B,O,hBO⟩:=y14 (m:=17) (f:=defL) y0u hTy (by omega) (by omega);subst hBO;obtain ⟨A6,c6,A7,c7,A8,c8,A9,c9,A10,c10,A11,c11,A12,c12,A14,c14,hcs,-,-,hfa,-,-,-,-,-⟩:=y0c hxd;subst hcs;subst hVT;rw [y24] at hatK;have hcI:=hatK.2 7 _ rfl;obtain ⟨ad2,ys,hA2,hyd,hyl,hyK⟩:=y2r (m:=10) (f:=y07) (fun _=>rfl) hfa hfd (by omega);subst hA2;obtain ⟨B2,O2,hBO2⟩:=y14 (m:=10) (f:=y07) (fun _=>rfl) hfa (by omega) (by omega);subst hBO2;rw [y24] at hyK;have hrK:=y8x hyK
  have hsz:(Tryz.prog.info? 52).map (·.size)=some ys.length:=by rw [hyl];exact y8s
  go_upto_region 15 with (first
   |(refine y1a (by rfl) (.tmp 79) (.tmp 82) 88 true (by rfl) Tryz.underlying88 (z0r z7j) (.int .i64 0) y0j gf6 (D.fields) (H.kmap T6.fields) (by first|rfl|simp [Act.eval,Act.put]) ((t,f)) (by first|rfl|simp [Act.eval,Act.put]) (.tuple #[.int .i64 (k:Int),.bool true]) (by rw [hk];rfl) ?_))
  go_upto_region 17 with (fail)
  refine held.begin_ (fun w'=>w'.cell? ⟨g5,17,none⟩=some (.slice (some ⟨B,O,none⟩) D.types.length c)∧w'.cell? ⟨g5,18,none⟩=some (.map (some ga6))∧(Instr.lookup 87 (.map (some ga6)) (.string (str t)) false).run Tryz.prog w'= .ok (.int .i64 (i:Int)) w'∧w'.cell? ⟨B,O+i*17+(7+1),none⟩=some (.slice (some ⟨B2,O2,none⟩) d.fields.length c8)∧w'.rangeAt B2 (O2+k*10) ys) [] (by kernel_rfl) ?_;replace H:=H.drew1;obtain ⟨w75,hq76⟩: ∃x,(w8).drew=x:=⟨_,rfl⟩;rw [hq76] at H ⊢;clear hq76;have hS77:w75.cell? ⟨g5,17,none⟩=some (.slice (some ⟨B,O,none⟩) D.types.length c)∧w75.cell? ⟨g5,18,none⟩=some (.map (some ga6))∧(Instr.lookup 87 (.map (some ga6)) (.string (str t)) false).run Tryz.prog w75= .ok (.int .i64 (i:Int)) w75∧w75.cell? ⟨B,O+i*17+(7+1),none⟩=some (.slice (some ⟨B2,O2,none⟩) d.fields.length c8)∧w75.rangeAt B2 (O2+k*10) ys:=⟨H.kcell T6.a.box T6.a.c17,H.kcell T6.a.box T6.a.c18,(y0p Tryz.underlying87 (y08 Tryz.underlying9) (.int .i64 0) (y0j _) (H.kmap T6.a.at_) t false).trans (by rw [hq];rfl),H.sat.cell hcI,y2m hrK H.sat⟩;refine tk 0 hS77 ?_;refine tk 1 hS77 ?_;refine tk 2 hS77 ?_;refine tk 3 hS77 ?_;refine tk 4 hS77 ?_;refine tk 5 hS77 ?_;refine tk 6 hS77 ?_;refine tk 7 hS77 ?_;refine tk 8 hS77 ?_;refine tk 9 hS77 ?_;refine tk 10 hS77 ?_;refine tk 11 hS77 ?_;refine tk 12 hS77 ?_;refine tk 13 hS77 ?_;refine tk 14 hS77 ?_;refine held.take (i:=15) (v:=_) rfl (by kernel_rfl) (by kernel_rfl) (by kernel_rfl) (by kernel_rfl) (by kernel_rfl) (fun _ _ _ h=>h) (yieldsIf_load_mid (by rfl) 52 (.tmp 103) (by rfl) B2 (O2+k*10) (by first|rfl|simp [Act.eval,Act.put]) (ys) _ (fun w h=>h.2.2.2.2) Tryz.underlying52 rfl hsz) hS77 ?_
  try simp only [Act.put,List.getElem_toArray,List.getElem_cons_zero,List.getElem_cons_succ,List.setIfInBounds_toArray,List.set_cons_zero,List.set_cons_succ]
  refine held.step (i:=16) (by kernel_rfl) rfl (fun Kq hKq=>?_)
  go_simp
  refine (y5s fd ys.toArray H hfm hyd).mono ?_;clear H;rintro e wz ⟨Kz,cs5,rfl,hlez,H,hd5⟩;replace hK:=hlez.trans hK;obtain ⟨E4,e4,E7,e7,hcs5,-,-⟩:=y3m hd5;obtain rfl:cs5= #[.bool fd.note.has,.bool fd.note.block,.string (str fd.note.text),.string (str fd.name),.slice E4 fd.args.length e4,.string (str fd.ty.1),.string (str fd.ty.2),.slice E7 fd.dirs.length e7,.int .i64 fd.line,.int .i64 fd.col]:=Qal.1 hcs5;replace T6:=T6.sat hlez;replace hcI:=At.sat_cell hcI hlez;replace hrK:=y2m hrK hlez;replace H:Hp _ _ _ (_::M):=H
  try go_simp
  have hS78:wz.cell? ⟨g5,17,none⟩=some (.slice (some ⟨B,O,none⟩) D.types.length c)∧wz.cell? ⟨g5,18,none⟩=some (.map (some ga6))∧(Instr.lookup 87 (.map (some ga6)) (.string (str t)) false).run Tryz.prog wz= .ok (.int .i64 (i:Int)) wz∧wz.cell? ⟨B,O+i*17+(7+1),none⟩=some (.slice (some ⟨B2,O2,none⟩) d.fields.length c8)∧wz.rangeAt B2 (O2+k*10) ys:=⟨H.kcell T6.a.box T6.a.c17,H.kcell T6.a.box T6.a.c18,(y0p Tryz.underlying87 (y08 Tryz.underlying9) (.int .i64 0) (y0j _) (H.kmap T6.a.at_) t false).trans (by rw [hq];rfl),H.sat.cell hcI,y2m hrK H.sat⟩;refine hKq.out _ _ (fun _=>hS78) (fun _=>?_);clear hKq Kq;refine held.step (i:=17) (by kernel_rfl) rfl (fun Kq hKq=>?_);refine y3u (by rfl) 52 (.tmp 6) (.tmp 105) (by rfl) g6 0 (by first|rfl|simp [Act.eval,Act.put]) (.agg #[.bool fd.note.has,.bool fd.note.block,.string (str fd.note.text),.string (str fd.name),.slice E4 fd.args.length e4,.string (str fd.ty.1),.string (str fd.ty.2),.slice E7 fd.dirs.length e7,.int .i64 fd.line,.int .i64 fd.col]) (by first|rfl|simp [Act.eval,Act.put]) [.bool fd.note.has,.bool fd.note.block,.string (str fd.note.text),.string (str fd.name),.slice E4 fd.args.length e4,.string (str fd.ty.1),.string (str fd.ty.2),.slice E7 fd.dirs.length e7,.int .i64 fd.line,.int .i64 fd.col] (by rfl) (by simp [Value.oneCell']) (by kernel_rfl) H 0 [.bool false,.bool false,.string ⟨#[]⟩,.string ⟨#[]⟩,.slice none 0 0,.string ⟨#[]⟩,.string ⟨#[]⟩,.slice none 0 0,.int .i64 0,.int .i64 0] [.bool fd.note.has,.bool fd.note.block,.string (str fd.note.text),.string (str fd.name),.slice E4 fd.args.length e4,.string (str fd.ty.1),.string (str fd.ty.2),.slice E7 fd.dirs.length e7,.int .i64 fd.line,.int .i64 fd.col] 52 (by rfl) (Qbn (by rfl)) (by rfl) ?_;clear H;intro w79 H;replace H:Hp _ _ _ (_::M):=H;have hS80:w79.cell? ⟨g5,17,none⟩=some (.slice (some ⟨B,O,none⟩) D.types.length c)∧w79.cell? ⟨g5,18,none⟩=some (.map (some ga6))∧(Instr.lookup 87 (.map (some ga6)) (.string (str t)) false).run Tryz.prog w79= .ok (.int .i64 (i:Int)) w79∧w79.cell? ⟨B,O+i*17+(7+1),none⟩=some (.slice (some ⟨B2,O2,none⟩) d.fields.length c8)∧w79.rangeAt B2 (O2+k*10) ys:=⟨H.kcell T6.a.box T6.a.c17,H.kcell T6.a.box T6.a.c18,(y0p Tryz.underlying87 (y08 Tryz.underlying9) (.int .i64 0) (y0j _) (H.kmap T6.a.at_) t false).trans (by rw [hq];rfl),H.sat.cell hcI,y2m hrK H.sat⟩;refine hKq.out _ _ (fun _=>hS80) (fun _=>?_);clear hKq Kq
  try simp only [Act.put,List.getElem_toArray,List.getElem_cons_zero,List.getElem_cons_succ,List.setIfInBounds_toArray,List.set_cons_zero,List.set_cons_succ]
  refine tk 18 hS80 ?_;refine held.done (by kernel_rfl) ?_ _
  go_wp2_with fail
  refine bodyPost_ret (y0y rfl _ _ g6 52 _ (0,0) _ (by rfl) (H.blkAt (i:=0) rfl) Tryz.underlying52 rfl (by kernel_rfl)) rfl ?_;replace H:=H.sub (Qai _ (Qam _));exact ⟨Kz,_,rfl,hK,H,_,by rw [HR.out];rfl,by rw [HR.out];exact hd5⟩
theorem q6x (v:Value) (t f:Txt) (D:TysD) (w0 w K:World) (M:List Ent) (H:Hp w0 w K M) (hv:Tp K v D) (hW:TyW D):
  Calls Tryz.prog 41 #[v,.string (str t),.string (str f)] w (Post w0 K M (FldO (y3n D t f))):=by
 by_cases h3:y0l D.types t=3
 ·by_cases hft:f=y1l
  ·exact y53 v t f 3 D w0 w K M H hv hW h3 (.inl rfl) hft
  ·by_cases ht:t=y23 D.schema.roots 1
   ·by_cases hfs:f=y28
    ·exact x0g v t f D w0 w K M H hv hW h3 ht hfs
    ·by_cases hfu:f=y76
     ·exact x60 v t f D w0 w K M H hv hW h3 ht hfu
     ·exact x61 v t f D w0 w K M H hv hW h3 ht hft hfs hfu
   ·exact q07 v t f D w0 w K M H hv hW h3 ht hft
 ·by_cases h4:y0l D.types t=4
  ·by_cases hft:f=y1l
   ·exact y53 v t f 4 D w0 w K M H hv hW h4 (.inr (.inl rfl)) hft
   ·exact x2j v t f D w0 w K M H hv hW h4 hft
  ·by_cases h5:y0l D.types t=5
   ·by_cases hft:f=y1l
    ·exact y53 v t f 5 D w0 w K M H hv hW h5 (.inr (.inr rfl)) hft
    ·exact x2i v t f D w0 w K M H hv hW h5 hft
   ·exact q4e v t f _ D w0 w K M H hv hW rfl h3 h4 h5
theorem q8p (src:Txt) (defs:List DefD) (hp:z68 src defs) (w0 w K:World) (M:List Ent) (H:Hp w0 w K M):
  Calls Tryz.prog 13 #[.string (str src)] w fun e w'=>∃K' A c,e= .returned (.slice A defs.length c)∧Sat K' K∧Hp w0 w' K' M∧RD K' (.list defs.length (y0q defs)) (.slice A defs.length c):=x8p H hp rfl
theorem q6y {l:List Txt} {x:Txt} (h:l.Perm [x]):l=[x]:=List.perm_singleton.1 h
def z7y:Txt:=List.append [101,120,116,101,110,100,32,116,121,112,101,32,81,117,101,114,121,123,98,58,91,73,110,116,33,93,33,125,32,116,121,112,101,32,81,117,101,114,121] [123,97,58,73,110,116,125,32,116,121,112,101,32,81,117,101,114,121,123,99,58,73,110,116,125,32,117,110,105,111,110,32,85,61,81,117,101,114,121]
def x0h:List TokD:=(y5a z7y).getD []
def y6g:List DefD:=(y3t x0h 100 50 100 0).getD []
theorem x0i:z68 z7y y6g:=
 ⟨Qa6 (by kernel_rfl),x0h,40,40,3000,100,50,by kernel_rfl,Qa6 (by kernel_rfl),by omega,by kernel_rfl,by omega,by kernel_rfl⟩
theorem q08:y0e y6g≤1000:=Qa6 (by kernel_rfl)
def y4q:Txt:=[81,117,101,114,121]
def uT:Txt:=[85]
def D0:TysD:=y3x y6g
theorem D0_W:TyW D0:=x3w y6g (by have:=q08;omega)
theorem q6z:y23 D0.schema.roots 1=y4q:=by kernel_rfl
def Q0:DefD:=(y51 D0.types y4q).getD z7r
def F0:FieldD:=Q0.fields.getD 0 z7w
def F1:FieldD:=Q0.fields.getD 1 z7w
theorem q09:y51 D0.types y4q=some Q0:=by kernel_rfl
theorem x0j:Q0.fields=[F0,F1]:=by kernel_rfl
theorem q8q:Q0.fields.length=2:=by rw [x0j];rfl
theorem q8r:(y62 D0.objects uT).map (·.1)=[y4q]:=by kernel_rfl
theorem q89:z1q D0 y4q uT=true:=by kernel_rfl
theorem q8s:z1q D0 uT y4q=false:=by kernel_rfl
set_option maxHeartbeats 16000000 in
theorem q1a (w0 w K:World) (M:List Ent) (H:Hp w0 w K M):
  Calls Tryz.prog 24 #[] w fun e w'=>∃K',e= .returned (.bool true)∧Sat K' K∧Hp w0 w' K' M:=by
 have hK:=Sat.refl K
 have hq:((str y4q).toList==[81,117,101,114,121])=true:=by kernel_rfl
 have hn0:((str F0.name).toList==[97])=true:=by kernel_rfl
 have hn1:((str F1.ty.2).toList==[33,93,33])=true:=by kernel_rfl
 go_enter Tryz.func24,Tryz.ntmps24
 go_upto_region 4 with (first
  |(go_at_call 13;refine (q8p z7y y6g x0i _ _ _ _ H).mono ?_;clear H;rintro e w1 ⟨K1,Ad,cd,rfl,hle1,H,hd⟩;replace hK:=hle1.trans hK)
  |(go_at_call 14;refine (z7q y6g _ cd Ad _ _ _ _ H rfl hd (by have:=q08;omega)).mono ?_;clear H;rintro e w2 ⟨K2,g,rfl,hle2,H,hT⟩;replace hd:=hd.sat hle2;replace hK:=hle2.trans hK)
  |(go_at_call 17;refine (z2g (.pointer (some ⟨g,0,none⟩)) 1 D0 _ _ _ _ H hT.tp D0_W).mono ?_;clear H;rintro e w3 ⟨K3,rfl,hle3,H⟩;replace hd:=hd.sat hle3;replace hT:=hT.sat hle3;replace hK:=hle3.trans hK;rw [q6z]))
 go_upto_region 5 with (first
  |(go_at_call 19;refine (q8k (.pointer (some ⟨g,0,none⟩)) y4q D0 _ _ _ _ H hT.tp D0_W).mono ?_;clear H;rintro e w4 ⟨K4,v4,rfl,hle4,H,cs4,rfl,hd4⟩;replace hd:=hd.sat hle4;replace hT:=hT.sat hle4;replace hK:=hle4.trans hK;simp only [q09,Option.getD_some] at hd4;rw [q09];obtain ⟨B6,e6,B7,e7,B8,e8,B9,e9,B10,e10,B11,e11,B12,e12,B14,e14,hcs4,-,-,df,-,-,-,-,-⟩:=y0c hd4;rw [q8q] at hcs4 df;rw [x0j] at df;obtain ⟨ad0,xs0,hB8,hx0,-,hat0⟩:=y2r (m:=10) (f:=y07) (k:=0) (fun _=>rfl) df rfl (by omega);subst hB8;obtain ⟨bf,of,hbo⟩:=y14 (m:=10) (f:=y07) (fun _=>rfl) df (by simp) (by omega);subst hbo;obtain ⟨ad1,xs1,hB9,hx1,-,hat1⟩:=y2r (m:=10) (f:=y07) (k:=1) (fun _=>rfl) df rfl (by omega);injection hB9 with hB9;subst hB9;obtain rfl:cs4= #[.int .i64 Q0.kind,.bool Q0.ext,.bool Q0.note.has,.bool Q0.note.block,.string (str Q0.note.text),.string (str Q0.name),.slice B6 Q0.ifaces.length e6,.slice B7 Q0.dirs.length e7,.slice (some ⟨bf,of,none⟩) 2 e8,.slice B9 Q0.inputs.length e9,.slice B10 Q0.members.length e10,.slice B11 Q0.values.length e11,.slice B12 Q0.roots.length e12,.bool Q0.rep,.slice B14 Q0.places.length e14,.int .i64 Q0.line,.int .i64 Q0.col]:=Qal.1 hcs4)
  |((with_reducible refine isL ?_);first
   |(refine al z43 2 H ?_;clear H;intro w5 g2 H)
   |(refine sA 2 0 H ?_;clear H;intro w7 H)))
 obtain ⟨Af0,cf0,Ag0,cg0,hx0e,-,-⟩:=y3m hx0;obtain ⟨Af1,cf1,Ag1,cg1,hx1e,-,-⟩:=y3m hx1;subst hx0e hx1e;rw [y24] at hat0 hat1;have f0:=H.sat.cell ((y8x hat0) 3 _ rfl);have f1:=H.sat.cell ((y8x hat1) 6 _ rfl);simp only [Nat.zero_mul,Nat.add_zero,Nat.one_mul] at f0 f1;clear hd4 hcs4 df hx0 hx1 hat0 hat1;have:=H.c 0 8
 go_upto_region 8 with (first
  |(go_at_call 27;refine (x6r (.pointer (some ⟨g,0,none⟩)) uT D0 _ _ _ _ H hT.tp D0_W).mono ?_;clear H;rintro e w7 ⟨K7,l7,v7,rfl,hle7,H,hl7,hp7,-⟩;replace hd:=hd.sat hle7;replace hT:=hT.sat hle7;replace hK:=hle7.trans hK;rw [q8r] at hp7;obtain rfl:=q6y hp7;replace hl7:RD K7 (.list 1 (y03 [y4q])) v7:=hl7;obtain ⟨A7,c7,hv7,-,-⟩:=y4h hl7;subst hv7;obtain ⟨ad7,xs7,hA7,hx7,-,hat7⟩:=y2r (m:=1) (f:=fun x=>[str' x]) (l:=[y4q]) (k:=0) (fun _=>rfl) hl7 rfl (by omega);subst hA7;obtain ⟨b7,o7,hbo7⟩:=y14 (m:=1) (f:=fun x=>[str' x]) (l:=[y4q]) (fun _=>rfl) hl7 (by simp) (by omega);subst hbo7;have:=H.c 0 8))
 have x7:xs7=[.string (str y4q)]:=by
  obtain ⟨r0,e0,h0⟩:=DatL.lit_inv hx7;rw [e0,h0.nil_inv]
 subst x7;rw [y24] at hat7;have f7:=H.sat.cell ((y8x hat7) 0 _ rfl);simp only [Nat.zero_mul,Nat.add_zero] at f7;clear hl7 hx7 hat7 hp7 f0 f1;have mk1:=True.intro
 go_wp2_with (first
  |(go_at_call 37;clear mk1;refine (x3z (.pointer (some ⟨g,0,none⟩)) y4q uT D0 _ _ _ _ H hT.tp D0_W).mono ?_;clear H;rintro e w8 ⟨K8,rfl,hle8,H⟩;replace hT:=hT.sat hle8;replace hK:=hle8.trans hK;rw [q89])
  |(go_at_call 37;refine (x3z (.pointer (some ⟨g,0,none⟩)) uT y4q D0 _ _ _ _ H hT.tp D0_W).mono ?_;clear H;rintro e w9 ⟨K9,rfl,hle9,H⟩;replace hT:=hT.sat hle9;replace hK:=hle9.trans hK;rw [q8s]))
 go_ret;exact ⟨_,rfl,hK,H.tail⟩
set_option maxHeartbeats 40000000
def x2k (k:Int):Bool:=k==3||k==4||k==5
section
variable {w0 w K : World} {M : List Ent} {g : Nat} {s : DefD} {ts ds : List DefD}
theorem x2l (op:Int) (hT:RfK K g s ts ds) (hN:defN s≤9000000) (H:Hp w0 w K M) {r:Txt} (hr:y23 s.roots op=r):
  Calls Tryz.prog 84 #[.pointer (some ⟨g,0,none⟩),.int .i64 op] w fun e w'=>e= .returned (.string (str r))∧w'=w:=by
 obtain ⟨o,AT,AD,cT,cD,sch,hb,hs,-,-⟩:=hT;obtain ⟨A6,c6,A7,c7,A8,c8,A9,c9,A10,c10,A11,c11,A12,c12,A14,c14,rfl,-,-,-,-,-,-,hd,-⟩:=y0c hs;have hb:K.heap[g]?=some (.cells _ _ _):=hb
 have hl:s.roots.length≤9000000:=by unfold defN at hN;omega
 obtain ⟨rs,hrs⟩: ∃n,s.roots=n:=⟨_,rfl⟩;rw [hrs] at hb hd hl hr;obtain ⟨n,hn⟩: ∃n,rs.length=n:=⟨_,rfl⟩;rw [hn] at hb hd hl;have HN:=hide hn;have HR:=hide hr;clear hn hr hrs hs hN;go_enter Tryz.func84,Tryz.ntmps84
 go_wp2_with fail
 go_loopw [5] (fun i wr=>∃k:Nat,k≤n∧i= .int .i64 k∧Hid ((rs.take k).find? (fun r=>r.op==op)=none)∧wr=w) (fun i _=>n - (intOf i).toNat)
 case atStart=>exact ⟨0,Qak _,rfl,rfl,rfl⟩
 case round=>
  obtain ⟨k,hk,rfl,hno,rfl⟩:=hrel;by_cases hlt:k<n
  ·obtain ⟨d,ad,us,hx,rfl,hxl,hat⟩:=el_k (m:=4) (f:=z0b) (fun _=>rfl) hd (by rw [HN.out];exact hlt) (by decide);obtain ⟨hkI,hwr⟩:=wr_k hlt hl;obtain ⟨r0,rfl,h0⟩:=hxl.lit_inv;obtain ⟨r1,rfl,h1⟩:=h0.lit_inv;obtain ⟨r2,rfl,h2⟩:=h1.lit_inv;obtain ⟨r3,rfl,h3⟩:=h2.lit_inv;obtain rfl:=h3.nil_inv;have htk:=y0n hx;clear hxl h0 h1 h2 h3;by_cases he:(d.op==op)=true
   ·have hr:r=d.type:=by
     rw [←HR.out];unfold y23;rw [←List.take_append_drop (k+1) rs,Qby,htk,Qby,hno.out];simp [he]
    subst hr;clear hx htk hno HR
    go_wp2_with (refine oL H ?_)
    go_ret;exact ⟨rfl,rfl⟩
   ·replace he:(d.op==op)=false:=by simpa using he
    have HNX:Hid ((rs.take (k+1)).find? (fun r=>r.op==op)=none):=by
     show _=_
     rw [htk,Qby,hno.out];simp [he]
    clear hx htk hno
    go_wp2_with (refine oL H ?_)
    go_roundw
    case rel=>exact ⟨k+1,by omega,by go_num,HNX,trivial⟩
    case measure=>simp [intOf];omega
  ·obtain rfl:n=k:=by omega
   have hno:=hno.out;rw [Qaj (by rw [HN.out];exact Qab _)] at hno
   have hr:r=[]:=by rw [←HR.out];unfold y23;rw [hno];rfl
   subst hr;clear hno HR
   go_wp2_with (refine oL H ?_)
   go_ret;exact ⟨rfl,rfl⟩
theorem x0k (k:Int) (H:Hp w0 w K M):Calls Tryz.prog 80 #[.int .i64 k] w fun e w'=>e= .returned (.bool (x2k k))∧w'=w:=by
 unfold x2k;go_enter Tryz.func80,Tryz.ntmps80
 cases h3:k==3<;>cases h4:k==4<;>cases h5:k==5<;>(go_wp2_with fail;go_ret;exact ⟨rfl,rfl⟩)
end
section
variable {w0 w K : World} {M : List Ent} {g : Nat}
theorem x38 {n c:Nat} {A:Option Addr} {l:List Txt} (H:Hp w0 w K (.row 9 1 (.slice A n c) n (l.map sv)::M)): ∃K',Sat K' K∧Hp w0 w K' M∧RD K' (.list n (y03 l)) (.slice A n c):=
 H.freezeRow (x9z l)
end
theorem q8t {ts:List DefD} {x:Txt} {d:DefD} (h:(y51 ts x).getD z7r=d) (hN:y0e ts≤8000000):defN d≤9000000:=by
 subst h
 cases hq:y51 ts x with
 |none=>simp only [Option.getD_none];exact Qa6 (by kernel_rfl)
 |some d=>
  obtain ⟨_,i,hi,_⟩:=x32 (show z2k ts x=some d from hq);have:=y64 hi;simp only [Option.getD_some];omega
section
variable {w0 w K : World} {M : List Ent} {g : Nat}
theorem x62 (d:DefD) {cs es:Array Value} (hn:defN d≤9000000) (hd:RL K (defL d) cs.toList) (he:RL K (defL d) es.toList) (H:Hp w0 w K M):
  Calls Tryz.prog 46 #[.agg cs,.agg es] w fun e w'=>∃K',e= .returned (.bool true)∧Sat K' K∧Hp w0 w' K' M:=by
 obtain ⟨A6,c6,A7,c7,A8,c8,A9,c9,A10,c10,A11,c11,A12,c12,A14,c14,hcs,-⟩:=y0c hd;obtain rfl:cs= #[_,_,_,_,_,_,_,_,_,_,_,_,_,_,_,_,_]:=Qal.1 hcs;obtain ⟨B6,b6,B7,b7,B8,b8,B9,b9,B10,b10,B11,b11,B12,b12,B14,b14,hes,-⟩:=y0c he;obtain rfl:es= #[_,_,_,_,_,_,_,_,_,_,_,_,_,_,_,_,_]:=Qal.1 hes
 have hn1:y0e [d]≤9000000:=by simp only [y0e,sumN];omega
 have hq:y4b (x1a true) [d] [d]=true:=y1z (x5c true) [d];clear hcs hes;go_enter Tryz.func46,Tryz.ntmps46
 go_upto_region 1 with (first|(refine oA 2 H ?_;clear H;intro w g2 H)|(refine oA 3 H ?_;clear H;intro w g3 H))
 refine rB [] H ?_;clear H;intro w H;refine rT 0 H ?_;refine rT 2 H ?_;refine rC 1 (q4o d hd H) ?_;clear H;rintro e w ⟨K1,g5,rfl,h1,H,d1⟩;refine rX H ?_;refine rC 3 (q4o d (he.sat h1) H) ?_;clear H;rintro e w ⟨K2,g6,rfl,h2,H,d2⟩;have h21:=h2.trans h1;refine rX H ?_;refine rC 4 (x1b true hn1 hq (d1.sat h2) d2 H) ?_;clear H;rintro e w ⟨rfl,H⟩;refine rX H ?_;refine rT 5 H ?_;refine rE ?_
 go_wp2_with fail
 go_ret;exact ⟨rfl,K2,h21,H.fin⟩
end
end Go.Proofs.YtbpgkkoeehopjaaGreat.hp
namespace Go.Proofs.YtbpgkkoeehopjaaGreat.hp
open Go.RowKit lex gram rd tree dat ty
def UniD (d:DefD):Prop:=d.kind=5→d.fields=[]
theorem q4f {toks:List TokD} {L f:Nat} {h:NoteD×Bool×TokD×Nat} {q:DefD×Nat} (hb:y4u toks L f h=some q):UniD q.1:=by
 unfold y4u at hb;split at hb
 ·simp only [y7r,Qag] at hb;obtain ⟨_,_,_,_,hq⟩:=hb;injection hq with hq;subst hq
  exact fun h=>by simp at h
 ·simp only [y7s,Qag] at hb;obtain ⟨_,_,_,_,hq⟩:=hb;injection hq with hq;subst hq
  exact fun h=>by simp at h
 ·simp only [y3s,Qag] at hb;obtain ⟨_,_,_,_,_,_,_,_,hq⟩:=hb;injection hq with hq;subst hq
  exact fun h=>by simp at h
 ·simp only [y3s,Qag] at hb;obtain ⟨_,_,_,_,_,_,_,_,hq⟩:=hb;injection hq with hq;subst hq
  exact fun h=>by simp at h
 ·simp only [z15,Qag] at hb;obtain ⟨_,_,_,_,_,_,hq⟩:=hb;injection hq with hq;subst hq;exact fun h=>rfl
 ·simp only [z8l,Qag] at hb;obtain ⟨_,_,_,_,_,_,hq⟩:=hb;injection hq with hq;subst hq
  exact fun h=>by simp at h
 ·simp only [z16,Qag] at hb;obtain ⟨_,_,_,_,_,_,hq⟩:=hb;injection hq with hq;subst hq
  exact fun h=>by simp at h
 ·simp only [dirF,Qag] at hb;obtain ⟨_,_,_,_,_,_,_,_,_,_,_,_,hq⟩:=hb;injection hq with hq;subst hq
  exact fun h=>by simp at h
 ·cases hb
theorem x39 (toks:List TokD) (L f:Nat): ∀(fu k:Nat) (l:List DefD),y3t toks L f fu k=some l→ ∀x∈l,UniD x
 |0,_,_,h=>by cases h
 |fu+1,k,l,h=>by
  simp only [y3t,Qag] at h;obtain ⟨t,_,h⟩:=h;split at h
  ·injection h with h;subst h;exact fun x hx=>by cases hx
  ·simp only [Qag,defF] at h;obtain ⟨q,⟨_,_,hb⟩,r,hr,hl⟩:=h;injection hl with hl;subst hl;intro x hx;rcases Qbd.1 hx with rfl|hx
   ·exact q4f hb
   ·exact x39 toks L f fu q.2 r hr x hx
theorem q4g (src:Txt) (hlen:src.length≤2200000): ∀x∈z1h src,UniD x:=by
 obtain ⟨toks,e,hA,h2,⟨hr,hd,hN⟩|⟨e0,p1,p2,h0,hr,hd⟩⟩:=y8l src hlen
 ·exact x39 _ _ _ _ _ _ hd
 ·rw [hd];exact fun x hx=>by cases hx
theorem q1b: ∀x∈givenT,UniD x:=by unfold UniD;decide+kernel
theorem x4a {l:List DefD} {d:DefD} (h: ∀x∈l,UniD x) (hd:UniD d): ∀x∈addD l d,UniD x:=by
 unfold addD;split
 ·exact h
 ·intro x hx;rcases Qbf.1 hx with hx|hx
  ·exact h x hx
  ·obtain rfl:=Qax.1 hx;exact hd
theorem q1c {defs:List DefD} (h: ∀x∈defs,UniD x): ∀x∈y02 defs,UniD x:=by
 refine y3w (Q:=fun l=>∀x∈l,UniD x) defs (y32 defs) ?_ ?_
 ·intro l d hd hl;unfold Go.Proofs.YtbpgkkoeehopjaaGreat.ty.step2;split
  ·exact hl
  ·rename_i i hi;split
   ·exact hl
   ·rename_i e he;split
    ·rename_i hk;intro x hx;rcases List.mem_or_eq_of_mem_set hx with hx|rfl
     ·exact hl x hx
     ·intro h5;have h5:e.kind=5:=h5;have e1:=hl e (Qaf he) h5;have e2:=h d hd (hk.2.1.trans h5)
      show e.fields++d.fields=[]
      rw [e1,e2];rfl
    ·exact hl
 ·refine y3w (Q:=fun l=>∀x∈l,UniD x) givenT _ (fun l d hd hl=>x4a hl (q1b d hd)) ?_;refine y3w (Q:=fun p:List DefD×List DefD=>∀x∈p.1,UniD x) defs ([],[]) ?_ (fun x hx=>by cases hx);intro p d hd hp;unfold Go.Proofs.YtbpgkkoeehopjaaGreat.ty.step1;split
  ·exact hp
  ·split
   ·dsimp only;split
    ·exact hp
    ·exact x4a hp (h d hd)
   ·exact hp
theorem q1d (m:FMap) (t' f' t f:Txt) (k:Nat):y0x (addF m t' f' k) (t,f)=(y0x m (t,f)).or (if t'=t∧f'=f then some (.int .i64 (k:Int)) else none):=by
 unfold addF;split
 ·rename_i h;by_cases e:t'=t∧f'=f
  ·obtain ⟨rfl,rfl⟩:=e
   cases hq:y0x m (t',f') with
   |none=>rw [hq] at h;cases h
   |some v=>rfl
  ·rw [if_neg e];cases y0x m (t,f)<;>rfl
 ·rename_i h;unfold y0x;rw [Qby]
  cases hq:m.find? (fun p=>decide (p.1=(t,f))) with
  |some p=>rfl
  |none=>
   by_cases e:t'=t∧f'=f
   ·obtain ⟨rfl,rfl⟩:=e;simp
   ·have: ¬(t',f')=(t,f):=fun h=>e (by injection h with h1 h2;exact ⟨h1,h2⟩);simp [this,e]
theorem z6j (t' t f:Txt): ∀(l:List FieldD) (n:Nat) (m:FMap),y0x ((l.zipIdx n).foldl (fun m p=>addF m t' p.1.name p.2) m) (t,f)=(y0x m (t,f)).or (if t'=t then (l.findIdx? (fun x=>decide (x.name=f))).map (fun k:Nat=>(.int .i64 ((n+k:Nat):Int):Value)) else none)
 |[],n,m=>by simp
 |x::r,n,m=>by
  rw [List.zipIdx_cons,List.foldl_cons,z6j t' t f r (n+1),q1d,List.findIdx?_cons,Option.or_assoc]
  congr 1
  by_cases e:t'=t
  ·subst e;by_cases h:x.name=f
   ·simp [h]
   ·simp only [h,and_false,if_false,decide_false,Option.none_or,if_true,Bool.false_eq_true,Option.map_map]
    congr 1
    funext k
    show Value.int .i64 ((n+1+k:Nat):Int)=Value.int .i64 ((n+(k+1):Nat):Int)
    congr 2
    omega
  ·simp [e]
def idxF (d:DefD) (f:Txt):Option Nat:=d.fields.findIdx? (fun x=>decide (x.name=f))
theorem x0l (t f:Txt): ∀(ts:List DefD) (m:FMap),(y0a ts).Nodup→y0x (ts.foldl z9l m) (t,f)=(y0x m (t,f)).or (((ts.find? fun d=>decide (d.name=t)).bind fun d=>idxF d f).map fun k:Nat=>(.int .i64 (k:Int):Value))
 |[],m,_=>by simp
 |d::r,m,hn=>by
  have hn':(y0a r).Nodup:=(List.nodup_cons.1 hn).2;have hx:d.name∉y0a r:=(List.nodup_cons.1 hn).1;rw [List.foldl_cons,x0l t f r _ hn'];unfold z9l;rw [z6j,Option.or_assoc,List.find?_cons]
  congr 1
  by_cases e:d.name=t
  ·have hno:r.find? (fun d=>decide (d.name=t))=none:=by
    rw [List.find?_eq_none];intro y hy h
    have h:y.name=t:=by simpa using h
    exact hx (by rw [e,←h];exact List.mem_map_of_mem hy)
   rw [hno];simp [e,idxF]
  ·simp [e]
theorem z1u (ts:List DefD) (t:Txt):z2k ts t=ts.find? fun d=>decide (d.name=t):=by
 unfold z2k y1k
 induction ts with
 |nil=>rfl
 |cons d r ih=>
  simp only [y0a,List.map_cons,List.findIdx?_cons,List.find?_cons] at ih ⊢;by_cases e:d.name=t
  ·simp [e]
  ·have:(d.name==t)=false:=by simpa using e
   simp only [this,decide_false,e,Bool.false_eq_true,if_false];rw [←ih]
   cases List.findIdx? (fun x=>x==t) (r.map (·.name))<;>simp
theorem x4b {α:Type} (p:α→Bool): ∀l:List α,((l.findIdx? p).bind fun k=>l[k]?)=l.find? p
 |[]=>rfl
 |x::r=>by
  rw [List.findIdx?_cons,List.find?_cons];by_cases h:p x=true
  ·simp [h]
  ·have h:p x=false:=by simpa using h
   have:=x4b p r;rw [←this]
   cases hq:List.findIdx? p r<;>simp [h]
def z2i (ts:List DefD) (rs:List RootD) (t f:Txt):Option FieldD:=
 if y0l ts t≠3∧y0l ts t≠4∧y0l ts t≠5 then none
 else if f=y1l then some ⟨y2v,f,[],(y61,[33]),[],0,0⟩
 else if y0l ts t=3∧t=y23 rs 1∧f=y28 then some ⟨y2v,f,[],(z2w,[33]),[],0,0⟩
 else if y0l ts t=3∧t=y23 rs 1∧f=y76 then some ⟨y2v,f,[y4y],(x37,[]),[],0,0⟩
 else (z2k ts t).bind fun d=>d.fields.find? fun x=>decide (x.name=f)
theorem x63 {defs:List DefD} (h: ∀x∈defs,UniD x) (t f:Txt):y3n (y3x defs) t f=z2i (y02 defs) (y3x defs).schema.roots t f:=by
 unfold y3n z2i;rw [show (y3x defs).types=y02 defs from rfl];split
 ·rfl
 ·split
  ·rfl
  ·split
   ·rfl
   ·split
    ·rfl
    ·split
     ·rename_i h5;rw [z1u]
      cases hq:(y02 defs).find? (fun d=>decide (d.name=t)) with
      |none=>rfl
      |some d=>
       have hk:d.kind=5:=by rw [q35,z1u,hq] at h5;exact h5
       rw [Option.bind_some,q1c h d (List.mem_of_find?_eq_some hq) hk];rfl
     ·rw [show (y3x defs).fields=fieldsOf (y02 defs) from rfl];unfold fieldsOf;rw [x0l t f _ _ (y9w defs),q0t,z1u]
      cases hq:(y02 defs).find? (fun d=>decide (d.name=t)) with
      |none=>rfl
      |some d=>
       simp only [Option.bind_some,idxF];rw [←x4b]
       cases hi:d.fields.findIdx? (fun x=>decide (x.name=f)) with
       |none=>rfl
       |some k=>simp [y0x]
open words enc dec held
set_option maxRecDepth 100000
set_option maxHeartbeats 40000000
attribute [local go_sem ↓] Go.wp_at_zero Go.wp_at_succ
theorem q60 {k:Int} (h:x2k k=false):k≠3∧k≠4∧k≠5:=by
 unfold x2k at h;simp only [Bool.or_eq_false_iff,Qa3] at h;exact ⟨h.1.1,h.1.2,h.2⟩
theorem q4h {k:Int} (h:x2k k=true): ¬(k≠3∧k≠4∧k≠5):=by
 unfold x2k at h;simp only [Bool.or_eq_true,Qa7] at h;omega
section
variable {w0 w K : World} {M : List Ent}
theorem RD.at1 {α:Type} {f:α→List Leaf} {m:Nat} (hf: ∀x,(f x).length=m) (hm:0<m) {l:List α} {n c k:Nat} {ad:Addr} (h:RD K (.list n (l.flatMap f)) (.slice (some ad) n c)) {x:α} (hx:l[k]?=some x) (hk:k<n):
  RD K (.list 1 (f x)) (.slice (some (ad.add (k*m))) 1 (c - k)):=by
 obtain ⟨A',c',us,he,h1,h2,hr,hs⟩:=y0m h.reads;injection he with e1 e2 e3;subst e3;obtain ⟨ad',vs,ha,hd,hl,hb,hc,hcs⟩:=y7u hf h hx hm;injection ha with ha;subst ha;refine ⟨y17 (by omega) (by omega) hd.reads (fun _=>⟨_,rfl,hb,fun j u hu=>?_⟩),h.le⟩
 cases j with
 |zero=>have:=hc u hu;rwa [show ∀a:Addr,a.add 0=a from fun a=>by simp [Addr.add]]
 |succ j=>rw [y26];exact hcs j u hu
variable {g : Nat} {s : DefD} {ts ds : List DefD}
theorem q1e (t f:Txt) (hT:RfK K g s ts ds) (hNs:defN s≤9000000) (hN:y0e ts≤8000000) (H:Hp w0 w K M) {o:Option FieldD} (ho:z2i ts s.roots t f=o):
  Calls Tryz.prog 42 #[.pointer (some ⟨g,0,none⟩),.string (str t),.string (str f)] w fun e w'=>∃K' cs,e= .returned (.tuple #[.agg cs,.bool o.isSome])∧Sat K' K∧Hp w0 w' K' M∧RL K' (y07 (o.getD z7w)) cs.toList:=by
 have hN9:y0e ts≤9000000:=by omega
 obtain ⟨k,hk⟩: ∃k,y0l ts t=k:=⟨_,rfl⟩;obtain ⟨r,hr⟩: ∃r,y23 s.roots 1=r:=⟨_,rfl⟩;unfold z2i at ho;rw [hk,hr] at ho
 cases hc:x2k k with
 |false=>
  rw [if_pos (q60 hc)] at ho;subst ho;clear hr;go_enter Tryz.func42,Tryz.ntmps42
  go_wp2_with (first|(go_at_call 75;refine (z4x t hT hN9 H hk).mono ?_;rintro e w9 ⟨rfl,hw9⟩;subst w9)|(go_at_call 80;refine (x0k k H).mono ?_;rintro e w9 ⟨rfl,hw9⟩;subst w9)|(refine oL H ?_)|(refine oA 6 H ?_;clear H;intro w g6 H)|(refine oA 9 H ?_;clear H;intro w g9 H)|(refine oP H ?_;clear H;intro w _ H))
  refine oB2 H ?_;exact ⟨K,_,rfl,Sat.refl _,H.fin,y65⟩
 |true=>
  rw [if_neg (q4h hc)] at ho;by_cases hf:f=y1l
  ·rw [if_pos hf] at ho;subst ho
   have e1:((str f).toList==[95,95,116,121,112,101,110,97,109,101])=true:=by rw [y2j];exact Qa5 hf
   clear hr hf;go_enter Tryz.func42,Tryz.ntmps42
   go_wp2_with (first|(go_at_call 75;refine (z4x t hT hN9 H hk).mono ?_;rintro e w9 ⟨rfl,hw9⟩;subst w9)|(go_at_call 80;refine (x0k k H).mono ?_;rintro e w9 ⟨rfl,hw9⟩;subst w9)|(refine oL H ?_)|(refine oA 6 H ?_;clear H;intro w g6 H)|(refine oA 9 H ?_;clear H;intro w g9 H)|(refine oP H ?_;clear H;intro w _ H))
   refine oB2 H ?_;exact ⟨K,_,rfl,Sat.refl _,H.fin,z6i _ _ _⟩
  ·rw [if_neg hf] at ho
   have e1:((str f).toList==[95,95,116,121,112,101,110,97,109,101])=false:=by rw [y2j];exact Qa4 hf
   by_cases hs:k=3∧t=r∧f=y28
   ·rw [if_pos hs] at ho;subst ho;have e2:(k==3)=true:=Qa7.2 hs.1
    have e3:((str t).toList==(str r).toList)=true:=by rw [Go.Proofs.YtbpgkkoeehopjaaGreat.gram.str_eq];exact Qa5 hs.2.1
    have e4:((str f).toList==[95,95,115,99,104,101,109,97])=true:=by rw [y48];exact Qa5 hs.2.2
    clear hf hs;go_enter Tryz.func42,Tryz.ntmps42
    go_wp2_with (first|(go_at_call 75;refine (z4x t hT hN9 H hk).mono ?_;rintro e w9 ⟨rfl,hw9⟩;subst w9)|(go_at_call 80;refine (x0k k H).mono ?_;rintro e w9 ⟨rfl,hw9⟩;subst w9)|(go_at_call 84;refine (x2l 1 hT hNs H hr).mono ?_;rintro e w9 ⟨rfl,hw9⟩;subst w9)|(refine oL H ?_)|(refine oA 6 H ?_;clear H;intro w g6 H)|(refine oA 9 H ?_;clear H;intro w g9 H)|(refine oP H ?_;clear H;intro w _ H))
    refine oB2 H ?_;exact ⟨K,_,rfl,Sat.refl _,H.fin,z6i _ _ _⟩
   ·rw [if_neg hs] at ho;by_cases hu:k=3∧t=r∧f=y76
    ·rw [if_pos hu] at ho;subst ho;have e2:(k==3)=true:=Qa7.2 hu.1
     have e3:((str t).toList==(str r).toList)=true:=by rw [Go.Proofs.YtbpgkkoeehopjaaGreat.gram.str_eq];exact Qa5 hu.2.1
     have e4:((str f).toList==[95,95,115,99,104,101,109,97])=false:=by rw [y48];exact Qa4 (fun h=>hs ⟨hu.1,hu.2.1,h⟩)
     have e5:((str f).toList==[95,95,116,121,112,101])=true:=by rw [z2x];exact Qa5 hu.2.2
     clear hf hs hu;go_enter Tryz.func42,Tryz.ntmps42
     go_wp2_with (first|(go_at_call 75;refine (z4x t hT hN9 H hk).mono ?_;rintro e w9 ⟨rfl,hw9⟩;subst w9)|(go_at_call 80;refine (x0k k H).mono ?_;rintro e w9 ⟨rfl,hw9⟩;subst w9)|(go_at_call 84;refine (x2l 1 hT hNs H hr).mono ?_;rintro e w9 ⟨rfl,hw9⟩;subst w9)|(refine oA 44 H ?_;clear H;intro w g44 H;have hq9:=H.freezeBox (n:=1) (ls:=y0k [y4y]) q06 (by simp [maxLen]);clear H;obtain ⟨K2,hle,H,h44⟩:=hq9)|(refine oL H ?_)|(refine oA 6 H ?_;clear H;intro w g6 H)|(refine oA 9 H ?_;clear H;intro w g9 H)|(refine oP H ?_;clear H;intro w _ H))
     refine oB2 H ?_;exact ⟨K2,_,rfl,hle,H.fin,q05 _ _ _ h44⟩
    ·rw [if_neg hu] at ho
     have e4:k=3→t=r→((str f).toList==[95,95,115,99,104,101,109,97])=false:=fun h3 ht=>by rw [y48];exact Qa4 (fun h=>hs ⟨h3,ht,h⟩)
     have e5:k=3→t=r→((str f).toList==[95,95,116,121,112,101])=false:=fun h3 ht=>by rw [z2x];exact Qa4 (fun h=>hu ⟨h3,ht,h⟩)
     clear hf hs hu
     cases hq:y1k ts t with
     |none=>rw [x2g hq] at hk;subst hk;cases hc
     |some i=>
      obtain ⟨d,he,hne⟩:=y1p hq
      have hp:y2l ts t=(i:Int):=by unfold y2l;rw [hq]
      have hdo:z2k ts t=some d:=by unfold z2k;rw [hq];exact he
      rw [hdo,Option.bind_some] at ho;have hio:i<ts.length:=(Qac.1 he).1;have hdn:defN d≤9000000:=Qah (y64 he) hN9;have hlen:=x0f hN9;have hT0:=hT;obtain ⟨b,AT,AD,cT,cD,sch,hb,-,hd,-⟩:=hT0;have hb:K.heap[g]?=some (.cells _ _ _):=hb;obtain ⟨e2,ad,us,he2,rfl,hel,hat⟩:=el_k (m:=17) (f:=defL) y0u hd hio (by decide)
      obtain rfl:e2=d:=by rw [he] at he2;injection he2 with he2;exact he2.symm
      obtain ⟨A6,c6,A7,c7,A8,c8,A9,c9,A10,c10,A11,c11,A12,c12,A14,c14,rfl,-,-,h8,-,-,-,-,-⟩:=y0c hel
      have hiI:(i:Int)<(ts.length:Int):=by omega
      have hi0:(0:Int)≤(i:Int):=by omega
      have hpw:=fun {w w0 M} (H:Hp w0 w K M)=>y1o t rfl hlen (hd.sat H.sat) hp
      have hn9:e2.fields.length≤9000000:=by have h7:=y0o y2b e2.fields;unfold defN at hdn;omega
      obtain ⟨n,hn⟩: ∃n,e2.fields.length=n:=⟨_,rfl⟩;rw [hn] at h8 hn9
      have hat:At K (ad.add (i*17)) [.int .i64 e2.kind,.bool e2.ext,.bool e2.note.has,.bool e2.note.block,.string (str e2.note.text),.string (str e2.name),.slice A6 e2.ifaces.length c6,.slice A7 e2.dirs.length c7,.slice A8 n c8,.slice A9 e2.inputs.length c9,.slice A10 e2.members.length c10,.slice A11 e2.values.length c11,.slice A12 e2.roots.length c12,.bool e2.rep,.slice A14 e2.places.length c14,.int .i64 e2.line,.int .i64 e2.col]:=by rw [←hn];exact hat
      have HN:=hide hn;have HO:=hide ho;clear hq hdo he he2 hel hne hio hn ho;go_enter Tryz.func42,Tryz.ntmps42
      go_upto_region 4 with (first|(go_at_call 75;refine (z4x t hT hN9 H hk).mono ?_;rintro e w9 ⟨rfl,hw9⟩;subst w9)|(go_at_call 80;refine (x0k k H).mono ?_;rintro e w9 ⟨rfl,hw9⟩;subst w9)|(refine oL H ?_)|(refine oA 6 H ?_;clear H;intro w g6 H)|(refine oA 9 H ?_;clear H;intro w g9 H)|(refine oP H ?_;clear H;intro w _ H))
      clear hk
      have h6:(k==3)=false∨((k==3)=true∧((str t).toList==(str r).toList)=false)∨((k==3)=true∧((str t).toList==(str r).toList)=true∧((str f).toList==[95,95,115,99,104,101,109,97])=false∧((str f).toList==[95,95,116,121,112,101])=false):=by
       by_cases h3:k=3
       ·by_cases ht:t=r
        ·exact .inr (.inr ⟨Qa7.2 h3,by rw [Go.Proofs.YtbpgkkoeehopjaaGreat.gram.str_eq];exact Qa5 ht,e4 h3 ht,e5 h3 ht⟩)
        ·exact .inr (.inl ⟨Qa7.2 h3,by rw [Go.Proofs.YtbpgkkoeehopjaaGreat.gram.str_eq];exact Qa4 ht⟩)
       ·exact .inl (Qa3.2 h3)
      clear e4 e5;rcases h6 with b3|⟨b3,b6⟩|⟨b3,b6,b4,b5⟩
      all_goals
       go_upto_region 12 with (first|(go_at_call 84;refine (x2l 1 hT hNs H hr).mono ?_;rintro e w9 ⟨rfl,hw9⟩;subst w9)|(refine oL H ?_)|(refine oA 6 H ?_;clear H;intro w g6 H)|(refine oA 9 H ?_;clear H;intro w g9 H)|(refine oP H ?_;clear H;intro w _ H))
       refine rB [13] H ?_;clear H;intro w H;refine rT 0 H ?_;refine rT 1 H ?_;refine rT 2 H ?_;refine rT 3 H ?_;refine rT 4 H ?_;refine rT 5 H ?_;refine rT 6 H ?_;refine rT 7 H ?_;refine rT 8 H ?_;refine r2 9 12 ?_ ?_
       all_goals
        first
        |(refine aC (hpw H) ?_;rintro e w9 ⟨rfl,hw9⟩;subst w9;refine rX H ?_;refine rT 10 H ?_;refine rT 11 H ?_;refine rW 12 H ?_;clear H;intro w g10 H)
        |(refine aW H ?_;clear H;intro w g10 H;refine rC 9 (hpw H) ?_;rintro e w9 ⟨rfl,hw9⟩;subst w9;refine rX H ?_;refine rT 10 H ?_;refine rT 11 H ?_)
        refine rL 13 H ?_;clear H;intro w _ H;refine rE ?_
        go_wp2_with fail
        go_loopw [11] (fun i wr=>∃j:Nat,j≤n∧i= .int .i64 j∧Hid ((e2.fields.take j).find? (fun x=>decide (x.name=f))=none)∧wr=w) (fun i _=>n - (intOf i).toNat)
        case atStart=>exact ⟨0,Qak _,rfl,rfl,rfl⟩
        case round=>
         obtain ⟨j,hj,rfl,hno,rfl⟩:=hrel;by_cases hlt:j<n
         ·obtain ⟨x,ad8,us,hx,rfl,hxl,hat8⟩:=el_k (m:=10) (f:=y07) (fun _=>rfl) h8 (by rw [HN.out];exact hlt) (by decide);obtain ⟨hjI,hwr⟩:=wr_k hlt hn9;have htk:=y0n hx
          have hxn:sumN y1j [x]≤9000000:=by have h7:=Qah (y77 hx) hdn;simp only [sumN];omega
          have h1:=RD.at1 (m:=10) (f:=y07) (fun _=>rfl) (by decide) h8 hx hlt;obtain ⟨⟨nh,nb,nt⟩,dn,args,⟨tn,tw⟩,xs,dl,dc⟩:=x;obtain ⟨Aa,ca,Ad,cd,rfl,has,hds⟩:=y1r hxl;by_cases he:dn=f
          ·have e9:((str dn).toList==(str f).toList)=true:=by rw [Go.Proofs.YtbpgkkoeehopjaaGreat.gram.str_eq];exact Qa5 he
           obtain rfl:o=some ⟨⟨nh,nb,nt⟩,dn,args,(tn,tw),xs,dl,dc⟩:=by
            rw [←HO.out,←List.take_append_drop (j+1) e2.fields,htk,Qby,Qby,hno.out];simp [he]
           have hc:=fun {w K M} (H:Hp w0 w K M) hd=>z6e (l:=[⟨⟨nh,nb,nt⟩,dn,args,(tn,tw),xs,dl,dc⟩]) (A:=some (ad8.add (j*10))) (c:=c8 - j) hxn hd H
           have hj1:(j:Int)+1≤(c8:Int):=by obtain ⟨_,_,_,e7,_,_⟩:=y0m h8.reads;injection e7 with _ _ e7;omega
           have hj2:(j:Int)≤(j:Int)+1:=by omega
           clear hx htk hno HO hxl has hds he
           go_wp2_with (first|(go_at_call 88;refine (hc H h1).mono ?_;clear H;rintro e w ⟨K2,A2,c2,rfl,hle,H,hd2⟩;obtain ⟨y,ad2,us2,hy,rfl,hyl,hat2⟩:=el_k (m:=10) (f:=y07) (k:=0) (fun _=>rfl) hd2 Nat.zero_lt_one (by decide);obtain rfl:=Option.some.inj hy;obtain ⟨Ab,cb,Ae,ce,rfl,-,-⟩:=y1r hyl;rw [Nat.zero_mul] at hat2)|(refine oL H ?_)|(refine oA 6 H ?_;clear H;intro w g6 H)|(refine oA 9 H ?_;clear H;intro w g9 H)|(refine oP H ?_;clear H;intro w _ H))
           refine oB2 H ?_;exact ⟨K2,_,rfl,hle,H.fin,hyl⟩
          ·have e9:((str dn).toList==(str f).toList)=false:=by rw [Go.Proofs.YtbpgkkoeehopjaaGreat.gram.str_eq];exact Qa4 he
           have HNX:Hid ((e2.fields.take (j+1)).find? (fun x=>decide (x.name=f))=none):=by
            show _=_
            rw [htk,Qby,hno.out];simp [he]
           clear hx htk hno h1 hxl has hds he
           go_wp2_with (refine oL H ?_)
           go_roundw
           case rel=>exact ⟨j+1,by omega,by go_num,HNX,trivial⟩
           case measure=>simp [intOf];omega
         ·obtain rfl:n=j:=by omega
          have hno:=hno.out;rw [Qaj (by rw [HN.out];exact Qab _)] at hno;obtain rfl:o=none:=HO.out.symm.trans hno;clear hno HO
          go_wp2_with (first|(refine oL H ?_)|(refine oA 6 H ?_;clear H;intro w g6 H)|(refine oA 9 H ?_;clear H;intro w g9 H)|(refine oP H ?_;clear H;intro w _ H))
          refine oB2 H ?_;exact ⟨K,_,rfl,Sat.refl _,H.fin,y65⟩
end
def fldD (f:FieldD):DefD:={z7r with fields:=[f]}
theorem q8u {f:FieldD} (h:y1j f≤8000000):defN (fldD f)≤9000000:=by
 simp only [defN,fldD,z7r,y3k,sumN,List.length_nil];omega
theorem q4i {ts:List DefD} (rs:List RootD) (t f:Txt) (hN:y0e ts≤8000000):y1j ((z2i ts rs t f).getD z7w)≤8000000:=by
 have e0:y1j z7w≤8000000:=by decide
 unfold z2i;split
 ·exact e0
 ·split
  ·exact Qa6 rfl
  ·split
   ·exact Qa6 rfl
   ·split
    ·exact Qa6 rfl
    ·cases hq:z2k ts t with
     |none=>exact e0
     |some d=>
      rw [Option.bind_some]
      cases hf:d.fields.find? (fun x=>decide (x.name=f)) with
      |none=>exact e0
      |some x=>
       obtain ⟨k,hk⟩:=Qbp.1 (List.mem_of_find?_eq_some hf);have h1:=y77 hk;obtain ⟨_,i,hi,_⟩:=x32 hq;have:=y64 hi;simp only [Option.getD_some];omega
section
variable {w0 w K : World} {M : List Ent}
theorem Hp.boxRow (m n:Nat) {g:Nat} {cs:List Value} {t:TypeId} (H:Hp w0 w K (.box g cs t::M)) (hl:cs.length=n*m) (hn:n≤maxLen):Hp w0 w K (.row t m (.slice (some ⟨g,0,none⟩) n n) n cs::M):=
 H.setAt (i:=0) rfl ⟨rfl,rfl,rfl,Qab _,fun _ _ _=>rfl⟩ ⟨hl,.inr ⟨g,n,cs.toArray,rfl,Qak _,H.blkAt (i:=0) rfl,Qab _,hn,by simpa using hl,by simp [←hl]⟩⟩ (.inl rfl)
theorem q61 (v:Value) (t f:Txt) (D:TysD) (H:Hp w0 w K M) (hv:Tp K v D) (hW:TyW D) {o:Option FieldD} (ho:y3n D t f=o):
  Calls Tryz.prog 41 #[v,.string (str t),.string (str f)] w fun e w'=>∃K' cs,e= .returned (.tuple #[.agg cs,.bool o.isSome])∧Sat K' K∧Hp w0 w' K' M∧RL K' (y07 (o.getD z7w)) cs.toList:=by
 subst ho;refine (q6x v t f D w0 w K M H hv hW).mono ?_;rintro e w' ⟨K',v',rfl,hle,H,cs,rfl,hd⟩;exact ⟨K',cs,rfl,hle,H,hd⟩
theorem x0m (d:FieldD) {cs es:Array Value} (hn:y1j d≤8000000) (hd:RL K (y07 d) cs.toList) (he:RL K (y07 d) es.toList) (H:Hp w0 w K M):
  Calls Tryz.prog 43 #[.agg cs,.agg es] w fun e w'=>∃K',e= .returned (.bool true)∧Sat K' K∧Hp w0 w' K' M:=by
 obtain ⟨⟨nh,nb,nt⟩,dn,args,⟨tn,tw⟩,xs,dl,dc⟩:=d;have hN:=q8u hn;obtain ⟨Aa,ca,Ad,cd,hcs,-,-⟩:=y1r hd;obtain rfl:cs= #[_,_,_,_,_,_,_,_,_,_]:=Qal.1 hcs;obtain ⟨Ba,ba,Bd,bd,hes,-,-⟩:=y1r he;obtain rfl:es= #[_,_,_,_,_,_,_,_,_,_]:=Qal.1 hes;clear hcs hes hn;go_enter Tryz.func43,Tryz.ntmps43
 go_wp2_with (first|(refine oL H ?_)|(refine oA 6 H ?_;clear H;intro w g6 H;have hq9:=H.freezeBox (n:=1) (ls:=y0s [⟨⟨nh,nb,nt⟩,dn,args,(tn,tw),xs,dl,dc⟩]) (y7c (f:=y07) hd) (by simp [maxLen]);clear H;obtain ⟨K6,hle6,H,h6⟩:=hq9;replace he:=he.sat hle6)|(refine oA 9 H ?_;clear H;intro w g9 H;have hq9:=H.freezeBox (n:=1) (ls:=y0s [⟨⟨nh,nb,nt⟩,dn,args,(tn,tw),xs,dl,dc⟩]) (y7c (f:=y07) he) (by simp [maxLen]);clear H;obtain ⟨K9,hle9,H,h9⟩:=hq9;replace h6:=h6.sat hle9)|(refine oP H ?_;clear H;intro w _ H)|(go_at_call 46;refine (x62 (fldD ⟨⟨nh,nb,nt⟩,dn,args,(tn,tw),xs,dl,dc⟩) hN (y01 RD.z RD.z h6 RD.z RD.z RD.z RD.z RD.z) (y01 RD.z RD.z h9 RD.z RD.z RD.z RD.z RD.z) H).mono ?_;clear H;rintro e w ⟨K8,rfl,hle8,H⟩))
 go_ret;exact ⟨K8,rfl,hle8.trans (hle9.trans hle6),H.fin⟩
theorem Fields_walk (src typ fld:Txt) (wi:World) (hsrc:src.length≤1048576):
  Calls Tryz.prog 8 #[.string (str src),.string (str typ),.string (str fld)] wi fun e w'=>e= .returned (.bool true)∧Below wi.heap.size wi w':=by
 have H:=Hp.start wi;have hN:=q75 src (by omega);have hS:=q4a src (by omega);have hU:=q4g src (by omega);have hrd:=fun {w1 K M} (H:Hp wi w1 K M)=>q3j H src (by omega);obtain ⟨defs,hdefs⟩: ∃d,z1h src=d:=⟨_,rfl⟩;rw [hdefs] at hN hrd hS hU;clear hdefs;have hW:=x3w defs (by omega);have hT8:y0e (y3x defs).types≤8000000:=Qah hW.nT (by omega)
 have hN9:y0e defs≤2900000:=by omega
 have hrb:=fun {w1 K M} {A:Option Addr} {c:Nat} (H:Hp wi w1 K M) (hd:RD K (.list defs.length (y0q defs)) (.slice A defs.length c))=>q01 defs rfl hN9 hS hd H;clear hS;go_enter Tryz.func8,Tryz.ntmps8
 go_upto_region 6 with (first|(go_at_call 24;refine (q1a _ _ _ _ H).mono ?_;clear H;rintro e w1 ⟨K1,rfl,hle1,H⟩)|(go_at_call 13;refine (hrd H).mono ?_;clear H hrd;rintro e w2 ⟨K2,A2,c2,rfl,hle2,H,hd⟩)|(go_at_call 14;refine (z7q defs _ _ _ _ _ _ _ H rfl hd (by omega)).mono ?_;clear H;rintro e w3 ⟨K3,g,rfl,hle3,H,hB⟩;replace hd:=hd.sat hle3;have hv:=hB.tp;clear hB)|(go_at_call 28;refine (hrb H hd).mono ?_;clear H hrb;rintro e w4 ⟨K4,g4,rfl,hle4,H,hT⟩;replace hv:=hv.sat hle4))
 clear hd hle1 hle2 hle3 hle4 hN hN9;have hFk:=fun (w1 K:World) (M:List Ent) (t f:Txt) (o:Option FieldD) (H:Hp wi w1 K M) (hv:Tp K (.pointer (some ⟨g,0,none⟩)) (y3x defs)) (ho:z2i (y02 defs) (y3x defs).schema.roots t f=o)=>q61 (.pointer (some ⟨g,0,none⟩)) t f (y3x defs) H hv hW ((x63 hU t f).trans ho);have hsN:=hW.nS;have hl:=x0f (Qah hT8 (by omega));have hTl:(y3x defs).types=y02 defs:=rfl;rw [hTl] at hl hT8 hT;obtain ⟨ts,hts⟩: ∃s,y02 defs=s:=⟨_,rfl⟩;obtain ⟨s,hs⟩: ∃s,(y3x defs).schema=s:=⟨_,rfl⟩;rw [hts] at hl hT8 hT;rw [hs] at hT hsN;simp only [hts,hs] at hFk;have HF:=hide hFk;clear hFk hU hW hTl hts hs;have hN8:y0e ts≤9000000:=Qah hT8 (by omega);obtain ⟨L,hL⟩: ∃L,ts.map (·.name)++[typ]=L:=⟨_,rfl⟩
 have hLn:L.length=ts.length+1:=by rw [←hL,Qae,Qay];rfl
 have HL:=hide hL;clear hL
 go_upto_region 7 with (first|(go_at_call 29;refine (q04 hT hN8 H).mono ?_;clear H;rintro e w ⟨A5,c5,rfl,H⟩)|(refine oP H ?_;clear H;intro w _ H)|(refine oQ H ?_;clear H;intro A6 c6 w _ hc6 H;dsimp only [List.set] at H;have hq9:=x38 (l:=ts.map (·.name)++[typ]) (by rw [Qas];exact H);clear H;obtain ⟨K6,hle6,H,hdl⟩:=hq9;replace hv:=hv.sat hle6;replace hT:=hT.sat hle6))
 rw [HL.out] at hdl;obtain ⟨nl,hnl⟩: ∃n,ts.length+1=n:=⟨_,rfl⟩
 have hnlI:(ts.length:Int)+1=(nl:Int):=by omega
 rw [hnl] at hdl hLn ⊢;rw [hnlI]
 have hnl9:nl≤9000000:=by have:=y0o y2g ts;unfold y0e at hT8;omega
 have HN:=hide hLn;clear hnlI hle6 hnl hLn HL hl
 go_wp2_with fail
 go_loopw [37] (fun i wr=>∃(k:Nat) (K7:World),k≤nl∧i= .int .i64 k∧Sat K7 K6∧Hp wi wr K7 []) (fun i _=>nl - (intOf i).toNat)
 case atStart=>exact ⟨0,K6,Qak _,rfl,Sat.refl _,H⟩
 case round=>
  clear H;obtain ⟨k,K7,hk,rfl,H0,H⟩:=hrel;replace hv:=hv.sat H0;replace hT:=hT.sat H0;have hdk:=hdl.sat H0;by_cases hlt:k<nl
  ·obtain ⟨ad,x,rfl,hx,hat⟩:=y7a hdk (by rw [HN.out];exact hlt);obtain ⟨hkI,hwr⟩:=wr_k hlt hnl9;obtain ⟨ok,h1⟩: ∃b,(y51 ts x).isSome=b:=⟨_,rfl⟩;obtain ⟨d,h2⟩: ∃b,(y51 ts x).getD z7r=b:=⟨_,rfl⟩;have hdn9:=q8t h2 hT8;have hTy:=fun {w1 K M} (H:Hp wi w1 K M) (hT:RfK K g4 s ts (y3x defs).dirs)=>q4c x hT hN8 H h1 h2;clear hx hdk h1 h2
   go_upto_region 11 with (first|(refine oL H ?_)|(go_at_call 40;refine (hTy H hT).mono ?_;clear H;rintro e w ⟨K8,cs,rfl,hle7,H,hd8⟩;obtain ⟨B6,b6,B7,b7,B8,b8,B9,b9,B10,b10,B11,b11,B12,b12,B14,b14,hcs,-,-,h8,-⟩:=y0c hd8;obtain rfl:cs= #[_,_,_,_,_,_,_,_,_,_,_,_,_,_,_,_,_]:=Qal.1 hcs;clear hcs hat;replace hv:=hv.sat hle7;replace hT:=hT.sat hle7;replace H0:=hle7.trans H0;clear hle7)|(refine oA 12 H ?_;clear H;intro w g12 H)|(refine oA 48 H ?_ (hd:=dbS (cs:=([y1l,y28,y76,fld,[]]:List Txt).map sv) (hcs:=by kernel_rfl));clear H;intro w g48 H;replace H:=H.boxRow 1 5 rfl (by simp [maxLen]))|(refine oP H ?_;clear H;intro w _ H))
   obtain ⟨nf,hnf⟩: ∃n,d.fields.length=n:=⟨_,rfl⟩;rw [hnf] at h8 H ⊢
   have hnf9:nf≤9000000:=by have h7:=y0o y2b d.fields;unfold defN at hdn9;omega
   have HNF:=hide hnf;have HK:=hide H0;clear hnf hTy hd8 H0
   go_wp2_with (refine oL H ?_)
   go_loopw [14,52] (fun v i wr=>∃(j:Nat) (A':Option Addr) (c':Nat),j≤nf∧v= .slice A' (5+j) c'∧i= .int .i64 j∧Hp wi wr K8 (.row 9 1 (.slice A' (5+j) c') (5+j) ((([y1l,y28,y76,fld,[]]:List Txt)++(d.fields.take j).map (·.name)).map sv):: .box g12 [.int .i64 d.kind,.bool d.ext,.bool d.note.has,.bool d.note.block,.string (str d.note.text),.string (str d.name),.slice B6 d.ifaces.length b6,.slice B7 d.dirs.length b7,.slice B8 nf b8,.slice B9 d.inputs.length b9,.slice B10 d.members.length b10,.slice B11 d.values.length b11,.slice B12 d.roots.length b12,.bool d.rep,.slice B14 d.places.length b14,.int .i64 d.line,.int .i64 d.col] 43::[])) (fun _ i _=>nf - (intOf i).toNat)
   case atStart=>exact ⟨0,_,_,Qak _,rfl,rfl,H⟩
   case round=>
    clear H;obtain ⟨j,A',c',hj,rfl,rfl,H⟩:=hrel;by_cases hlt:j<nf
    ·obtain ⟨y,ad8,us,hy,rfl,hyl,hat8⟩:=el_k (m:=10) (f:=y07) (fun _=>rfl) h8 (by rw [HNF.out];exact hlt) (by decide);obtain ⟨hjI,hwrj⟩:=wr_k hlt hnf9;have HX:=hide (y0n hy);obtain ⟨⟨nh,nb,nt⟩,dn,args,⟨tn,tw⟩,xs,dl,dc⟩:=y;obtain ⟨Aa,ca,Ad,cd,rfl,-,-⟩:=y1r hyl;clear hy hyl
     go_wp2_with (first|(refine oL H ?_)|(refine oA 16 H ?_;clear H;intro w g16 H)|(refine oP H ?_;clear H;intro w _ H)|(refine oQ H ?_;clear H;intro A3 c3 w _ hc3 H;dsimp only [List.set] at H))
     go_roundw
     case rel=>exact ⟨j+1,A3,c3,by omega,rfl,by go_num,by (have H2:Hp _ _ _ (.row 9 1 _ _ _:: .box g12 _ _::[]):=H.fin);rw [HX.out];simp only [Qas,Qat] at H2 ⊢;exact H2⟩
     case measure=>simp [intOf];omega
    ·obtain rfl:nf=j:=by omega
     rw [Qaj (by rw [HNF.out];exact Qab _)] at H;have hq9:=x38 H;clear H;obtain ⟨K9,hle7,H,hnd⟩:=hq9;replace hv:=hv.sat hle7;replace hT:=hT.sat hle7;replace HK:=hide (hle7.trans HK.out);obtain ⟨NL,hNL⟩: ∃L,([y1l,y28,y76,fld,[]]:List Txt)++d.fields.map (·.name)=L:=⟨_,rfl⟩;obtain ⟨m,hm⟩: ∃m,5+nf=m:=⟨_,rfl⟩
     have hmI:(5:Int)+(nf:Int)=(m:Int):=by omega
     have hm9:m≤9000005:=by omega
     have HNL:=hide (show NL.length=m by rw [←hNL,Qae,Qay,HNF.out,←hm];rfl);rw [hNL,hm] at hnd;rw [hm];clear hle7 hNL hm h8 HNF hnf9
     go_wp2_with fail
     go_loopw [64] (fun i wr=>∃(q:Nat) (K10:World),q≤m∧i= .int .i64 q∧Sat K10 K9∧Hp wi wr K10 []) (fun i _=>m - (intOf i).toNat)
     case atStart=>exact ⟨0,K9,Qak _,rfl,Sat.refl _,H.fin⟩
     case round=>
      clear H;obtain ⟨q,K10,hq,rfl,H0,H⟩:=hrel;replace hv:=hv.sat H0;replace hT:=hT.sat H0;have hdq:=hnd.sat H0;by_cases hlt:q<m
      ·obtain ⟨ad2,y,rfl,hy,hat2⟩:=y7a hdq (by rw [HNL.out];exact hlt);obtain ⟨o,ho⟩: ∃o,z2i ts s.roots x y=o:=⟨_,rfl⟩
       have hqI:(q:Int)<(m:Int):=by omega
       have hwrq:IntKind.i64.wrap ((q:Int)+1)=q+1:=IntWalk.i64_in _ (by omega);have hon:=q4i s.roots x y hT8;rw [ho] at hon;have hA:=fun {w1 K M} (H:Hp wi w1 K M) hv=>HF.out w1 K M x y o H hv ho;have hB:=fun {w1 K M} (H:Hp wi w1 K M) (hT:RfK K g4 s ts (y3x defs).dirs)=>q1e x y hT hsN hT8 H ho;obtain ⟨b,hb⟩: ∃b,o.isSome=b:=⟨_,rfl⟩;obtain ⟨fd,hfd⟩: ∃d,o.getD z7w=d:=⟨_,rfl⟩;simp only [hb,hfd] at hA hB;rw [hfd] at hon
       have hbb:(b !=b)=false:=by cases b<;>rfl
       clear hy hdq ho hb hfd
       go_wp2_with (first|(refine oL H ?_)|(refine oA 19 H ?_;clear H;intro w g19 H)|(refine oA 21 H ?_;clear H;intro w g21 H)|(refine oP H ?_;clear H;intro w _ H)|(go_at_call 41;(with_reducible refine (hA H hv).mono ?_);clear H hA;rintro e w ⟨K11,cs,rfl,hle7,H,hd7⟩;obtain ⟨Aa,ca,Ad,cd,hcs,-,-⟩:=y1r hd7;obtain rfl:cs= #[_,_,_,_,_,_,_,_,_,_]:=Qal.1 hcs;clear hcs hat2;replace hv:=hv.sat hle7;replace hT:=hT.sat hle7;replace H0:=hle7.trans H0;clear hle7)|(go_at_call 42;(with_reducible refine (hB H hT).mono ?_);clear H hB;rintro e w ⟨K12,cs,rfl,hle7,H,hd8⟩;obtain ⟨Ba,ba,Bd,bd,hcs,-,-⟩:=y1r hd8;obtain rfl:cs= #[_,_,_,_,_,_,_,_,_,_]:=Qal.1 hcs;clear hcs;replace hd7:=hd7.sat hle7;replace hv:=hv.sat hle7;replace hT:=hT.sat hle7;replace H0:=hle7.trans H0;clear hle7)|(go_at_call 43;(with_reducible refine (x0m fd hon hd7 hd8 H).mono ?_);clear H;rintro e w ⟨K13,rfl,hle7,H⟩;replace hv:=hv.sat hle7;replace hT:=hT.sat hle7;replace H0:=hle7.trans H0;clear hle7))
       go_roundw
       case rel=>exact ⟨q+1,_,by omega,by go_num,H0,H.fin⟩
       case measure=>simp [intOf];omega
      ·obtain rfl:q=m:=by omega
       go_wp2_with fail
       go_roundw
       case rel=>exact ⟨k+1,_,by omega,by go_num,H0.trans HK.out,H⟩
       case measure=>simp [intOf];omega
  ·obtain rfl:k=nl:=by omega
   go_wp2_with fail
   go_ret;exact ⟨rfl,H.bel⟩
end
end Go.Proofs.YtbpgkkoeehopjaaGreat.hp
namespace Go.Proofs.YtbpgkkoeehopjaaGreat.opn
open words tree gram rd dat
set_option maxRecDepth 100000
section
variable {H : Type} {enc : TypeId × Value → H} {w : World} {sp : Nat → Bool} {held : Bool}
abbrev bulk (d:DataW H):Nat:=Rows.uptoBulk d
def Op (enc:TypeId×Value→H) (w:World) (sp:Nat→Bool) (held:Bool) (t:TypeId) {α:Type} (f:α→List Leaf) (N:α→Nat) (Q:α→Prop) (m:Nat):Prop:=
 ∀cs x,DataW.trod enc Tryz.prog w 0 sp held m t cs=some x→bulk x.1≤1048576→ ∃d:α,ReadsL w (Lo w.heap.size) (f d) cs∧N d≤bulk x.1∧Q d
end
end Go.Proofs.YtbpgkkoeehopjaaGreat.opn
namespace Go.Proofs.YtbpgkkoeehopjaaGreat.frame
open Go.ChangeShapes Go.WideShapes Go.ChangeAt Go.RowKit words
section
variable {H : Type} {enc : TypeId × Value → H} {P : Program}
theorem z0z (hl:laidOutB P=true) {W W':World} (hb:Below W.heap.size W W'):
  ∀(ts:List TypeId) (vs:List Value) (ds:List (DataW H)) (ps:List MemPlace),
   (∀t∈ts,P.readableRec t=true∧t<P.types.size)→DataW.TrodAll enc P W 0 (fun _=>true) true ts vs ds ps→(∀x∈ps,x.block<W.heap.size)→
   DataW.TrodAll enc P W' 0 (fun b=>decide (b<W.heap.size)) true ts vs ds ps
 |[],vs,ds,ps,_,h,_=>by obtain ⟨rfl,rfl,rfl⟩:=trodAll_nil h;exact trodAll_mk0
 |t::ts,vs,ds,ps,hr,h,hlt=>by
  obtain ⟨v,vs',d,ds',p,q,rfl,rfl,rfl,h0,h1⟩:=trodAll_cons h
  exact trodAll_cons_mk (Below.trod hl (hr t (by simp)).1 (hr t (by simp)).2 h0 hb (fun x hx=>hlt x (by simp [hx])))
   (z0z hl hb ts vs' ds' q (fun t ht=>hr t (by simp [ht])) h1 (fun x hx=>hlt x (by simp [hx])))
theorem law_post {f:Func} {s:ChangeSpec} {apart handsOn:Bool} {W W':World} {args:Array Value} {ds gs:List (DataW H)} {before:List MemPlace} {bt:TypeId} (hs:s.vars=[])
  (hres:(s.fn H (ds++gs)).results=[.lit (.bool true)]) (hargs:(s.fn H (ds++gs)).args=ds) (hvars:(s.fn H (ds++gs)).vars=[])
  (hl:laidOutB P=true) (hr: ∀t∈f.params.toList,P.readableRec t=true∧t<P.types.size) (hrt:f.resultTypes= #[bt]) (hbt:P.underlying bt=some .bool)
  (hW:DataW.Whole enc P f.params.toList s.vars apart W args.toList ds gs before) (hb:Below W.heap.size W W'):
  s.post enc P f apart true handsOn false W args (.bool true) W':=by
 have hlt: ∀x∈before,x.block<W.heap.size:=fun x hx=>by simpa using hW.lt x hx
 have hW':=hW;obtain ⟨p,q,hA,hV,rfl,_,_⟩:=hW;rw [hs] at hV;obtain ⟨rfl,rfl⟩:=trodVars_none hV;refine ⟨ds,[],p++[],[],p,[],hW',?_,?_,?_,hb.frame _,fun h=>by cases h⟩
 ·rw [hres,hrt];exact trodAll_cons_mk (shut_bool hbt _) trodAll_mk0
 ·rw [hargs];exact z0z hl hb _ _ _ _ hr hA (fun x hx=>hlt x (by simpa using hx))
 ·rw [hvars,hs];rfl
end
end Go.Proofs.YtbpgkkoeehopjaaGreat.frame
namespace Go.Proofs.YtbpgkkoeehopjaaGreat.typesysFields
open Go.ChangeMaps (open_string shut_string)
open Go.ChangeShapes Go.WideShapes Go.ChangeAt Go.RowKit words tree gram rd dat opn hp frame
set_option maxRecDepth 100000
theorem own:ownKnob Tryz.prog.godebug=none:=by kernel_rfl
theorem laidOut:laidOutB Tryz.prog=true:=by kernel_rfl
theorem bound {H:Type} {l:List (DataW H)} (hk:Rows.uptoSmall H l=true):Rows.uptoBulkAll l≤1048576:=Qa6 hk
theorem lo_in {w:World} {t:Leaf} {v:Value} (h:Reads w (Lo w.heap.size) t v):RD w t v:=⟨h.keep (fun b hb=>⟨Qak _,hb⟩) (fun _ _=>rfl),Qab _⟩
theorem contract (H:Type) (enc:TypeId×Value→H) (W:World) (base:Nat) (args:Array Value) (ds gs:List (DataW H)) (before:List MemPlace)
  (hval: ∀(j:Nat) t v,Tryz.f8.params[j]?=some t→args[j]?=some v→Value.okWide Tryz.prog W .any base t v)
  (hW:DataW.Whole enc Tryz.prog Tryz.f8.params.toList Rows.typesysFieldsSpec.vars false W args.toList ds gs before) (hk:Rows.uptoSmall H (ds++gs)=true):
  Calls Tryz.prog 8 args W fun e W'=>∃v,e= .returned v∧Rows.typesysFieldsSpec.post enc Tryz.prog Tryz.f8 false true false false W args v W':=by
 have hW':=hW;obtain ⟨p,q,hA0,hV,rfl,hfz,hnd⟩:=hW;have hA:DataW.TrodAll enc Tryz.prog W 0 (fun _=>true) true Tryz.f8.params.toList args.toList ds p:=hA0;rw [Tryz.params8] at hA hval;obtain ⟨v0,vs0,d0,ds0,p0,q0,hargs,rfl,rfl,h0,r0⟩:=trodAll_cons hA;obtain ⟨v1,vs1,d1,ds1,p1,q1,rfl,rfl,rfl,h1,r1⟩:=trodAll_cons r0;obtain ⟨v2,vs2,d2,ds2,p2,q2,rfl,rfl,rfl,h2,r2⟩:=trodAll_cons r1;obtain ⟨rfl,rfl,rfl⟩:=trodAll_nil r2
 obtain rfl:args= #[v0,v1,v2]:=by cases args;simp_all
 obtain ⟨rfl,rfl⟩:=trodVars_none hV;have hbulk:=bound hk;simp only [List.append_nil,Rows.uptoBulkAll] at hbulk;clear hk hA0;simp only [List.append_nil] at hW'
 have fin: ∀(e:Ending) (W':World),(e= .returned (.bool true)∧Below W.heap.size W W')→ ∃v,e= .returned v∧Rows.typesysFieldsSpec.post enc Tryz.prog Tryz.f8 false true false false W #[v0,v1,v2] v W':=fun e W' ⟨he,hb⟩=>by
  subst he;refine ⟨_,rfl,law_post rfl rfl rfl rfl laidOut ?_ (by kernel_rfl) Tryz.underlying4 hW' hb⟩;rw [Tryz.params8];intro t ht;simp only [Qbd,List.mem_nil_iff,or_false] at ht;rcases ht with rfl|rfl|rfl
  all_goals exact ⟨by kernel_rfl,Qa6 (by kernel_rfl)⟩
 obtain ⟨s0,rfl,rfl,-,-⟩:=open_string Tryz.underlying9 (hval 0 9 v0 rfl rfl) h0;obtain ⟨src,hx0⟩: ∃x:Txt,x=s0.data.toList:=⟨_,rfl⟩
 have es0:s0=str src:=by rw [hx0];exact (str_of s0).symm
 subst es0;rw [str_data] at hbulk
 have hl_src:src.length≤1048576:=by simp only [Rows.uptoBulk] at hbulk;omega
 obtain ⟨s1,rfl,rfl,-,-⟩:=open_string Tryz.underlying9 (hval 1 9 v1 rfl rfl) h1;obtain ⟨typ,hx1⟩: ∃x:Txt,x=s1.data.toList:=⟨_,rfl⟩
 have es1:s1=str typ:=by rw [hx1];exact (str_of s1).symm
 subst es1;rw [str_data] at hbulk
 have hl_typ:typ.length≤1048576:=by simp only [Rows.uptoBulk] at hbulk;omega
 obtain ⟨s2,rfl,rfl,-,-⟩:=open_string Tryz.underlying9 (hval 2 9 v2 rfl rfl) h2;obtain ⟨fld,hx2⟩: ∃x:Txt,x=s2.data.toList:=⟨_,rfl⟩
 have es2:s2=str fld:=by rw [hx2];exact (str_of s2).symm
 subst es2;rw [str_data] at hbulk
 have hl_fld:fld.length≤1048576:=by simp only [Rows.uptoBulk] at hbulk;omega
 exact (Fields_walk src typ fld W hl_src).mono fun e W' h=>fin e W' h
set_option maxRecDepth 100000 in
theorem lifted (os:Os) (started:os.Started) (H:Type) (enc:TypeId×Value→H) (F:Stop.Interp):
  ReturnsInHanded {} Tryz.checked os 8 .any ((Rows.OpenSpec.upto Rows.typesysFieldsSpec).pre6 enc Tryz.prog Tryz.f8 Rows.typesysFieldsUptoRow.domain false) (((Rows.OpenSpec.upto Rows.typesysFieldsSpec).at F).post enc Tryz.prog Tryz.f8 false true false false):=by
 refine returnsInHanded_of_cond (C:=Tryz.checked) (s:=Rows.OpenSpec.upto Rows.typesysFieldsSpec) (k:=Rows.uptoSmall) rfl own started (by kernel_rfl) Tryz.func8
  (OpenSpec.witness (enc:=enc) (C:=Tryz.checked) (s:=Rows.OpenSpec.upto Rows.typesysFieldsSpec) (k:=Rows.uptoSmall) rfl false ⟨#[], #[.string .empty,.string .empty,.string .empty],[]⟩ 8 (by kernel_rfl) (by kernel_rfl) (by kernel_rfl)
    (x:=([.lit (.string []),.lit (.string []),.lit (.string [])],[],[])) (by kernel_rfl) rfl (by kernel_rfl)) ?_
 intro W base args ds gs before hval hW _ hk _;exact contract H enc W base args ds gs before hval hW hk
theorem and_tt {a b:Bool} (h:a=true) (h':b=true):(a&&b)=true:=by rw [h,h'];rfl
set_option maxHeartbeats 64000000 in
theorem closed:joinedFacts Tryz.prog 8 Tryz.f8 (Rows.OpenSpec.upto Rows.typesysFieldsSpec).bare Rows.typesysFieldsUptoRow=true:=by
 unfold joinedFacts
 repeat' (with_reducible refine and_tt ?_ ?_)
 all_goals (as_aux_lemma=>kernel_rfl)
theorem inst:Tryz.f8.isInstance Tryz.prog Rows.typesysFieldsUptoRow.origin Rows.typesysFieldsUptoRow.targs:=Qa6 (by kernel_rfl)
theorem proved:Rows.TypesysFieldsUptoSaid:=
 OpenClaim.holds_of_cond 8 Tryz.f8 rfl rfl rfl rfl rfl rfl rfl ⟨rfl,rfl,rfl,rfl,rfl⟩ rfl rfl rfl rfl rfl (by kernel_rfl) Tryz.func8 closed
  inst (by unfold Func.isWrapper;first|(rw [if_pos (by decide+kernel)];kernel_rfl)|(rw [if_neg (by decide+kernel)];exact ⟨rfl,rfl⟩))
  (fun os started H enc _ F=>lifted os started H enc F)
#print axioms proved
end Go.Proofs.YtbpgkkoeehopjaaGreat.typesysFields
