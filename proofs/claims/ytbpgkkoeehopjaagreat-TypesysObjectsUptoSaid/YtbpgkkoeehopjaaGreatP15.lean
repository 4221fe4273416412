/- Part 15 of 17 of a proof: see the last part. -/
import Derived.Test.YtbpgkkoeehopjaaGreatP10
import Derived.Test.YtbpgkkoeehopjaaGreatP11
import Derived.Test.YtbpgkkoeehopjaaGreatP14
import Derived.Deep.QuietTactic
import Derived.BigQuiet
set_option linter.unusedVariables false
set_option linter.unusedSimpArgs false
namespace Go.Proofs.YtbpgkkoeehopjaaGreat.hp
open Go.RowKit words enc tree gram lex rd dec dat held
set_option maxRecDepth 100000
set_option maxHeartbeats 40000000
attribute [local go_sem ↓] Go.wp_at_zero Go.wp_at_succ
section
variable {w0 w K : World} {M : List Ent}
theorem z87 {l:List DirD} {A:Option Addr} {c:Nat} (hm:sumN dirN l≤9000000) (hd:RD K (.list l.length (y17 l)) (.slice A l.length c)) (H:Hp w0 w K M):
  Calls Tryz.prog 129 #[.slice A l.length c] w fun e w'=>∃K' A' c' vs,e= .returned (.slice A' l.length c')∧Sat K' K∧RL K' (y17 l) vs∧Hp w0 w' K' (.row 181 4 (.slice A' l.length c') l.length vs::M):=by
 have hn:=Qah (y0p y4d l) hm;have HX:=hide (show ∀x∈l,dirN x≤9000000 from fun x hx=>by obtain ⟨k,hk⟩:=Qaq hx;have:=y8d (f:=dirN) hk;omega);obtain ⟨n,hn2⟩: ∃x,l.length=x:=⟨_,rfl⟩;rw [hn2] at hd hn ⊢;have HN:=hide hn2;clear hn2 hm;go_enter Tryz.func129,Tryz.ntmps129
 go_wp2_with fail
 replace H:=H.nilRow 181 4
 go_loopw [3,4] (fun v i wr=>∃(K':World) (k:Nat) (A':Option Addr) (c':Nat) (vs:List Value),k≤n∧i= .int .i64 k∧v= .slice A' k c'∧Sat K' K∧RL K' (y17 (l.take k)) vs∧Hp w0 wr K' (.row 181 4 (.slice A' k c') k vs::M)) (fun _ i _=>n - (intOf i).toNat)
 case atStart=>exact ⟨K,0,none,0,[],Qak _,rfl,rfl,Sat.refl _,.nil (Qab _),H⟩
 case round=>
  clear H;obtain ⟨K',k,A',c',vs,hk,rfl,rfl,hle,hvs,H⟩:=hrel;replace hd:=hd.sat hle;by_cases hlt:k<n
  ·obtain ⟨x,ad,us,hx,rfl,hxl,hat⟩:=el_k (m:=4) (f:=dirL) (fun _=>rfl) hd (by rw [HN.out];exact hlt) (by decide);obtain ⟨hkI,hwr⟩:=wr_k hlt hn;have hxn:=HX.out x (Qaf hx);have HT:=hide (y0k hx);obtain ⟨dn,args,dl,dc⟩:=x;obtain ⟨Aa,ca,rfl,ha⟩:=z7i hxl;simp only [dirN] at hxn
   have hna:args.length≤9000000:=by have:=y6y args;omega
   have HF:=hide (show ∀x∈args,pairN x≤9000000 from fun x hx=>by obtain ⟨k,hk⟩:=Qaq hx;have:=y9n hk;omega);dsimp only at ha hat;rw [y3z] at ha;obtain ⟨na,hna2⟩: ∃x,args.length=x:=⟨_,rfl⟩;rw [hna2] at ha hna hat;have HNA:=hide hna2;clear hx hna2 hxn hxl;have hat8:At K' ⟨(ad.add (k*4)).block,(ad.add (k*4)).off+2,none⟩ [_,_]:=z86 (us:=[_,_]) (vs:=[_,_]) (ws:=[]) (k:=1) hat rfl
   go_upto_region 5 with (first|(refine oL H ?_)|(refine oP H ?_;clear H;intro w _ H))
   refine rB [12] H ?_;clear H;intro w H;refine rT 0 H ?_;refine rT 1 H ?_;refine rT 2 H ?_;refine rT 3 H ?_;refine rT 4 H ?_;refine rT 5 H ?_;refine rT 6 H ?_;refine rT 7 H ?_;refine rT 8 H ?_;refine rT 9 H ?_;refine rT 10 H ?_;refine rW 11 H ?_;clear H;intro w gd H;refine rL 12 H ?_;clear H;intro w _ H;refine rE ?_
   go_wp2_with (first|(refine oL H ?_)|(refine oP H ?_;clear H;intro w _ H))
   replace H:=H.nilRow 185 10
   go_loopw [6] (fun i wq=>∃(K2:World) (j:Nat) (A2:Option Addr) (c2:Nat) (vs2:List Value),j≤na∧i= .int .i64 j∧Sat K2 K'∧RL K2 (pairsL (args.take j)) vs2∧Hp w0 wq K2 (.row 185 10 (.slice A2 j c2) j vs2:: .box gd [.string (str dn),.slice A2 j c2,.int .i64 dl,.int .i64 dc] 181:: .row 181 4 (.slice A' k c') k vs::M)) (fun i _=>na - (intOf i).toNat)
   case atStart=>exact ⟨K',0,none,0,[],Qak _,rfl,Sat.refl _,.nil (Qab _),H⟩
   case round=>
    clear H;obtain ⟨K2,j,A2,c2,vs2,hj,rfl,hle2,hvs2,H⟩:=hrel;replace ha:=ha.sat hle2;replace hat:=At.sat hat hle2;by_cases hlt2:j<na
    ·obtain ⟨x,ad,us,hx,rfl,hxl,hat2⟩:=el_k y9j ha (by rw [HNA.out];exact hlt2) (by decide);obtain ⟨hjI,hwj⟩:=wr_k hlt2 hna;have hxn:=HF.out x (Qaf hx);have HY:=hide (y0k hx);obtain ⟨pn,⟨dk,dt,db,di,df,dln,dcl⟩,pl,pc⟩:=x;obtain ⟨ls,rfl,hvl⟩:=y7i hxl;obtain ⟨Xi,xi,Xf,xf,rfl,-,-⟩:=y03 hvl;have hc:=fun {w M} (h:Hp w0 w K2 M)=>z5g 9000000 _ #[_,_,_,_,_,_,_] w0 w K2 M (by simp only [pairN] at hxn;omega) (Qab _) hvl h;simp only [List.cons_append,List.nil_append] at hat2;clear hx hxl
     go_wp2_with (first|(refine oL H ?_)|(refine oA 7 H ?_;clear H;intro w gx H)|(refine oP H ?_;clear H;intro w _ H)|((with_reducible refine (hc H).mono ?_);clear H;rintro e w ⟨K3,cs,rfl,hle3,H,he⟩;obtain ⟨Bi,bi,Bf,bf,hcs,-,-⟩:=y03 he;obtain rfl:cs= #[_,_,_,_,_,_,_]:=Qal.1 hcs;clear hcs)|(refine oQ H ?_;clear H;intro A' c' w _ _ H;dsimp only [List.set] at H))
     have hpe:RL K3 (pairL (.mk pn (.mk dk dt db di df dln dcl) pl pc)) [.string (str pn),.int .i64 dk,.string (str dt),.bool db,.slice Bi di.length bi,.slice Bf df.length bf,.int .i64 dln,.int .i64 dcl,.int .i64 pl,.int .i64 pc]:=DatL.lit (DatL.app he (DatL.lit (DatL.lit (DatL.nil he.le))));go_roundw
     case rel=>exact ⟨K3,j+1,_,_,_,by omega,by go_num,hle3.trans hle2,by rw [HY.out,y4k];exact (hvs2.sat hle3).app (by simpa [pairsL] using hpe),H.fin⟩
     case measure=>simp [intOf];omega
    ·obtain rfl:j=na:=by omega
     rw [Qaj (by rw [HNA.out];exact Qab _)] at hvs2;obtain ⟨K3,hle3,H,hd1⟩:=H.freezeRow hvs2;replace hat:=At.sat hat hle3;have hde:RL K3 (dirL ⟨dn,args,dl,dc⟩) [.string (str dn),.slice A2 j c2,.int .i64 dl,.int .i64 dc]:=.lit (.cons (by rw [HNA.out];exact hd1) (.lit (.lit (.nil (Qab _)))))
     go_wp2_with (first|(refine oL H ?_)|(refine oP H ?_;clear H;intro w _ H)|(refine oQ H ?_;clear H;intro A' c' w _ _ H;dsimp only [List.set] at H))
     go_roundw
     case rel=>exact ⟨K3,k+1,_,_,_,by omega,by go_num,rfl,hle3.trans (hle2.trans hle),by rw [HT.out,y4t];exact (hvs.sat (hle3.trans hle2)).app (y72 (f:=dirL) hde),H.fin⟩
     case measure=>simp [intOf];omega
  ·obtain rfl:k=n:=by omega
   rw [Qaj (by rw [HN.out];exact Qab _)] at hvs
   go_wp2_with fail
   go_ret;exact ⟨K',A',c',vs,rfl,hle,hvs,H⟩
theorem z1x {l:List DirD} {A:Option Addr} {c:Nat} (hm:sumN dirN l≤9000000) (hd:RD K (.list l.length (y17 l)) (.slice A l.length c)) (H:Hp w0 w K M):
  Calls Tryz.prog 129 #[.slice A l.length c] w fun e w'=>∃K' A' c',e= .returned (.slice A' l.length c')∧Sat K' K∧Hp w0 w' K' M∧RD K' (.list l.length (y17 l)) (.slice A' l.length c'):=
 (z87 hm hd H).mono fun e w' ⟨K',A',c',vs,he,hle,hvs,H⟩=>by
   obtain ⟨K2,hle2,H,hd⟩:=H.freezeRow hvs;exact ⟨K2,A',c',he,hle2.trans hle,H,hd⟩
theorem z3x {l:List InputD} {A:Option Addr} {c:Nat} (hm:sumN y15 l≤9000000) (hd:RD K (.list l.length (y0l l)) (.slice A l.length c)) (H:Hp w0 w K M):
  Calls Tryz.prog 130 #[.slice A l.length c] w fun e w'=>∃K' A' c' vs,e= .returned (.slice A' l.length c')∧Sat K' K∧RL K' (y0l l) vs∧Hp w0 w' K' (.row 123 17 (.slice A' l.length c') l.length vs::M):=by
 have hn:=Qah (y0p y23 l) hm;have HX:=hide (show ∀x∈l,y15 x≤9000000 from fun x hx=>by obtain ⟨k,hk⟩:=Qaq hx;have:=y8d (f:=y15) hk;omega);obtain ⟨n,hn2⟩: ∃x,l.length=x:=⟨_,rfl⟩;rw [hn2] at hd hn ⊢;have HN:=hide hn2;clear hn2 hm;go_enter Tryz.func130,Tryz.ntmps130
 go_wp2_with fail
 replace H:=H.nilRow 123 17
 go_loopw [3,4] (fun v i wr=>∃(K':World) (k:Nat) (A':Option Addr) (c':Nat) (vs:List Value),k≤n∧i= .int .i64 k∧v= .slice A' k c'∧Sat K' K∧RL K' (y0l (l.take k)) vs∧Hp w0 wr K' (.row 123 17 (.slice A' k c') k vs::M)) (fun _ i _=>n - (intOf i).toNat)
 case atStart=>exact ⟨K,0,none,0,[],Qak _,rfl,rfl,Sat.refl _,.nil (Qab _),H⟩
 case round=>
  clear H;obtain ⟨K',k,A',c',vs,hk,rfl,rfl,hle,hvs,H⟩:=hrel;replace hd:=hd.sat hle;by_cases hlt:k<n
  ·obtain ⟨x,ad,us,hx,rfl,hxl,hat⟩:=el_k z0f hd (by rw [HN.out];exact hlt) (by decide);obtain ⟨hkI,hwr⟩:=wr_k hlt hn;have hxn:=HX.out x (Qaf hx);have HT:=hide (y0k hx);obtain ⟨⟨nh,nb,nt⟩,dn,⟨tn,tw⟩,dh,⟨dk,dt,db,di,df,dln,dcl⟩,ds,dl,dc⟩:=x;obtain ⟨ls,Ad,cd,rfl,hvl,hds⟩:=z2m hxl;obtain ⟨Xi,xi,Xf,xf,rfl,-,-⟩:=y03 hvl;simp only [y15] at hxn;have hc:=fun {w M} (h:Hp w0 w K' M)=>z5g 9000000 _ #[_,_,_,_,_,_,_] w0 w K' M (by omega) (Qab _) hvl h;have hc2:=fun {w K M} (h:Hp w0 w K M) (hd:RD K (.list ds.length (y17 ds)) (.slice Ad ds.length cd))=>z1x (by omega) hd h;simp only [List.cons_append,List.nil_append] at hat;clear hx hxl
   go_wp2_with (first|(refine oL H ?_)|(refine oP H ?_;clear H;intro w _ H)|((with_reducible refine (hc H).mono ?_);clear hc H;rintro e w ⟨K2,cs,rfl,hle2,H,he⟩;obtain ⟨Bi,bi,Bf,bf,hcs,-,-⟩:=y03 he;obtain rfl:cs= #[_,_,_,_,_,_,_]:=Qal.1 hcs;clear hcs;replace hds:=hds.sat hle2)|((with_reducible refine (hc2 H hds).mono ?_);clear hc2 H;rintro e w ⟨K3,Ae,ce,rfl,hle3,H,hde⟩)|(refine oQ H ?_;clear H;intro A' c' w _ _ H;dsimp only [List.set] at H))
   have hpe:=y7g (nh:=nh) (nb:=nb) (nt:=nt) (dn:=dn) (tn:=tn) (tw:=tw) (dh:=dh) (dl:=dl) (dc:=dc) (he.sat hle3) hde;go_roundw
   case rel=>exact ⟨K3,k+1,_,_,_,by omega,by go_num,rfl,hle3.trans (hle2.trans hle),by rw [HT.out,y3l];exact (hvs.sat (hle3.trans hle2)).app (y72 (f:=y49) hpe),H.fin⟩
   case measure=>simp [intOf];omega
  ·obtain rfl:k=n:=by omega
   rw [Qaj (by rw [HN.out];exact Qab _)] at hvs
   go_wp2_with fail
   go_ret;exact ⟨K',A',c',vs,rfl,hle,hvs,H⟩
theorem z5h {l:List InputD} {A:Option Addr} {c:Nat} (hm:sumN y15 l≤9000000) (hd:RD K (.list l.length (y0l l)) (.slice A l.length c)) (H:Hp w0 w K M):
  Calls Tryz.prog 130 #[.slice A l.length c] w fun e w'=>∃K' A' c',e= .returned (.slice A' l.length c')∧Sat K' K∧Hp w0 w' K' M∧RD K' (.list l.length (y0l l)) (.slice A' l.length c'):=
 (z3x hm hd H).mono fun e w' ⟨K',A',c',vs,he,hle,hvs,H⟩=>by
   obtain ⟨K2,hle2,H,hd⟩:=H.freezeRow hvs;exact ⟨K2,A',c',he,hle2.trans hle,H,hd⟩
theorem z3y {l:List FieldD} {A:Option Addr} {c:Nat} (hm:sumN y22 l≤9000000) (hd:RD K (.list l.length (y0r l)) (.slice A l.length c)) (H:Hp w0 w K M):
  Calls Tryz.prog 88 #[.slice A l.length c] w fun e w'=>∃K' A' c' vs,e= .returned (.slice A' l.length c')∧Sat K' K∧RL K' (y0r l) vs∧Hp w0 w' K' (.row 52 10 (.slice A' l.length c') l.length vs::M):=by
 have hn:=Qah (y0p y24 l) hm;have HX:=hide (show ∀x∈l,y22 x≤9000000 from fun x hx=>by obtain ⟨k,hk⟩:=Qaq hx;have:=y8d (f:=y22) hk;omega);obtain ⟨n,hn2⟩: ∃x,l.length=x:=⟨_,rfl⟩;rw [hn2] at hd hn ⊢;have HN:=hide hn2;clear hn2 hm;go_enter Tryz.func88,Tryz.ntmps88
 go_wp2_with fail
 replace H:=H.nilRow 52 10
 go_loopw [3,4] (fun v i wr=>∃(K':World) (k:Nat) (A':Option Addr) (c':Nat) (vs:List Value),k≤n∧i= .int .i64 k∧v= .slice A' k c'∧Sat K' K∧RL K' (y0r (l.take k)) vs∧Hp w0 wr K' (.row 52 10 (.slice A' k c') k vs::M)) (fun _ i _=>n - (intOf i).toNat)
 case atStart=>exact ⟨K,0,none,0,[],Qak _,rfl,rfl,Sat.refl _,.nil (Qab _),H⟩
 case round=>
  clear H;obtain ⟨K',k,A',c',vs,hk,rfl,rfl,hle,hvs,H⟩:=hrel;replace hd:=hd.sat hle;by_cases hlt:k<n
  ·obtain ⟨x,ad,us,hx,rfl,hxl,hat⟩:=el_k (m:=10) (f:=y20) (fun _=>rfl) hd (by rw [HN.out];exact hlt) (by decide);obtain ⟨hkI,hwr⟩:=wr_k hlt hn;have hxn:=HX.out x (Qaf hx);have HT:=hide (y0k hx);obtain ⟨⟨nh,nb,nt⟩,dn,args,⟨tn,tw⟩,ds,dl,dc⟩:=x;obtain ⟨Aa,ca,Ad,cd,rfl,has,hds⟩:=y4u hxl;simp only [y22] at hxn;have hc:=fun {w K M} (h:Hp w0 w K M) (hd:RD K (.list args.length (y0l args)) (.slice Aa args.length ca))=>z5h (by omega) hd h;have hc2:=fun {w K M} (h:Hp w0 w K M) (hd:RD K (.list ds.length (y17 ds)) (.slice Ad ds.length cd))=>z1x (by omega) hd h;clear hx hxl
   go_wp2_with (first|(refine oL H ?_)|(refine oA 5 H ?_;clear H;intro w gx H)|(refine oP H ?_;clear H;intro w _ H)|((with_reducible refine (hc H has).mono ?_);clear H;rintro e w ⟨K2,Ab,cb,rfl,hle2,H,hb⟩;clear hc;replace hds:=hds.sat hle2)|((with_reducible refine (hc2 H hds).mono ?_);clear H;rintro e w ⟨K3,Ae,ce,rfl,hle3,H,hde⟩;clear hc2)|(refine oQ H ?_;clear H;intro A' c' w _ _ H;dsimp only [List.set] at H))
   have hpe:=y3m (nh:=nh) (nb:=nb) (nt:=nt) (dn:=dn) (tn:=tn) (tw:=tw) (dl:=dl) (dc:=dc) (hb.sat hle3) hde;go_roundw
   case rel=>exact ⟨K3,k+1,_,_,_,by omega,by go_num,rfl,hle3.trans (hle2.trans hle),by rw [HT.out,y18];exact (hvs.sat (hle3.trans hle2)).app (y72 (f:=y20) hpe),H.fin⟩
   case measure=>simp [intOf];omega
  ·obtain rfl:k=n:=by omega
   rw [Qaj (by rw [HN.out];exact Qab _)] at hvs
   go_wp2_with fail
   go_ret;exact ⟨K',A',c',vs,rfl,hle,hvs,H⟩
theorem x5r {l:List FieldD} {A:Option Addr} {c:Nat} (hm:sumN y22 l≤9000000) (hd:RD K (.list l.length (y0r l)) (.slice A l.length c)) (H:Hp w0 w K M):
  Calls Tryz.prog 88 #[.slice A l.length c] w fun e w'=>∃K' A' c',e= .returned (.slice A' l.length c')∧Sat K' K∧Hp w0 w' K' M∧RD K' (.list l.length (y0r l)) (.slice A' l.length c'):=
 (z3y hm hd H).mono fun e w' ⟨K',A',c',vs,he,hle,hvs,H⟩=>by
   obtain ⟨K2,hle2,H,hd⟩:=H.freezeRow hvs;exact ⟨K2,A',c',he,hle2.trans hle,H,hd⟩
theorem z3z {l:List ValueD} {A:Option Addr} {c:Nat} (hm:sumN y3c l≤9000000) (hd:RD K (.list l.length (y08 l)) (.slice A l.length c)) (H:Hp w0 w K M):
  Calls Tryz.prog 131 #[.slice A l.length c] w fun e w'=>∃K' A' c' vs,e= .returned (.slice A' l.length c')∧Sat K' K∧RL K' (y08 l) vs∧Hp w0 w' K' (.row 133 7 (.slice A' l.length c') l.length vs::M):=by
 have hn:=Qah (y0p y4m l) hm;have HX:=hide (show ∀x∈l,y3c x≤9000000 from fun x hx=>by obtain ⟨k,hk⟩:=Qaq hx;have:=y8d (f:=y3c) hk;omega);obtain ⟨n,hn2⟩: ∃x,l.length=x:=⟨_,rfl⟩;rw [hn2] at hd hn ⊢;have HN:=hide hn2;clear hn2 hm;go_enter Tryz.func131,Tryz.ntmps131
 go_wp2_with fail
 replace H:=H.nilRow 133 7
 go_loopw [3,4] (fun v i wr=>∃(K':World) (k:Nat) (A':Option Addr) (c':Nat) (vs:List Value),k≤n∧i= .int .i64 k∧v= .slice A' k c'∧Sat K' K∧RL K' (y08 (l.take k)) vs∧Hp w0 wr K' (.row 133 7 (.slice A' k c') k vs::M)) (fun _ i _=>n - (intOf i).toNat)
 case atStart=>exact ⟨K,0,none,0,[],Qak _,rfl,rfl,Sat.refl _,.nil (Qab _),H⟩
 case round=>
  clear H;obtain ⟨K',k,A',c',vs,hk,rfl,rfl,hle,hvs,H⟩:=hrel;replace hd:=hd.sat hle;by_cases hlt:k<n
  ·obtain ⟨x,ad,us,hx,rfl,hxl,hat⟩:=el_k (m:=7) (f:=y8a) (fun _=>rfl) hd (by rw [HN.out];exact hlt) (by decide);obtain ⟨hkI,hwr⟩:=wr_k hlt hn;have hxn:=HX.out x (Qaf hx);have HT:=hide (y0k hx);obtain ⟨⟨nh,nb,nt⟩,dn,ds,dl,dc⟩:=x;obtain ⟨Ad,cd,rfl,hds⟩:=z2n hxl;simp only [y3c] at hxn;have hc:=fun {w M} (h:Hp w0 w K' M)=>z1x (by omega) hds h;clear hx hxl
   go_wp2_with (first|(refine oL H ?_)|(refine oA 5 H ?_;clear H;intro w gx H)|(refine oP H ?_;clear H;intro w _ H)|((with_reducible refine (hc H).mono ?_);clear H;rintro e w ⟨K3,Ae,ce,rfl,hle3,H,hde⟩;clear hc)|(refine oQ H ?_;clear H;intro A' c' w _ _ H;dsimp only [List.set] at H))
   have hpe:=y7h (nh:=nh) (nb:=nb) (nt:=nt) (dn:=dn) (dl:=dl) (dc:=dc) hde;go_roundw
   case rel=>exact ⟨K3,k+1,_,_,_,by omega,by go_num,rfl,hle3.trans hle,by rw [HT.out,y2y];exact (hvs.sat hle3).app (y72 (f:=y8a) hpe),H.fin⟩
   case measure=>simp [intOf];omega
  ·obtain rfl:k=n:=by omega
   rw [Qaj (by rw [HN.out];exact Qab _)] at hvs
   go_wp2_with fail
   go_ret;exact ⟨K',A',c',vs,rfl,hle,hvs,H⟩
theorem x5s {l:List ValueD} {A:Option Addr} {c:Nat} (hm:sumN y3c l≤9000000) (hd:RD K (.list l.length (y08 l)) (.slice A l.length c)) (H:Hp w0 w K M):
  Calls Tryz.prog 131 #[.slice A l.length c] w fun e w'=>∃K' A' c',e= .returned (.slice A' l.length c')∧Sat K' K∧Hp w0 w' K' M∧RD K' (.list l.length (y08 l)) (.slice A' l.length c'):=
 (z3z hm hd H).mono fun e w' ⟨K',A',c',vs,he,hle,hvs,H⟩=>by
   obtain ⟨K2,hle2,H,hd⟩:=H.freezeRow hvs;exact ⟨K2,A',c',he,hle2.trans hle,H,hd⟩
theorem y7y {l:List NamedD} {A:Option Addr} {c n:Nat} (hn:n≤9000000) (hd:RD K (.list n (y0o l)) (.slice A n c)) (hl:l.length=n) (H:Hp w0 w K M):
  Calls Tryz.prog 128 #[.slice A n c] w fun e w'=>∃A' c' vs,e= .returned (.slice A' n c')∧RL K (y0o l) vs∧Hp w0 w' K (.row 113 3 (.slice A' n c') n vs::M):=by
 subst hl;go_enter Tryz.func128,Tryz.ntmps128
 go_wp2_with (refine oN H ?_;clear H;intro u A' c' w q _ _ H)
 go_ret;exact ⟨A',c',u,rfl,q,H⟩
theorem z88 {l:List NamedD} {A:Option Addr} {c n:Nat} (hn:n≤9000000) (hd:RD K (.list n (y0o l)) (.slice A n c)) (hl:l.length=n) (H:Hp w0 w K M):
  Calls Tryz.prog 128 #[.slice A n c] w fun e w'=>∃K' A' c',e= .returned (.slice A' n c')∧Sat K' K∧Hp w0 w' K' M∧RD K' (.list n (y0o l)) (.slice A' n c'):=
 (y7y hn hd hl H).mono fun e w' ⟨A',c',vs,he,hvs,H⟩=>by
   obtain ⟨K2,hle2,H,hd⟩:=H.freezeRow hvs;exact ⟨K2,A',c',he,hle2,H,hd⟩
theorem z5i {l:List RootD} {A:Option Addr} {c n:Nat} (hn:n≤9000000) (hd:RD K (.list n (y2a l)) (.slice A n c)) (hl:l.length=n) (H:Hp w0 w K M):
  Calls Tryz.prog 132 #[.slice A n c] w fun e w'=>∃A' c' vs,e= .returned (.slice A' n c')∧RL K (y2a l) vs∧Hp w0 w' K (.row 100 4 (.slice A' n c') n vs::M):=by
 subst hl;go_enter Tryz.func132,Tryz.ntmps132
 go_wp2_with (refine oN H ?_;clear H;intro u A' c' w q _ _ H)
 go_ret;exact ⟨A',c',u,rfl,q,H⟩
theorem x9v {l:List RootD} {A:Option Addr} {c n:Nat} (hn:n≤9000000) (hd:RD K (.list n (y2a l)) (.slice A n c)) (hl:l.length=n) (H:Hp w0 w K M):
  Calls Tryz.prog 132 #[.slice A n c] w fun e w'=>∃K' A' c',e= .returned (.slice A' n c')∧Sat K' K∧Hp w0 w' K' M∧RD K' (.list n (y2a l)) (.slice A' n c'):=
 (z5i hn hd hl H).mono fun e w' ⟨A',c',vs,he,hvs,H⟩=>by
   obtain ⟨K2,hle2,H,hd⟩:=H.freezeRow hvs;exact ⟨K2,A',c',he,hle2,H,hd⟩
end
section
variable {P : Program} {w0 w K K' : World} {M N : List Ent} {ops : Array Oper} {Q : Exit → Act → World → Prop} {F : List Nat} {fuel : Nat} {listed : Array Bool} {a : Act} {oi : Oper}
theorem rR (i:Nat) (H:Hp w0 w K' N) {s x:Operand} {t e:TypeId} {size bytes n m c r:Nat} {A:Option Addr} {ls:List Leaf} {v:Value} {vs:List Value} {a':Option Addr→Nat→Act}
  (h: ∀us A' c' w',RL K' ls us→n+m≤c'→c'≤maxLen→Hp w0 w' K' (N.set r (.row e size (.slice A' (n+m) c') (n+m) (vs++us)))→AnyL P .any ops Q (Ov w0 K M) F fuel (listed.setIfInBounds i true) (a' A' c') w')
  (hr:Region.ready .any ops listed=[i]:=by kernel_rfl) (hi:ops[i]?=some oi:=by (simp only [List.getElem?_toArray,List.getElem?_cons_zero,List.getElem?_cons_succ];try rfl))
  (ho:oi.op= .call {callee:=.builtin .append,args:= #[s,x],argTypes:= #[t,t]}:=by rfl) (hx:a.eval x= .slice A m c:=by first|exact (rfl:_=Value.slice _ _ _)|rfl|fail) (hsl:Sli P t e size bytes:=by infer_instance) (hs:a.eval s=v:=by first|exact (rfl:_=Value.slice _ _ _)|rfl|fail)
  (hri:N[r]?=some (.row e size v n vs):=by ((repeat (first|exact i0|apply iS))<;>fail)) (hd:RD K' (.list m ls) (.slice A m c):=by assumption) (hlen:ls.length=m*size:=by simp only [y3n,y9o,y8v,y8w,y8x,y4l])
  (hb:(n+m)*bytes≤140737488355328:=by omega) (ha: ∀A' c',a.put oi.dst (.slice A' (n+m) c')=a' A' c':=by (intro A c;simp only [Act.put,List.getElem_toArray,List.getElem_cons_zero,List.getElem_cons_succ,List.setIfInBounds_toArray,List.set_cons_zero,List.set_cons_succ];try rfl))
  (hgd:oi.guard=none:=by rfl) (hle:Sat K' K:=by first|exact Sat.refl _|assumption|fail) (hsf: ∀A' c' us,Inc M (N.set r (.row e size (.slice A' (n+m) c') (n+m) (vs++us))):=by (intro A c us;dsimp only [List.set];first|((repeat (first|exact n0|exact nN|apply nD))<;>fail)|((repeat (first|exact n0|exact nN|refine nS (by ((repeat (first|exact u0|apply uS))<;>fail)) ?_|apply nD))<;>fail)|fail)):AnyL P .any ops Q (Ov w0 K M) F (fuel+1) listed a w:=
 held.step hr hi fun Kq hKq=>by
  obtain ⟨ti,z,hu,hti,hz,hsz,hby,hzs,h0,hb0⟩:=hsl.h;obtain ⟨us,h1,h2,h3,h4⟩:=z94 H hd;have hown:w.ownsRow 0 e size v n vs:=H.ok _ (Qaf hri);have hmul:(n+m)*1≤(n+m)*bytes:=Qb3 _ hb0;rw [if_pos (z2q hgd)];obtain ⟨v',w',hrun,g2,g3,g4⟩:=y88 (P:=P) w 0 t oi.type e ti z size bytes hu hti hz hsz hby hzs h0 v n vs hown w.heap.size A m c us (h3.trans hlen) h2 h4 (by simp only [maxLen];omega) hb (Qak _);unfold Oper.wp execOp;simp only [ho,resolve,invoke,builtin,Sem.run_bind,Sem.run_pure,Result.andThen_ok,List.map_toArray,List.map_cons,List.map_nil,hs,hx,hrun];have H':=H.setAt (e':=.row e size v' (n+m) (vs++us)) hri g3 g2 (g4.imp id fun h=>⟨_,h,Qab _⟩);obtain ⟨A',c',rfl,q2,q3⟩:=H'.slice (i:=r) (Qbv (Qac.1 hri).1);exact hKq.out _ _ (fun _=>⟨K',_,hle,H',hsf A' c' us⟩) (fun _=>by rw [ha A' c'];exact h us A' c' w' h1 q2 q3 H')
end
section
variable {w0 w K : World} {M : List Ent}
theorem y69 (d:DefD) (cs:Array Value) (H:Hp w0 w K M) (hm:defN d≤9000000) (hd:RL K (defL d) cs.toList):
  Calls Tryz.prog 86 #[.agg cs] w fun e w'=>∃K' V,e= .returned (.agg (DV.cells d V).toArray)∧Sat K' K∧Hp w0 w' K' (DV.rows d V++M)∧V.ok K' d:=by
 obtain ⟨kind,ext,⟨nh,nb,nt⟩,name,li,ld,lf,lp,lm,lv,lr,rep,lq,dl,dc⟩:=d;obtain ⟨A6,c6,A7,c7,A8,c8,A9,c9,A10,c10,A11,c11,A12,c12,A14,c14,hcs,h6,h7,h8,h9,h10,h11,h12,h14⟩:=y0e hd;obtain rfl:cs= #[_,_,_,_,_,_,_,_,_,_,_,_,_,_,_,_,_]:=Qal.1 hcs;dsimp only at h6 h7 h8 h9 h10 h11 h12 h14;simp only [defN] at hm
 have b6:li.length≤9000000∧sumN dirN ld≤9000000∧sumN y22 lf≤9000000∧sumN y15 lp≤9000000∧lm.length≤9000000∧sumN y3c lv≤9000000∧lr.length≤9000000∧lq.length≤9000000:=by omega
 obtain ⟨b6,b7,b8,b9,b10,b11,b12,b14⟩:=b6;clear hcs hd hm;have k6:=fun {w K M} (h:Hp w0 w K M) (hd:RD K (.list li.length (y0o li)) (.slice A6 li.length c6))=>y7y b6 hd rfl h;have k10:=fun {w K M} (h:Hp w0 w K M) (hd:RD K (.list lm.length (y0o lm)) (.slice A10 lm.length c10))=>y7y b10 hd rfl h;have k14:=fun {w K M} (h:Hp w0 w K M) (hd:RD K (.list lq.length (y0o lq)) (.slice A14 lq.length c14))=>y7y b14 hd rfl h;have k12:=fun {w K M} (h:Hp w0 w K M) (hd:RD K (.list lr.length (y2a lr)) (.slice A12 lr.length c12))=>z5i b12 hd rfl h;have k7:=fun {w K M} (h:Hp w0 w K M) (hd:RD K (.list ld.length (y17 ld)) (.slice A7 ld.length c7))=>z87 b7 hd h;have k8:=fun {w K M} (h:Hp w0 w K M) (hd:RD K (.list lf.length (y0r lf)) (.slice A8 lf.length c8))=>z3y b8 hd h;have k9:=fun {w K M} (h:Hp w0 w K M) (hd:RD K (.list lp.length (y0l lp)) (.slice A9 lp.length c9))=>z3x b9 hd h;have k11:=fun {w K M} (h:Hp w0 w K M) (hd:RD K (.list lv.length (y08 lv)) (.slice A11 lv.length c11))=>z3z b11 hd h;go_enter Tryz.func86,Tryz.ntmps86
 go_wp2_with (first|(refine oL H ?_)|(refine oP H ?_;clear H;intro w _ H)|((with_reducible refine (k6 H h6).mono ?_);clear H;rintro e w ⟨B6,e6,u6,rfl,q6,H⟩;clear k6)|((with_reducible refine (k7 H h7).mono ?_);clear H;rintro e w ⟨K2,B7,e7,u7,rfl,hle2,q7,H⟩;clear k7;replace q6:=q6.sat hle2;replace h8:=h8.sat hle2;replace h9:=h9.sat hle2;replace h10:=h10.sat hle2;replace h11:=h11.sat hle2;replace h12:=h12.sat hle2;replace h14:=h14.sat hle2)|((with_reducible refine (k8 H h8).mono ?_);clear H;rintro e w ⟨K3,B8,e8,u8,rfl,hle3,q8,H⟩;clear k8;replace q6:=q6.sat hle3;replace q7:=q7.sat hle3;replace h9:=h9.sat hle3;replace h10:=h10.sat hle3;replace h11:=h11.sat hle3;replace h12:=h12.sat hle3;replace h14:=h14.sat hle3)|((with_reducible refine (k9 H h9).mono ?_);clear H;rintro e w ⟨K4,B9,e9,u9,rfl,hle4,q9,H⟩;clear k9;replace q6:=q6.sat hle4;replace q7:=q7.sat hle4;replace q8:=q8.sat hle4;replace h10:=h10.sat hle4;replace h11:=h11.sat hle4;replace h12:=h12.sat hle4;replace h14:=h14.sat hle4)|((with_reducible refine (k10 H h10).mono ?_);clear H;rintro e w ⟨B10,e10,u10,rfl,q10,H⟩;clear k10)|((with_reducible refine (k11 H h11).mono ?_);clear H;rintro e w ⟨K5,B11,e11,u11,rfl,hle5,q11,H⟩;clear k11;replace q6:=q6.sat hle5;replace q7:=q7.sat hle5;replace q8:=q8.sat hle5;replace q9:=q9.sat hle5;replace q10:=q10.sat hle5;replace h12:=h12.sat hle5;replace h14:=h14.sat hle5)|((with_reducible refine (k12 H h12).mono ?_);clear H;rintro e w ⟨B12,e12,u12,rfl,q12,H⟩;clear k12)|((with_reducible refine (k14 H h14).mono ?_);clear H;rintro e w ⟨B14,e14,u14,rfl,q14,H⟩;clear k14))
 refine oB H ?_;refine ⟨K5,⟨.slice B8 lf.length e8,.slice B11 lv.length e11,.slice B6 li.length e6,.slice B10 lm.length e10,.slice B14 lq.length e14,.slice B12 lr.length e12,.slice B9 lp.length e9,.slice B7 ld.length e7,u8,u11,u6,u10,u14,u12,u9,u7⟩,rfl,((hle5.trans hle4).trans hle3).trans hle2,?_,q8,q11,q6,q10,q14,q12,q9,q7⟩;dsimp only [DV.rows];exact H.fin
theorem x5t (d:DefD) (cs:Array Value) (H:Hp w0 w K M) (hm:defN d≤9000000) (hd:RL K (defL d) cs.toList):
  Calls Tryz.prog 86 #[.agg cs] w fun e w'=>∃K' cs',e= .returned (.agg cs')∧Sat K' K∧Hp w0 w' K' M∧RL K' (defL d) cs'.toList:=
 (y69 d cs H hm hd).mono fun e w' ⟨K',V,he,hle,H,hV⟩=>by
   obtain ⟨K2,hle2,H,h⟩:=DV.freeze H hV;exact ⟨K2,_,he,hle2.trans hle,H,h⟩
theorem z30 (d more:DefD) (V:DV) (cs2:Array Value) (H:Hp w0 w K (DV.rows d V++M)) (hV:V.ok K d) (hm:defN d+defN more≤9000000) (hd2:RL K (defL more) cs2.toList):
  Calls Tryz.prog 120 #[.agg (DV.cells d V).toArray,.agg cs2] w fun e w'=>∃K' V',e= .returned (.agg (DV.cells (y0y d more) V').toArray)∧Sat K' K∧Hp w0 w' K' (DV.rows (y0y d more) V'++M)∧V'.ok K' (y0y d more):=by
 obtain ⟨v8,v11,v6,v10,v14,v12,v9,v7,x8,x11,x6,x10,x14,x12,x9,x7⟩:=V;obtain ⟨r8,r11,r6,r10,r14,r12,r9,r7⟩:=hV;dsimp only at r8 r11 r6 r10 r14 r12 r9 r7;obtain ⟨D6,f6,D7,f7,D8,f8,D9,f9,D10,f10,D11,f11,D12,f12,D14,f14,hcs,h6,h7,h8,h9,h10,h11,h12,h14⟩:=y0e hd2;obtain rfl:cs2= #[_,_,_,_,_,_,_,_,_,_,_,_,_,_,_,_,_]:=Qal.1 hcs;dsimp only [DV.rows,DV.cells,List.cons_append,List.nil_append] at H ⊢;obtain ⟨V8,c8,rfl,-,-⟩:=H.slice (i:=0) rfl;obtain ⟨V11,c11,rfl,-,-⟩:=H.slice (i:=1) rfl;obtain ⟨V6,c6,rfl,-,-⟩:=H.slice (i:=2) rfl;obtain ⟨V10,c10,rfl,-,-⟩:=H.slice (i:=3) rfl;obtain ⟨V14,c14,rfl,-,-⟩:=H.slice (i:=4) rfl;obtain ⟨V12,c12,rfl,-,-⟩:=H.slice (i:=5) rfl;obtain ⟨V9,c9,rfl,-,-⟩:=H.slice (i:=6) rfl;obtain ⟨V7,c7,rfl,-,-⟩:=H.slice (i:=7) rfl;have s7:=y0p y4d d.dirs;have s8:=y0p y24 d.fields;have s9:=y0p y23 d.inputs;have s11:=y0p y4m d.values;have t7:=y0p y4d more.dirs;have t8:=y0p y24 more.fields;have t9:=y0p y23 more.inputs;have t11:=y0p y4m more.values;simp only [defN] at hm
 have b:more.ifaces.length≤9000000∧sumN dirN more.dirs≤9000000∧sumN y22 more.fields≤9000000∧sumN y15 more.inputs≤9000000∧more.members.length≤9000000∧sumN y3c more.values≤9000000∧more.roots.length≤9000000∧
   d.ifaces.length+more.ifaces.length≤9000000∧d.dirs.length+more.dirs.length≤9000000∧d.fields.length+more.fields.length≤9000000∧d.inputs.length+more.inputs.length≤9000000∧d.members.length+more.members.length≤9000000∧d.values.length+more.values.length≤9000000∧d.roots.length+more.roots.length≤9000000:=by omega
 obtain ⟨b6,b7,b8,b9,b10,b11,b12,e6,e7,e8,e9,e10,e11,e12⟩:=b;clear hm s7 s8 s9 s11 t7 t8 t9 t11 hcs hd2 h14;have k6:=fun {w K M} (h:Hp w0 w K M) (hd:RD K (.list more.ifaces.length (y0o more.ifaces)) (.slice D6 more.ifaces.length f6))=>z88 b6 hd rfl h;have k10:=fun {w K M} (h:Hp w0 w K M) (hd:RD K (.list more.members.length (y0o more.members)) (.slice D10 more.members.length f10))=>z88 b10 hd rfl h;have k12:=fun {w K M} (h:Hp w0 w K M) (hd:RD K (.list more.roots.length (y2a more.roots)) (.slice D12 more.roots.length f12))=>x9v b12 hd rfl h;have k7:=fun {w K M} (h:Hp w0 w K M) (hd:RD K (.list more.dirs.length (y17 more.dirs)) (.slice D7 more.dirs.length f7))=>z1x b7 hd h;have k8:=fun {w K M} (h:Hp w0 w K M) (hd:RD K (.list more.fields.length (y0r more.fields)) (.slice D8 more.fields.length f8))=>x5r b8 hd h;have k9:=fun {w K M} (h:Hp w0 w K M) (hd:RD K (.list more.inputs.length (y0l more.inputs)) (.slice D9 more.inputs.length f9))=>z5h b9 hd h;have k11:=fun {w K M} (h:Hp w0 w K M) (hd:RD K (.list more.values.length (y08 more.values)) (.slice D11 more.values.length f11))=>x5s b11 hd h;clear b6 b7 b8 b9 b10 b11 b12;have hK:=Sat.refl K;go_enter Tryz.func120,Tryz.ntmps120
 go_upto_region 1 with (first|(refine oL H ?_)|(refine oA 2 H ?_;clear H;intro w gd H)|(refine oA 3 H ?_;clear H;intro w gx H)|(refine oA 4 H ?_;clear H;intro w go H)|(refine oP H ?_;clear H;intro w _ H))
 refine rN [.box gd _ _,.box gx _ _] [7] H ?_;clear H;intro w H;refine rT 0 H ?_;refine rT 1 H ?_;refine rT 2 H ?_;refine rT 3 H ?_;refine rC 4 (k6 H h6) ?_;clear H;rintro e w ⟨K2,B,b,rfl,hle,H,hb⟩;refine rX H ?_;refine rR 5 H ?_;clear H;intro z A' c' w z6 _ _ H;dsimp only [List.set] at H;refine rT 6 H ?_;refine rL 7 H ?_;clear H;intro w _ H;refine rE ?_;replace hK:=hle.trans hK;clear k6 h6;replace h7:=h7.sat hle;replace h8:=h8.sat hle;replace h9:=h9.sat hle;replace h10:=h10.sat hle;replace h11:=h11.sat hle;replace h12:=h12.sat hle;clear hb hle
 go_wp2_with fail
 refine rN [.box gd _ _,.box gx _ _] [7] H ?_;clear H;intro w H;refine rT 0 H ?_;refine rT 1 H ?_;refine rT 2 H ?_;refine rT 3 H ?_;refine rC 4 (k7 H h7) ?_;clear H;rintro e w ⟨K2,B,b,rfl,hle,H,hb⟩;refine rX H ?_;refine rR 5 H ?_;clear H;intro z A' c' w z7 _ _ H;dsimp only [List.set] at H;refine rT 6 H ?_;refine rL 7 H ?_;clear H;intro w _ H;refine rE ?_;replace hK:=hle.trans hK;clear k7 h7;replace z6:=z6.sat hle;replace h8:=h8.sat hle;replace h9:=h9.sat hle;replace h10:=h10.sat hle;replace h11:=h11.sat hle;replace h12:=h12.sat hle;clear hb hle
 go_wp2_with fail
 refine rN [.box gd _ _,.box gx _ _] [7] H ?_;clear H;intro w H;refine rT 0 H ?_;refine rT 1 H ?_;refine rT 2 H ?_;refine rT 3 H ?_;refine rC 4 (k8 H h8) ?_;clear H;rintro e w ⟨K2,B,b,rfl,hle,H,hb⟩;refine rX H ?_;refine rR 5 H ?_;clear H;intro z A' c' w z8 _ _ H;dsimp only [List.set] at H;refine rT 6 H ?_;refine rL 7 H ?_;clear H;intro w _ H;refine rE ?_;replace hK:=hle.trans hK;clear k8 h8;replace z6:=z6.sat hle;replace z7:=z7.sat hle;replace h9:=h9.sat hle;replace h10:=h10.sat hle;replace h11:=h11.sat hle;replace h12:=h12.sat hle;clear hb hle
 go_wp2_with fail
 refine rN [.box gd _ _,.box gx _ _] [7] H ?_;clear H;intro w H;refine rT 0 H ?_;refine rT 1 H ?_;refine rT 2 H ?_;refine rT 3 H ?_;refine rC 4 (k9 H h9) ?_;clear H;rintro e w ⟨K2,B,b,rfl,hle,H,hb⟩;refine rX H ?_;refine rR 5 H ?_;clear H;intro z A' c' w z9 _ _ H;dsimp only [List.set] at H;refine rT 6 H ?_;refine rL 7 H ?_;clear H;intro w _ H;refine rE ?_;replace hK:=hle.trans hK;clear k9 h9;replace z6:=z6.sat hle;replace z7:=z7.sat hle;replace z8:=z8.sat hle;replace h10:=h10.sat hle;replace h11:=h11.sat hle;replace h12:=h12.sat hle;clear hb hle
 go_wp2_with fail
 refine rN [.box gd _ _,.box gx _ _] [7] H ?_;clear H;intro w H;refine rT 0 H ?_;refine rT 1 H ?_;refine rT 2 H ?_;refine rT 3 H ?_;refine rC 4 (k10 H h10) ?_;clear H;rintro e w ⟨K2,B,b,rfl,hle,H,hb⟩;refine rX H ?_;refine rR 5 H ?_;clear H;intro z A' c' w z10 _ _ H;dsimp only [List.set] at H;refine rT 6 H ?_;refine rL 7 H ?_;clear H;intro w _ H;refine rE ?_;replace hK:=hle.trans hK;clear k10 h10;replace z6:=z6.sat hle;replace z7:=z7.sat hle;replace z8:=z8.sat hle;replace z9:=z9.sat hle;replace h11:=h11.sat hle;replace h12:=h12.sat hle;clear hb hle
 go_wp2_with fail
 refine rN [.box gd _ _,.box gx _ _] [7] H ?_;clear H;intro w H;refine rT 0 H ?_;refine rT 1 H ?_;refine rT 2 H ?_;refine rT 3 H ?_;refine rC 4 (k11 H h11) ?_;clear H;rintro e w ⟨K2,B,b,rfl,hle,H,hb⟩;refine rX H ?_;refine rR 5 H ?_;clear H;intro z A' c' w z11 _ _ H;dsimp only [List.set] at H;refine rT 6 H ?_;refine rL 7 H ?_;clear H;intro w _ H;refine rE ?_;replace hK:=hle.trans hK;clear k11 h11;replace z6:=z6.sat hle;replace z7:=z7.sat hle;replace z8:=z8.sat hle;replace z9:=z9.sat hle;replace z10:=z10.sat hle;replace h12:=h12.sat hle;clear hb hle
 go_wp2_with fail
 refine rN [.box gd _ _,.box gx _ _] [7] H ?_;clear H;intro w H;refine rT 0 H ?_;refine rT 1 H ?_;refine rT 2 H ?_;refine rT 3 H ?_;refine rC 4 (k12 H h12) ?_;clear H;rintro e w ⟨K2,B,b,rfl,hle,H,hb⟩;refine rX H ?_;refine rR 5 H ?_;clear H;intro z A' c' w z12 _ _ H;dsimp only [List.set] at H;refine rT 6 H ?_;refine rL 7 H ?_;clear H;intro w _ H;refine rE ?_;replace hK:=hle.trans hK;clear k12 h12;replace z6:=z6.sat hle;replace z7:=z7.sat hle;replace z8:=z8.sat hle;replace z9:=z9.sat hle;replace z10:=z10.sat hle;replace z11:=z11.sat hle;clear hb hle
 go_wp2_with (first|(refine oL H ?_)|(refine oP H ?_;clear H;intro w _ H))
 refine oB H ?_;simp only [←Qae] at H ⊢;refine ⟨_,⟨_,_,_,_,.slice V14 d.places.length c14,_,_,_,_,_,_,_,_,_,_,_⟩,rfl,hK,H.fin,?_⟩;exact ⟨by dsimp only [y0y];rw [y18];exact (r8.sat hK).app z8,by dsimp only [y0y];rw [y2y];exact (r11.sat hK).app z11,by dsimp only [y0y];rw [y2z];exact (r6.sat hK).app z6,by dsimp only [y0y];rw [y2z];exact (r10.sat hK).app z10,r14.sat hK,by dsimp only [y0y];rw [y21];exact (r12.sat hK).app z12,by dsimp only [y0y];rw [y3l];exact (r9.sat hK).app z9,by dsimp only [y0y];rw [y4t];exact (r7.sat hK).app z7⟩
end
def x05 (c:UInt8):Bool:=c==33||c==93
def refA (s:Txt):Nat:=(s.takeWhile (· ==91)).length
def refZ (s:Txt):Nat:=s.length - (s.reverse.takeWhile x05).length
def refF (s:Txt):Txt×Txt:=((s.take (refZ s)).drop (refA s),s.drop (refZ s))
theorem y95 {α:Type} {p:α→Bool}: ∀(l:List α) (k:Nat),(k<(l.takeWhile p).length→ ∃x,l[k]?=some x∧p x=true)∧(k=(l.takeWhile p).length→ ∀x,l[k]?=some x→p x=false)
 |[],k=>⟨fun h=>by simp at h,fun h x hx=>by simp at hx⟩
 |y::r,k=>by
  by_cases hy:p y=true
  ·rw [List.takeWhile_cons_of_pos hy,List.length_cons]
   cases k with
   |zero=>exact ⟨fun _=>⟨y,rfl,hy⟩,fun h=>by omega⟩
   |succ k=>
    have ih:=y95 r k (p:=p);exact ⟨fun h=>by rw [List.getElem?_cons_succ];exact ih.1 (by omega),fun h=>by rw [List.getElem?_cons_succ];exact ih.2 (by omega)⟩
  ·rw [List.takeWhile_cons_of_neg hy]
   exact ⟨fun h=>by simp at h,fun h x hx=>by
    simp only [List.length_nil] at h;subst h;simp only [List.getElem?_cons_zero,Option.some.injEq] at hx
    subst hx;simpa using hy⟩
theorem z89 {α:Type} {p:α→Bool} (l:List α):(l.takeWhile p).length≤l.length:=(List.takeWhile_sublist p).length_le
instance sli27:Sli Tryz.prog 27 9 1 16:=⟨sli Tryz.underlying27 (z:=.string ⟨#[]⟩) (by kernel_rfl)⟩
section
variable {w0 w K : World} {M : List Ent}
theorem z1y (s:Txt) (hs:s.length≤1000000) (H:Hp w0 w K M):
  Calls Tryz.prog 121 #[.string (str s)] w fun e w'=>∃K' A c,e= .returned (.slice A (y1a s).length c)∧Sat K' K∧Hp w0 w' K' M∧RD K' (.list (y1a s).length (y0t (y1a s))) (.slice A (y1a s).length c):=by
 have hsz:=y2i s;go_enter Tryz.func121,Tryz.ntmps121
 go_wp2_with fail
 replace H:=H.nilRow 9 1
 go_loopw [3,4,5] (fun v f i wr=>∃(k:Nat) (A':Option Addr) (c':Nat) (vs:List Value),k≤s.length+1∧i= .int .i64 k∧f= .int .i64 (y0n s k).1∧v= .slice A' (y0n s k).2.length c'∧RL K (y0t (y0n s k).2) vs∧Hp w0 wr K (.row 9 1 (.slice A' (y0n s k).2.length c') (y0n s k).2.length vs::M)) (fun _ _ i _=>s.length+1 - (intOf i).toNat)
 case atStart=>exact ⟨0,none,0,[],Qak _,rfl,rfl,rfl,.nil (Qab _),H⟩
 case round=>
  clear H;obtain ⟨k,A',c',vs,hk,rfl,rfl,rfl,hvs,H⟩:=hrel;have hle:=y48 s k;by_cases hlt:k<s.length+1
  ·have hkI:(k:Int)≤(s.length:Int):=by omega
   have hwr:IntKind.i64.wrap ((k:Int)+1)=k+1:=IntWalk.i64_in _ (by omega);by_cases hin:k<s.length∧s[k]?≠some 32
   ·have E1:=hide (x09 hin);have h1:=hin.1
    have h1I:(k:Int)<(s.length:Int):=by omega
    have h2: ∀hq:k<(str s).size,((((str s)[k]'hq).toNat:Int) !=32)=true:=fun hq=>by
     rw [y34 h1 hq,Qa8];intro e;exact hin.2 (by rw [Qad h1];exact congrArg some (Qb2.1 (show _=32 by omega)))
    have h2:=h2 (by rw [hsz];exact h1);clear hin
    go_wp2_with fail
    go_roundw
    case rel=>exact ⟨k+1,A',c',vs,by omega,by go_num,by rw [E1.out],by rw [E1.out],by rw [E1.out];exact hvs,by rw [E1.out];exact H⟩
    case measure=>simp [intOf];omega
   ·have hg: ∀hq:k<(str s).size,((((str s)[k]'hq).toNat:Int) !=32)=false:=fun hq=>by
     have h1:k<s.length:=by rw [←hsz];exact hq
     have h3:s[k]?=some 32:=Qbl fun h=>hin ⟨h1,h⟩;rw [Qad h1] at h3;injection h3 with h3;have e:=(y34 h1 hq).trans h3;rw [e];rfl
    have HG:=hide hg
    have hks:k≤(str s).size:=by omega
    by_cases hf:(y0n s k).1<k
    ·have E1:=hide (z6y hin hf)
     have hfI:((y0n s k).1:Int)<(k:Int):=by omega
     have hfk:(y0n s k).1≤k:=by omega
     clear hin hg;rcases Qbm k s.length with h1|h1
     ·have h1I:(k:Int)<(s.length:Int):=by omega
      have h2:=HG.out (by rw [hsz];exact h1)
      go_wp2_with (first|(refine oL H ?_)|(refine oP H ?_;clear H;intro w _ H)|(refine oQ H ?_;clear H;intro A' c' w _ _ H;dsimp only [List.set] at H))
      go_roundw
      case rel=>exact ⟨k+1,_,_,_,by omega,by go_num,by rw [E1.out];rfl,by rw [E1.out,Qae];rfl,by rw [E1.out];exact y4y hvs,by rw [E1.out,Qae];rw [y2t] at H;exact H.fin⟩
      case measure=>simp [intOf];omega
     ·have h1I: ¬((k:Int)<(s.length:Int)):=by omega
      go_wp2_with (first|(refine oL H ?_)|(refine oP H ?_;clear H;intro w _ H)|(refine oQ H ?_;clear H;intro A' c' w _ _ H;dsimp only [List.set] at H))
      go_roundw
      case rel=>exact ⟨k+1,_,_,_,by omega,by go_num,by rw [E1.out];rfl,by rw [E1.out,Qae];rfl,by rw [E1.out];exact y4y hvs,by rw [E1.out,Qae];rw [y2t] at H;exact H.fin⟩
      case measure=>simp [intOf];omega
    ·have E1:=hide (z4a hin hf)
     have hfI: ¬(((y0n s k).1:Int)<(k:Int)):=by omega
     have hfk:(y0n s k).1≤k:=by omega
     clear hin hg;rcases Qbm k s.length with h1|h1
     ·have h1I:(k:Int)<(s.length:Int):=by omega
      have h2:=HG.out (by rw [hsz];exact h1)
      go_wp2_with fail
      go_roundw
      case rel=>exact ⟨k+1,A',c',vs,by omega,by go_num,by rw [E1.out];rfl,by rw [E1.out],by rw [E1.out];exact hvs,by rw [E1.out];exact H⟩
      case measure=>simp [intOf];omega
     ·have h1I: ¬((k:Int)<(s.length:Int)):=by omega
      go_wp2_with fail
      go_roundw
      case rel=>exact ⟨k+1,A',c',vs,by omega,by go_num,by rw [E1.out];rfl,by rw [E1.out],by rw [E1.out];exact hvs,by rw [E1.out];exact H⟩
      case measure=>simp [intOf];omega
  ·obtain rfl:k=s.length+1:=by omega
   have hkI: ¬(((s.length+1:Nat):Int)≤(s.length:Int)):=by omega
   go_wp2_with fail
   go_ret;obtain ⟨K2,hle2,H,hd⟩:=H.freezeRow hvs;exact ⟨K2,A',c',rfl,hle2,H,hd⟩
theorem z31 (s:Txt) (hs:s.length≤1000000) (hok:refA s<refZ s) (H:Hp w0 w K M):
  Calls Tryz.prog 125 #[.string (str s)] w fun e w'=>e= .returned (.agg #[.string (str (refF s).1),.string (str (refF s).2)])∧Hp w0 w' K M:=by
 have hsz:=y2i s;obtain ⟨a,ha⟩: ∃a,refA s=a:=⟨_,rfl⟩;obtain ⟨z,hz⟩: ∃z,refZ s=z:=⟨_,rfl⟩;obtain ⟨n,hn⟩: ∃n,s.length=n:=⟨_,rfl⟩
 have hzn:z≤n:=by rw [←hz,←hn];exact Nat.sub_le _ _
 have hF:refF s=((s.take z).drop a,s.drop z):=by rw [←ha,←hz];rfl
 rw [ha,hz] at hok;rw [hF]
 have h1: ∀k,k<a→ ∀hq:k<(str s).size,((((str s)[k]'hq).toNat:Int)==91)=true:=fun k hk hq=>by
  obtain ⟨x,hx,hp⟩:=(y95 s k (p:=(· ==91))).1 (by unfold refA at ha;omega);have hk2:k<s.length:=(Qac.1 hx).1;rw [Qad hk2] at hx;injection hx with hx;have e:=(y34 hk2 hq).trans hx;rw [e,eq_of_beq hp];rfl
 have h2: ∀hq:a<(str s).size,((((str s)[a]'hq).toNat:Int)==91)=false:=fun hq=>by
  have hk2:a<s.length:=by rw [←hsz];exact hq
  rw [y34 hk2 hq];have hp:=(y95 s a (p:=(· ==91))).2 (by unfold refA at ha;omega) _ (Qad hk2);rw [Qa3] at hp ⊢;exact fun e=>hp (Qb2.1 (show _=91 by omega))
 have hrev: ∀k,k<n→s.reverse[k]?=s[n - 1 - k]?:=fun k hk=>by rw [List.getElem?_reverse (by omega),hn]
 have h3: ∀k,z≤k→k<n→ ∀hq:k<(str s).size,((((str s)[k]'hq).toNat:Int)==33)=true∨(((((str s)[k]'hq).toNat:Int)==33)=false∧((((str s)[k]'hq).toNat:Int)==93)=true):=fun k hk hkn hq=>by
  have hl:=z89 (p:=x05) s.reverse;rw [List.length_reverse] at hl;obtain ⟨x,hx,hp⟩:=(y95 s.reverse (n - 1 - k) (p:=x05)).1 (by unfold refZ at hz;omega);rw [hrev _ (by omega),show n - 1 - (n - 1 - k)=k by omega] at hx
  have hk2:k<s.length:=by omega
  rw [Qad hk2] at hx;injection hx with hx;have e:=(y34 hk2 hq).trans hx;rw [e];unfold x05 at hp;rw [Bool.or_eq_true] at hp;rcases hp with hp|hp
  ·rw [eq_of_beq hp];exact .inl rfl
  ·rw [eq_of_beq hp];exact .inr ⟨rfl,rfl⟩
 have h4: ∀hq:z - 1<(str s).size,((((str s)[z - 1]'hq).toNat:Int)==33)=false∧((((str s)[z - 1]'hq).toNat:Int)==93)=false:=fun hq=>by
  have hl:=z89 (p:=x05) s.reverse;rw [List.length_reverse] at hl
  have hk2:z - 1<s.length:=by omega
  have hp:=(y95 s.reverse (n - z) (p:=x05)).2 (by unfold refZ at hz;omega) s[z - 1] (by rw [hrev _ (by omega),show n - 1 - (n - z)=z - 1 by omega];exact Qad hk2);rw [y34 hk2 hq];unfold x05 at hp;rw [Bool.or_eq_false_iff,Qa3,Qa3] at hp;exact ⟨Qa3.2 fun e=>hp.1 (Qb2.1 (show _=33 by omega)),Qa3.2 fun e=>hp.2 (Qb2.1 (show _=93 by omega))⟩
 rw [hn] at hs hsz;have S1:=hide h1;have S2:=hide h2;have S3:=hide h3;have S4:=hide h4;clear h1 h2 h3 h4 hrev ha hz hF;go_enter Tryz.func125,Tryz.ntmps125
 go_upto_region 2 with (first|(refine oL H ?_)|(refine oA 2 H ?_;clear H;intro w g2 H)|(refine oP H ?_;clear H;intro w _ H))
 go_loopw [3] (fun i wr=>∃k:Nat,k≤a∧i= .int .i64 k∧Hp w0 wr K (.box g2 [.string ⟨#[]⟩,.string ⟨#[]⟩] 50::M)) (fun i _=>a - (intOf i).toNat)
 case atStart=>exact ⟨0,Qak _,rfl,H⟩
 case round=>
  clear H;obtain ⟨k,hk,rfl,H⟩:=hrel
  have hkn:k<(str s).size:=by omega
  by_cases hlt:k<a
  ·have hb:=S1.out k hlt hkn;have hwr:IntKind.i64.wrap ((k:Int)+1)=k+1:=IntWalk.i64_in _ (by omega)
   go_wp2_with fail
   go_roundw
   case rel=>exact ⟨k+1,by omega,by go_num,H⟩
   case measure=>simp [intOf];omega
  ·obtain rfl:k=a:=by omega
   have hb:=S2.out hkn
   go_wp2_with fail
   go_loopw [4] (fun i wr=>∃t:Nat,z≤t∧t≤n∧i= .int .i64 t∧Hp w0 wr K (.box g2 [.string ⟨#[]⟩,.string ⟨#[]⟩] 50::M)) (fun i _=>(intOf i).toNat - z)
   case atStart=>exact ⟨n,hzn,Qab _,rfl,H⟩
   case round=>
    clear H hb;obtain ⟨t,hzt,htn,rfl,H⟩:=hrel
    have ht0:t - 1<(str s).size:=by omega
    have hwr:IntKind.i64.wrap ((t:Int) - 1)=((t - 1:Nat):Int):=by rw [IntWalk.i64_in _ (by omega)];omega
    by_cases hlt:z<t
    ·rcases S3.out (t - 1) (by omega) (by omega) ht0 with hb|⟨hb,hb2⟩
     ·go_wp2_with fail
      go_roundw
      case rel=>exact ⟨t - 1,by omega,by omega,by go_num,H⟩
      case measure=>simp [intOf];omega
     ·go_wp2_with fail
      go_roundw
      case rel=>exact ⟨t - 1,by omega,by omega,by go_num,H⟩
      case measure=>simp [intOf];omega
    ·obtain rfl:t=z:=by omega
     obtain ⟨hb,hb2⟩:=S4.out ht0
     go_wp2_with fail
     have hfk:k≤t:=by omega
     have hks:t≤(str s).size:=by omega
     have e1:=y2t s k t;have e2:=y2t s t (str s).size;refine rB [8] H ?_;clear H;intro w H;refine rT 0 H ?_;refine rT 1 H ?_;refine rT 2 H ?_;refine rT 3 H ?_;refine rT 4 H ?_;refine rT 5 H ?_;refine rT 6 H ?_;refine rT 7 H ?_;refine rL 8 H ?_;clear H;intro w _ H;refine rE ?_
     go_wp2_with fail
     refine oB H ?_;refine ⟨?_,H.fin⟩;rw [List.drop_take,←e1];rw [Qaj (by rw [Qav];omega)] at e2;rw [←e2,hsz]
theorem y4o (s:ByteArray) (A:Option Addr) (n c:Nat) (H:Hp w0 w K M):
  Calls Tryz.prog 122 #[.string s,.slice A n c] w fun e w'=>e= .returned (.agg #[.int .i64 3,.bool false,.bool false,.bool false,.string ⟨#[]⟩,.string s,.slice none 0 0,.slice none 0 0,.slice A n c,.slice none 0 0,.slice none 0 0,.slice none 0 0,.slice none 0 0,.bool false,.slice none 0 0,.int .i64 0,.int .i64 0])∧Hp w0 w' K M:=by
 go_enter Tryz.func122,Tryz.ntmps122
 go_wp2_with (first|(refine oL H ?_)|(refine oP H ?_;clear H;intro w _ H))
 refine oB H ?_;exact ⟨rfl,H.fin⟩
theorem y44 {l:List Txt} {n c k:Nat} {A:Option Addr} (h:RD K (.list n (y0t l)) (.slice A n c)) (hk:k<l.length): ∃ad x,A=some ad∧l[k]?=some x∧At K (ad.add k) [.string (str x)]:=by
 obtain ⟨ad,vs,h1,h2,_,_,h5,h6⟩:=y8u (m:=1) (f:=fun x=>[str' x]) (fun _=>rfl) (y1s l▸h) (Qad hk) (by omega);obtain ⟨r0,rfl,h0⟩:=h2.lit_inv;obtain rfl:=h0.nil_inv;rw [Nat.mul_one] at h5 h6;exact ⟨ad,_,h1,Qad hk,h5,h6⟩
theorem z5j (s:Txt) (hs:s.length≤1000000) (H:Hp w0 w K M) {l:List Txt} (hl:y1a s=l):
  Calls Tryz.prog 124 #[.string (str s)] w fun e w'=>∃K' A c,e= .returned (.slice A l.length c)∧Sat K' K∧Hp w0 w' K' M∧RD K' (.list l.length (y08 (l.map valD))) (.slice A l.length c):=by
 have hw:=(y48 s (s.length+1)).2;have hsp:=fun {w K M} (H:Hp w0 w K M)=>z1y s hs H;rw [show (y0n s (s.length+1)).2=y1a s from rfl,hl] at hw;rw [hl] at hsp;obtain ⟨n,hn⟩: ∃n,l.length=n:=⟨_,rfl⟩;rw [hn] at hw hsp ⊢;have HN:=hide hn;clear hn hl;go_enter Tryz.func124,Tryz.ntmps124
 go_upto_region 3 with (first|(refine oL H ?_)|(refine oP H ?_;clear H;intro w _ H)|((with_reducible refine (hsp H).mono ?_);clear H;rintro e w ⟨K1,A1,c1,rfl,hle1,H,hd⟩))
 clear hsp
 go_wp2_with fail
 replace H:=H.nilRow 133 7
 go_loopw [3,5] (fun v i wr=>∃(k:Nat) (A':Option Addr) (c':Nat) (vs:List Value),k≤n∧i= .int .i64 k∧v= .slice A' k c'∧RL K1 (y08 ((l.take k).map valD)) vs∧Hp w0 wr K1 (.row 133 7 (.slice A' k c') k vs::M)) (fun _ i _=>n - (intOf i).toNat)
 case atStart=>exact ⟨0,none,0,[],Qak _,rfl,rfl,.nil (Qab _),H⟩
 case round=>
  clear H;obtain ⟨k,A',c',vs,hk,rfl,rfl,hvs,H⟩:=hrel;by_cases hlt:k<n
  ·obtain ⟨ad,x,rfl,hx,hat⟩:=y44 hd (by rw [HN.out];exact hlt);obtain ⟨hkI,hwr⟩:=wr_k hlt (by omega);have HX:=hide (y0k hx);clear hx
   go_wp2_with (first|(refine oL H ?_)|(refine oP H ?_;clear H;intro w _ H)|(refine oQ H ?_;clear H;intro A' c' w _ _ H;dsimp only [List.set] at H))
   go_roundw
   case rel=>exact ⟨k+1,_,_,_,by omega,by go_num,rfl,by rw [HX.out,Qas,y2y];exact hvs.app (y72 (f:=y8a) (y7h RD.z)),H.fin⟩
   case measure=>simp [intOf];omega
  ·obtain rfl:k=n:=by omega
   rw [Qaj (by rw [HN.out];exact Qab _)] at hvs
   go_wp2_with fail
   go_ret;obtain ⟨K2,hle2,H,hd⟩:=H.freezeRow hvs;exact ⟨K2,A',c',rfl,hle2.trans hle1,H,hd⟩
theorem z0z (s:Txt) (hs:s.length≤1000000) (H:Hp w0 w K M) {l:List Txt} (hl:y1a s=l):
  Calls Tryz.prog 126 #[.string (str s)] w fun e w'=>∃K' A c,e= .returned (.slice A l.length c)∧Sat K' K∧Hp w0 w' K' M∧RD K' (.list l.length (y0o (l.map plD))) (.slice A l.length c):=by
 have hw:=(y48 s (s.length+1)).2;have hsp:=fun {w K M} (H:Hp w0 w K M)=>z1y s hs H;rw [show (y0n s (s.length+1)).2=y1a s from rfl,hl] at hw;rw [hl] at hsp;obtain ⟨n,hn⟩: ∃n,l.length=n:=⟨_,rfl⟩;rw [hn] at hw hsp ⊢;have HN:=hide hn;clear hn hl;go_enter Tryz.func126,Tryz.ntmps126
 go_upto_region 3 with (first|(refine oL H ?_)|(refine oP H ?_;clear H;intro w _ H)|((with_reducible refine (hsp H).mono ?_);clear H;rintro e w ⟨K1,A1,c1,rfl,hle1,H,hd⟩))
 clear hsp
 go_wp2_with fail
 replace H:=H.nilRow 113 3
 go_loopw [3,5] (fun v i wr=>∃(k:Nat) (A':Option Addr) (c':Nat) (vs:List Value),k≤n∧i= .int .i64 k∧v= .slice A' k c'∧RL K1 (y0o ((l.take k).map plD)) vs∧Hp w0 wr K1 (.row 113 3 (.slice A' k c') k vs::M)) (fun _ i _=>n - (intOf i).toNat)
 case atStart=>exact ⟨0,none,0,[],Qak _,rfl,rfl,.nil (Qab _),H⟩
 case round=>
  clear H;obtain ⟨k,A',c',vs,hk,rfl,rfl,hvs,H⟩:=hrel;by_cases hlt:k<n
  ·obtain ⟨ad,x,rfl,hx,hat⟩:=y44 hd (by rw [HN.out];exact hlt);obtain ⟨hkI,hwr⟩:=wr_k hlt (by omega);have HX:=hide (y0k hx);clear hx
   go_wp2_with (first|(refine oL H ?_)|(refine oP H ?_;clear H;intro w _ H)|(refine oQ H ?_;clear H;intro A' c' w _ _ H;dsimp only [List.set] at H))
   go_roundw
   case rel=>exact ⟨k+1,_,_,_,by omega,by go_num,rfl,by rw [HX.out,Qas,y2z];exact hvs.app (y72 (f:=y79) (.lit (.lit (.lit (.nil (Qab _)))))),H.fin⟩
   case measure=>simp [intOf];omega
  ·obtain rfl:k=n:=by omega
   rw [Qaj (by rw [HN.out];exact Qab _)] at hvs
   go_wp2_with fail
   go_ret;obtain ⟨K2,hle2,H,hd⟩:=H.freezeRow hvs;exact ⟨K2,A',c',rfl,hle2.trans hle1,H,hd⟩
end
def argD (x:Txt):InputD:=⟨y5j,x,(y7p,[]),true,.mk 5 q3o false [] [] 0 0,[],0,0⟩
def wAt (s:Txt) (i:Nat):Txt:=(y1a s).getD i []
def z1m (s:Txt):FieldD:=⟨y5j,wAt s 0,if (y1a s).length=3 then [argD (wAt s 2)] else [],refF (wAt s 1),[],0,0⟩
structure LineOk (s:Txt):Prop where
 n:(y1a s).length=2∨(y1a s).length=3
 l:s.length≤1000000
 r:(wAt s 1).length≤1000000
 ok:refA (wAt s 1)<refZ (wAt s 1)
theorem w_at {s:Txt} {i:Nat} {x:Txt} (h:(y1a s)[i]?=some x):x=wAt s i:=by unfold wAt;rw [List.getD_eq_getElem?_getD,h];rfl
section
variable {w0 w K : World} {M : List Ent}
theorem x5u (H:Hp w0 w K M):Calls Tryz.prog 125 #[.string ⟨#[66,111,111,108,101,97,110]⟩] w fun e w'=>e= .returned (.agg #[.string ⟨#[66,111,111,108,101,97,110]⟩,.string ⟨#[]⟩])∧Hp w0 w' K M:=by
 have h:=z31 y7p (by decide) (by decide+kernel) H;rw [show refF y7p=(y7p,[]) by decide+kernel] at h;exact h
theorem y4p {L:List Txt} {n c:Nat} {A:Option Addr} (hok: ∀x∈L,LineOk x) (hL:L.length=n) (hn:n≤100000) (hd:RD K (.list n (y0t L)) (.slice A n c)) (H:Hp w0 w K M):
  Calls Tryz.prog 123 #[.slice A n c] w fun e w'=>∃K' A' c',e= .returned (.slice A' n c')∧Sat K' K∧Hp w0 w' K' M∧RD K' (.list n (y0r (L.map z1m))) (.slice A' n c'):=by
 have HN:=hide hL;have HOK:=hide hok;clear hL hok;go_enter Tryz.func123,Tryz.ntmps123
 go_wp2_with fail
 replace H:=H.nilRow 52 10
 go_loopw [3,4] (fun v i wr=>∃(K':World) (k:Nat) (A':Option Addr) (c':Nat) (vs:List Value),k≤n∧i= .int .i64 k∧v= .slice A' k c'∧Sat K' K∧RL K' (y0r ((L.take k).map z1m)) vs∧Hp w0 wr K' (.row 52 10 (.slice A' k c') k vs::M)) (fun _ i _=>n - (intOf i).toNat)
 case atStart=>exact ⟨K,0,none,0,[],Qak _,rfl,rfl,Sat.refl _,.nil (Qab _),H⟩
 case round=>
  clear H;obtain ⟨K',k,A',c',vs,hk,rfl,rfl,hle,hvs,H⟩:=hrel;replace hd:=hd.sat hle;by_cases hlt:k<n
  ·obtain ⟨ad,x,rfl,hx,hat⟩:=y44 hd (by rw [HN.out];exact hlt);obtain ⟨hkI,hwr⟩:=wr_k hlt (by omega);obtain ⟨hwn,hxl,hrl,hro⟩:=HOK.out x (Qaf hx);have HX:=hide (y0k hx);have hsp:=fun {w K M} (H:Hp w0 w K M)=>z1y x hxl H;have hrf:=fun {w K M} (H:Hp w0 w K M)=>z31 (wAt x 1) hrl hro H;clear hx hrl hro hd
   go_upto_region 6 with (first|(refine oL H ?_)|((with_reducible refine (hsp H).mono ?_);clear H;rintro e w ⟨K2,Aw,cw,rfl,hle2,H,hw⟩))
   clear hsp hat;rcases hwn with hm|hm
   ·rw [hm] at hw ⊢;obtain ⟨aw,y,rfl,hy,hat0⟩:=y44 hw (k:=0) (by omega);obtain rfl:=w_at hy;obtain ⟨aw2,y,e2,hy1,hat1⟩:=y44 hw (k:=1) (by omega);obtain rfl:=w_at hy1;injection e2 with e2;subst e2;clear hw hy hy1
    have hlx:z1m x=⟨y5j,wAt x 0,[],refF (wAt x 1),[],0,0⟩:=by unfold z1m;rw [hm,if_neg (by decide)]
    have HLX:=hide hlx;clear hlx hm;refine rB [9] H ?_;clear H;intro w H;refine rT 0 H ?_;refine rT 1 H ?_;refine rT 2 H ?_;refine rT 3 H ?_;refine rT 4 H ?_;refine rT 5 H ?_;refine r2 6 8 ?_ ?_
    ·refine aC (hrf H) ?_;clear H;rintro e w ⟨rfl,H⟩;refine rX H ?_;refine rT 7 H ?_;refine rW 8 H ?_;clear H;intro w g6 H;refine rL 9 H ?_;clear H;intro w _ H;refine rE ?_
     go_upto_region 10 with fail
     go_wp2_with (first|(refine oL H ?_)|(refine oP H ?_;clear H;intro w _ H)|(refine oQ H ?_;clear H;intro A' c' w _ _ H;dsimp only [List.set] at H))
     have hpe:=y3m (nh:=false) (nb:=false) (nt:=[]) (dn:=wAt x 0) (tn:=(refF (wAt x 1)).1) (tw:=(refF (wAt x 1)).2) (args:=[]) (dirs:=[]) (dl:=0) (dc:=0) (RD.z (K:=K2)) RD.z;go_roundw
     case rel=>exact ⟨K2,k+1,_,_,_,by omega,by go_num,rfl,hle2.trans hle,by rw [HX.out,Qas,y18,List.map_singleton,HLX.out];exact (hvs.sat hle2).app (y72 (f:=y20) hpe),H.fin⟩
     case measure=>simp [intOf];omega
    ·refine aW H ?_;clear H;intro w g6 H;refine rC 6 (hrf H) ?_;clear H;rintro e w ⟨rfl,H⟩;refine rX H ?_;refine rT 7 H ?_;refine rL 9 H ?_;clear H;intro w _ H;refine rE ?_
     go_upto_region 10 with fail
     go_wp2_with (first|(refine oL H ?_)|(refine oP H ?_;clear H;intro w _ H)|(refine oQ H ?_;clear H;intro A' c' w _ _ H;dsimp only [List.set] at H))
     have hpe:=y3m (nh:=false) (nb:=false) (nt:=[]) (dn:=wAt x 0) (tn:=(refF (wAt x 1)).1) (tw:=(refF (wAt x 1)).2) (args:=[]) (dirs:=[]) (dl:=0) (dc:=0) (RD.z (K:=K2)) RD.z;go_roundw
     case rel=>exact ⟨K2,k+1,_,_,_,by omega,by go_num,rfl,hle2.trans hle,by rw [HX.out,Qas,y18,List.map_singleton,HLX.out];exact (hvs.sat hle2).app (y72 (f:=y20) hpe),H.fin⟩
     case measure=>simp [intOf];omega
   ·rw [hm] at hw ⊢;obtain ⟨aw,y,rfl,hy,hat0⟩:=y44 hw (k:=0) (by omega);obtain rfl:=w_at hy;obtain ⟨aw2,y,e2,hy1,hat1⟩:=y44 hw (k:=1) (by omega);obtain rfl:=w_at hy1;injection e2 with e2;subst e2;obtain ⟨aw2,y,e2,hy2,hat2⟩:=y44 hw (k:=2) (by omega);obtain rfl:=w_at hy2;injection e2 with e2;subst e2;clear hw hy hy1 hy2
    have hlx:z1m x=⟨y5j,wAt x 0,[argD (wAt x 2)],refF (wAt x 1),[],0,0⟩:=by unfold z1m;rw [hm,if_pos rfl]
    have HLX:=hide hlx;have hrb:=fun {w K M} (H:Hp w0 w K M)=>x5u H;clear hlx hm;refine rB [9] H ?_;clear H;intro w H;refine rT 0 H ?_;refine rT 1 H ?_;refine rT 2 H ?_;refine rT 3 H ?_;refine rT 4 H ?_;refine rT 5 H ?_;refine r2 6 8 ?_ ?_
    ·refine aC (hrf H) ?_;clear H;rintro e w ⟨rfl,H⟩;refine rX H ?_;refine rT 7 H ?_;refine rW 8 H ?_;clear H;intro w g6 H;refine rL 9 H ?_;clear H;intro w _ H;refine rE ?_
     go_upto_region 9 with (first|(refine oL H ?_)|(refine oA 7 H ?_;clear H;intro w g7 H)|(refine oP H ?_;clear H;intro w _ H))
     refine rN [.box g7 _ _,.box g6 _ _] [8] H ?_;clear H;intro w H;refine rT 0 H ?_;refine rT 1 H ?_;refine rT 2 H ?_;refine rT 4 H ?_;refine rC 3 (hrb H) ?_;clear H;rintro e w ⟨rfl,H⟩;refine rX H ?_;refine rT 5 H ?_;refine rW 6 H ?_;clear H;intro w gs H;refine rT 7 H ?_;refine rL 8 H ?_;clear H;intro w _ H;refine rE ?_
     go_wp2_with (first|(refine oL H ?_)|(refine oP H ?_;clear H;intro w _ H)|(refine oQ H ?_;clear H;intro A' c' w _ _ H;dsimp only [List.set] at H))
     replace H:Hp _ _ _ (.box gs _ _:: .row 52 10 _ _ _::M):=H.fin;obtain ⟨K3,hle3,H,hda⟩:=H.freezeBox (n:=1) (ls:=y0l [argD (wAt x 2)]) (by unfold argD;exact .lit (.lit (.lit (.lit (.lit (.lit (.lit (.lit (.lit (.lit (.cons RD.z (.cons RD.z (.lit (.lit (.cons RD.z (.lit (.lit RL.z))))))))))))))))) (by simp [maxLen]);have hpe:=y3m (nh:=false) (nb:=false) (nt:=[]) (dn:=wAt x 0) (tn:=(refF (wAt x 1)).1) (tw:=(refF (wAt x 1)).2) (args:=[argD (wAt x 2)]) (dirs:=[]) (dl:=0) (dc:=0) hda RD.z;go_roundw
     case rel=>exact ⟨K3,k+1,_,_,_,by omega,by go_num,rfl,hle3.trans (hle2.trans hle),by rw [HX.out,Qas,y18,List.map_singleton,HLX.out];exact (hvs.sat (hle3.trans hle2)).app (y72 (f:=y20) hpe),H⟩
     case measure=>simp [intOf];omega
    ·refine aW H ?_;clear H;intro w g6 H;refine rC 6 (hrf H) ?_;clear H;rintro e w ⟨rfl,H⟩;refine rX H ?_;refine rT 7 H ?_;refine rL 9 H ?_;clear H;intro w _ H;refine rE ?_
     go_upto_region 9 with (first|(refine oL H ?_)|(refine oA 7 H ?_;clear H;intro w g7 H)|(refine oP H ?_;clear H;intro w _ H))
     refine rN [.box g7 _ _,.box g6 _ _] [8] H ?_;clear H;intro w H;refine rT 0 H ?_;refine rT 1 H ?_;refine rT 2 H ?_;refine rT 4 H ?_;refine rC 3 (hrb H) ?_;clear H;rintro e w ⟨rfl,H⟩;refine rX H ?_;refine rT 5 H ?_;refine rW 6 H ?_;clear H;intro w gs H;refine rT 7 H ?_;refine rL 8 H ?_;clear H;intro w _ H;refine rE ?_
     go_wp2_with (first|(refine oL H ?_)|(refine oP H ?_;clear H;intro w _ H)|(refine oQ H ?_;clear H;intro A' c' w _ _ H;dsimp only [List.set] at H))
     replace H:Hp _ _ _ (.box gs _ _:: .row 52 10 _ _ _::M):=H.fin;obtain ⟨K3,hle3,H,hda⟩:=H.freezeBox (n:=1) (ls:=y0l [argD (wAt x 2)]) (by unfold argD;exact .lit (.lit (.lit (.lit (.lit (.lit (.lit (.lit (.lit (.lit (.cons RD.z (.cons RD.z (.lit (.lit (.cons RD.z (.lit (.lit RL.z))))))))))))))))) (by simp [maxLen]);have hpe:=y3m (nh:=false) (nb:=false) (nt:=[]) (dn:=wAt x 0) (tn:=(refF (wAt x 1)).1) (tw:=(refF (wAt x 1)).2) (args:=[argD (wAt x 2)]) (dirs:=[]) (dl:=0) (dc:=0) hda RD.z;go_roundw
     case rel=>exact ⟨K3,k+1,_,_,_,by omega,by go_num,rfl,hle3.trans (hle2.trans hle),by rw [HX.out,Qas,y18,List.map_singleton,HLX.out];exact (hvs.sat (hle3.trans hle2)).app (y72 (f:=y20) hpe),H⟩
     case measure=>simp [intOf];omega
  ·obtain rfl:k=n:=by omega
   rw [Qaj (by rw [HN.out];exact Qab _)] at hvs
   go_wp2_with fail
   go_ret;obtain ⟨K2,hle2,H,hd⟩:=H.freezeRow hvs;exact ⟨K2,A',c',rfl,hle2.trans hle,H,hd⟩
end
theorem y96 {K:World}: ∀l:List Txt,RL K (y0t l) (l.map fun x=>.string (str x))
 |[]=>RL.z
 |x::r=>.lit (y96 r)
def z9a (s:Txt):Bool:=(decide ((y1a s).length=2)||decide ((y1a s).length=3))&&decide (s.length≤1000000)&&decide ((wAt s 1).length≤1000000)&&decide (refA (wAt s 1)<refZ (wAt s 1))
theorem z00 {l:List Txt} (h:l.all z9a=true): ∀x∈l,LineOk x:=fun x hx=>by
 have h:=Qbi.1 h x hx;unfold z9a at h;simp only [Qao,Bool.or_eq_true,decide_eq_true_eq] at h;exact ⟨h.1.1.1,h.1.1.2,h.1.2,h.2⟩
theorem y2r {K:World} {l:List DefD} {d:DefD} {vs us:List Value} (h:RL K (y0q l) vs) (hd:RL K (defL d) us):RL K (y0q (l++[d])) (vs++us):=by
 rw [z2l];exact h.app (y72 (f:=defL) hd)
def ln7:List Txt:=[[100,101,115,99,114,105,112,116,105,111,110,32,83,116,114,105,110,103],[116,121,112,101,115,32,91,95,95,84,121,112,101,33,93,33],[113,117,101,114,121,84,121,112,101,32,95,95,84,121,112,101,33],[109,117,116,97,116,105,111,110,84,121,112,101,32,95,95,84,121,112,101],[115,117,98,115,99,114,105,112,116,105,111,110,84,121,112,101,32,95,95,84,121,112,101],[100,105,114,101,99,116,105,118,101,115,32,91,95,95,68,105,114,101,99,116,105,118,101,33,93,33]]
def ln8:List Txt:=[[107,105,110,100,32,95,95,84,121,112,101,75,105,110,100,33],[110,97,109,101,32,83,116,114,105,110,103],[100,101,115,99,114,105,112,116,105,111,110,32,83,116,114,105,110,103],[115,112,101,99,105,102,105,101,100,66,121,85,82,76,32,83,116,114,105,110,103],[102,105,101,108,100,115,32,91,95,95,70,105,101,108,100,33,93,32,105,110,99,108,117,100,101,68,101,112,114,101,99,97,116,101,100],[105,110,116,101,114,102,97,99,101,115,32,91,95,95,84,121,112,101,33,93],[112,111,115,115,105,98,108,101,84,121,112,101,115,32,91,95,95,84,121,112,101,33,93],[101,110,117,109,86,97,108,117,101,115,32,91,95,95,69,110,117,109,86,97,108,117,101,33,93,32,105,110,99,108,117,100,101,68,101,112,114,101,99,97,116,101,100],[105,110,112,117,116,70,105,101,108,100,115,32,91,95,95,73,110,112,117,116,86,97,108,117,101,33,93],[111,102,84,121,112,101,32,95,95,84,121,112,101]]
def wd9:Txt:=[83,67,65,76,65,82,32,79,66,74,69,67,84,32,73,78,84,69,82,70,65,67,69,32,85,78,73,79,78,32,69,78,85,77,32,73,78,80,85,84,95,79,66,74,69,67,84,32,76,73,83,84,32,78,79,78,95,78,85,76,76]
def ln10:List Txt:=[[110,97,109,101,32,83,116,114,105,110,103,33],[100,101,115,99,114,105,112,116,105,111,110,32,83,116,114,105,110,103],[97,114,103,115,32,91,95,95,73,110,112,117,116,86,97,108,117,101,33,93,33],[116,121,112,101,32,95,95,84,121,112,101,33],[105,115,68,101,112,114,101,99,97,116,101,100,32,66,111,111,108,101,97,110,33],[100,101,112,114,101,99,97,116,105,111,110,82,101,97,115,111,110,32,83,116,114,105,110,103]]
def ln11:List Txt:=[[110,97,109,101,32,83,116,114,105,110,103,33],[100,101,115,99,114,105,112,116,105,111,110,32,83,116,114,105,110,103],[116,121,112,101,32,95,95,84,121,112,101,33],[100,101,102,97,117,108,116,86,97,108,117,101,32,83,116,114,105,110,103]]
def ln12:List Txt:=[[110,97,109,101,32,83,116,114,105,110,103,33],[100,101,115,99,114,105,112,116,105,111,110,32,83,116,114,105,110,103],[105,115,68,101,112,114,101,99,97,116,101,100,32,66,111,111,108,101,97,110,33],[100,101,112,114,101,99,97,116,105,111,110,82,101,97,115,111,110,32,83,116,114,105,110,103]]
def ln13:List Txt:=[[110,97,109,101,32,83,116,114,105,110,103,33],[100,101,115,99,114,105,112,116,105,111,110,32,83,116,114,105,110,103],[108,111,99,97,116,105,111,110,115,32,91,95,95,68,105,114,101,99,116,105,118,101,76,111,99,97,116,105,111,110,33,93,33],[97,114,103,115,32,91,95,95,73,110,112,117,116,86,97,108,117,101,33,93,33],[105,115,82,101,112,101,97,116,97,98,108,101,32,66,111,111,108,101,97,110,33]]
def wd14:Txt:=[81,85,69,82,89,32,77,85,84,65,84,73,79,78,32,83,85,66,83,67,82,73,80,84,73,79,78,32,70,73,69,76,68,32,70,82,65,71,77,69,78,84,95,68,69,70,73,78,73,84,73,79,78,32,70,82,65,71,77,69,78,84,95,83,80,82,69,65,68,32,73,78,76,73,78,69,95,70,82,65,71,77,69,78,84,32,86,65,82,73,65,66,76,69,95,68,69,70,73,78,73,84,73,79,78,32,83,67,72,69,77,65,32,83,67,65,76,65,82,32,79,66,74,69,67,84,32,70,73,69,76,68,95,68,69,70,73,78,73,84,73,79,78,32,65,82,71,85,77,69,78,84,95,68,69,70,73,78,73,84,73,79,78,32,73,78,84,69,82,70,65,67,69,32,85,78,73,79,78,32,69,78,85,77,32,69,78,85,77,95,86,65,76,85,69,32,73,78,80,85,84,95,79,66,74,69,67,84,32,73,78,80,85,84,95,70,73,69,76,68,95,68,69,70,73,78,73,84,73,79,78]
def wdS:Txt:=[73,110,116,32,70,108,111,97,116,32,83,116,114,105,110,103,32,66,111,111,108,101,97,110,32,73,68]
def wdP3:Txt:=[70,73,69,76,68,32,70,82,65,71,77,69,78,84,95,83,80,82,69,65,68,32,73,78,76,73,78,69,95,70,82,65,71,77,69,78,84]
def wdP2:Txt:=[70,73,69,76,68,95,68,69,70,73,78,73,84,73,79,78,32,69,78,85,77,95,86,65,76,85,69]
def wdP1:Txt:=[83,67,65,76,65,82]
theorem lo7:ln7.all z9a=true:=by decide+kernel
theorem le7:ln7.map z1m=gf0:=by kernel_rfl
theorem lo8:ln8.all z9a=true:=by decide+kernel
theorem le8:ln8.map z1m=gf1:=by kernel_rfl
theorem le9:y1a wd9=ge2:=by kernel_rfl
theorem lo10:ln10.all z9a=true:=by decide+kernel
theorem le10:ln10.map z1m=gf3:=by kernel_rfl
theorem lo11:ln11.all z9a=true:=by decide+kernel
theorem le11:ln11.map z1m=gf4:=by kernel_rfl
theorem lo12:ln12.all z9a=true:=by decide+kernel
theorem le12:ln12.map z1m=gf5:=by kernel_rfl
theorem lo13:ln13.all z9a=true:=by decide+kernel
theorem le13:ln13.map z1m=gf6:=by kernel_rfl
theorem le14:y1a wd14=ge7:=by kernel_rfl
theorem leS:y1a wdS=scalT:=by kernel_rfl
theorem leP1:y1a wdP1=pl1:=by kernel_rfl
theorem leP2:y1a wdP2=pl2:=by kernel_rfl
theorem leP3:y1a wdP3=pl3:=by kernel_rfl
def q7c (a b c d a' b' c' d':Value):List Value:=[.int .i64 8,.bool false,.bool false,.bool false,.string ⟨#[]⟩,.string ⟨#[115,107,105,112]⟩,.slice none 0 0,.slice none 0 0,.slice none 0 0,a',.slice none 0 0,.slice none 0 0,.slice none 0 0,.bool false,a,.int .i64 0,.int .i64 0,.int .i64 8,.bool false,.bool false,.bool false,.string ⟨#[]⟩,.string ⟨#[105,110,99,108,117,100,101]⟩,.slice none 0 0,.slice none 0 0,.slice none 0 0,b',.slice none 0 0,.slice none 0 0,.slice none 0 0,.bool false,b,.int .i64 0,.int .i64 0,.int .i64 8,.bool false,.bool false,.bool false,.string ⟨#[]⟩,.string ⟨#[100,101,112,114,101,99,97,116,101,100]⟩,.slice none 0 0,.slice none 0 0,.slice none 0 0,c',.slice none 0 0,.slice none 0 0,.slice none 0 0,.bool false,c,.int .i64 0,.int .i64 0,.int .i64 8,.bool false,.bool false,.bool false,.string ⟨#[]⟩,.string ⟨#[115,112,101,99,105,102,105,101,100,66,121]⟩,.slice none 0 0,.slice none 0 0,.slice none 0 0,d',.slice none 0 0,.slice none 0 0,.slice none 0 0,.bool false,d,.int .i64 0,.int .i64 0]
section
variable {w0 w K : World} {M : List Ent}
theorem q3r (H:Hp w0 w K M):Calls Tryz.prog 72 #[] w fun e w'=>∃K' A c,e= .returned (.slice A givenT.length c)∧Sat K' K∧Hp w0 w' K' M∧RD K' (.list givenT.length (y0q givenT)) (.slice A givenT.length c):=by
 have hsp:=fun {w K M} (H:Hp w0 w K M)=>z1y wdS (by decide) H;rw [leS] at hsp;have hK:=Sat.refl K;go_enter Tryz.func72,Tryz.ntmps72
 go_upto_region 4 with (refine (hsp H).mono ?_;clear H;rintro e w ⟨K1,A1,c1,rfl,hle1,H,hd⟩)
 clear hsp;replace hK:=hle1.trans hK;clear hle1
 go_wp2_with fail
 replace H:=H.nilRow 43 17
 go_loopw [1,3] (fun v i wr=>∃(k:Nat) (A':Option Addr) (c':Nat) (vs:List Value),k≤5∧i= .int .i64 k∧v= .slice A' k c'∧RL K1 (y0q ((scalT.take k).map scD)) vs∧Hp w0 wr K1 (.row 43 17 (.slice A' k c') k vs::M)) (fun _ i _=>5 - (intOf i).toNat)
 case atStart=>exact ⟨0,none,0,[],Qak _,rfl,rfl,RL.z,H⟩
 case round=>
  clear H;obtain ⟨k,A',c',vs,hk,rfl,rfl,hvs,H⟩:=hrel;have h5:scalT.length=5:=rfl;rw [h5] at hd ⊢;by_cases hlt:k<5
  ·obtain ⟨ad,x,rfl,hx,hat⟩:=y44 hd (k:=k) (by rw [h5];exact hlt)
   have hkI:(k:Int)<5:=by omega
   have hkJ:(k:Int)<((5:Nat):Int):=by omega
   have hwr:IntKind.i64.wrap ((k:Int)+1)=k+1:=IntWalk.i64_in _ (by omega);have HX:=hide (y0k hx);clear hx h5
   go_wp2_with (first|(refine oL H ?_)|(refine oP H ?_;clear H;intro w _ H)|(refine oQ H ?_;clear H;intro A' c' w _ _ H;dsimp only [List.set] at H))
   go_roundw
   case rel=>exact ⟨k+1,_,_,_,by omega,by go_num,rfl,by rw [HX.out];exact x2g hvs,H.fin⟩
   case measure=>simp [intOf];omega
  ·obtain rfl:k=5:=by omega
   rw [Qaj (by rw [h5];exact Qab _)] at hvs;clear hd h5;have hc7:=fun {w K M} (H:Hp w0 w K M) {g} (hl:RD K (.list 6 (y0t ln7)) (.slice (some ⟨g,0,none⟩) 6 6))=>y4p (z00 lo7) rfl (by decide) hl H;rw [le7] at hc7
   go_upto_region 8 with (first|(refine oA 20 H ?_ (hd:=dbS (cs:=ln7.map fun x=>.string (str x)) (hcs:=by kernel_rfl));clear H;intro w g H;obtain ⟨K2,hle2,H,hl⟩:=H.freezeBox (n:=6) (ls:=y0t ln7) (y96 ln7) (by simp [maxLen]))|(go_at_call 123;refine (hc7 H hl).mono ?_;clear H hc7 hl;rintro e w ⟨K3,A3,c3,rfl,hle3,H,hf⟩)|(go_at_call 122;refine (y4o ⟨#[95,95,83,99,104,101,109,97]⟩ _ _ _ H).mono ?_;clear H;rintro e w ⟨rfl,H⟩)|(refine oP H ?_;clear H;intro w _ H)|(refine oQ H ?_;clear H;intro A' c' w _ _ H;dsimp only [List.set] at H))
   replace hvs:=y2r (d:=gd0) (hvs.sat (hle3.trans hle2)) (y06 RD.z RD.z hf RD.z RD.z RD.z RD.z RD.z);replace hK:=hle3.trans (hle2.trans hK);replace H:Hp _ _ _ (.row 43 17 _ _ _::M):=H.fin;clear hf hle2 hle3;have hc8:=fun {w K M} (H:Hp w0 w K M) {g} (hl:RD K (.list 10 (y0t ln8)) (.slice (some ⟨g,0,none⟩) 10 10))=>y4p (z00 lo8) rfl (by decide) hl H;rw [le8] at hc8
   go_upto_region 9 with (first|(refine oA 26 H ?_ (hd:=dbS (cs:=ln8.map fun x=>.string (str x)) (hcs:=by kernel_rfl));clear H;intro w g H;obtain ⟨K2,hle2,H,hl⟩:=H.freezeBox (n:=10) (ls:=y0t ln8) (y96 ln8) (by simp [maxLen]))|(go_at_call 123;refine (hc8 H hl).mono ?_;clear H hc8 hl;rintro e w ⟨K3,A3,c3,rfl,hle3,H,hf⟩)|(go_at_call 122;refine (y4o ⟨#[95,95,84,121,112,101]⟩ _ _ _ H).mono ?_;clear H;rintro e w ⟨rfl,H⟩)|(refine oP H ?_;clear H;intro w _ H)|(refine oQ H ?_;clear H;intro A' c' w _ _ H;dsimp only [List.set] at H))
   replace hvs:=y2r (d:=gd1) (hvs.sat (hle3.trans hle2)) (y06 RD.z RD.z hf RD.z RD.z RD.z RD.z RD.z);replace hK:=hle3.trans (hle2.trans hK);replace H:Hp _ _ _ (.row 43 17 _ _ _::M):=H.fin;clear hf hle2 hle3
   go_upto_region 10 with (first|(go_at_call 124;refine (z5j wd9 (by decide) H le9).mono ?_;clear H;rintro e w ⟨K3,A3,c3,rfl,hle3,H,hf⟩)|(refine oP H ?_;clear H;intro w _ H)|(refine oQ H ?_;clear H;intro A' c' w _ _ H;dsimp only [List.set] at H))
   replace hvs:=y2r (d:=gd2) (hvs.sat hle3) (y06 RD.z RD.z RD.z RD.z RD.z hf RD.z RD.z);replace hK:=hle3.trans hK;replace H:Hp _ _ _ (.row 43 17 _ _ _::M):=H.fin;clear hf hle3;have hc10:=fun {w K M} (H:Hp w0 w K M) {g} (hl:RD K (.list 6 (y0t ln10)) (.slice (some ⟨g,0,none⟩) 6 6))=>y4p (z00 lo10) rfl (by decide) hl H;rw [le10] at hc10
   go_upto_region 11 with (first|(refine oA 37 H ?_ (hd:=dbS (cs:=ln10.map fun x=>.string (str x)) (hcs:=by kernel_rfl));clear H;intro w g H;obtain ⟨K2,hle2,H,hl⟩:=H.freezeBox (n:=6) (ls:=y0t ln10) (y96 ln10) (by simp [maxLen]))|(go_at_call 123;refine (hc10 H hl).mono ?_;clear H hc10 hl;rintro e w ⟨K3,A3,c3,rfl,hle3,H,hf⟩)|(go_at_call 122;refine (y4o ⟨#[95,95,70,105,101,108,100]⟩ _ _ _ H).mono ?_;clear H;rintro e w ⟨rfl,H⟩)|(refine oP H ?_;clear H;intro w _ H)|(refine oQ H ?_;clear H;intro A' c' w _ _ H;dsimp only [List.set] at H))
   replace hvs:=y2r (d:=gd3) (hvs.sat (hle3.trans hle2)) (y06 RD.z RD.z hf RD.z RD.z RD.z RD.z RD.z);replace hK:=hle3.trans (hle2.trans hK);replace H:Hp _ _ _ (.row 43 17 _ _ _::M):=H.fin;clear hf hle2 hle3;have hc11:=fun {w K M} (H:Hp w0 w K M) {g} (hl:RD K (.list 4 (y0t ln11)) (.slice (some ⟨g,0,none⟩) 4 4))=>y4p (z00 lo11) rfl (by decide) hl H;rw [le11] at hc11
   go_upto_region 12 with (first|(refine oA 43 H ?_ (hd:=dbS (cs:=ln11.map fun x=>.string (str x)) (hcs:=by kernel_rfl));clear H;intro w g H;obtain ⟨K2,hle2,H,hl⟩:=H.freezeBox (n:=4) (ls:=y0t ln11) (y96 ln11) (by simp [maxLen]))|(go_at_call 123;refine (hc11 H hl).mono ?_;clear H hc11 hl;rintro e w ⟨K3,A3,c3,rfl,hle3,H,hf⟩)|(go_at_call 122;refine (y4o ⟨#[95,95,73,110,112,117,116,86,97,108,117,101]⟩ _ _ _ H).mono ?_;clear H;rintro e w ⟨rfl,H⟩)|(refine oP H ?_;clear H;intro w _ H)|(refine oQ H ?_;clear H;intro A' c' w _ _ H;dsimp only [List.set] at H))
   replace hvs:=y2r (d:=gd4) (hvs.sat (hle3.trans hle2)) (y06 RD.z RD.z hf RD.z RD.z RD.z RD.z RD.z);replace hK:=hle3.trans (hle2.trans hK);replace H:Hp _ _ _ (.row 43 17 _ _ _::M):=H.fin;clear hf hle2 hle3;have hc12:=fun {w K M} (H:Hp w0 w K M) {g} (hl:RD K (.list 4 (y0t ln12)) (.slice (some ⟨g,0,none⟩) 4 4))=>y4p (z00 lo12) rfl (by decide) hl H;rw [le12] at hc12
   go_upto_region 13 with (first|(refine oA 49 H ?_ (hd:=dbS (cs:=ln12.map fun x=>.string (str x)) (hcs:=by kernel_rfl));clear H;intro w g H;obtain ⟨K2,hle2,H,hl⟩:=H.freezeBox (n:=4) (ls:=y0t ln12) (y96 ln12) (by simp [maxLen]))|(go_at_call 123;refine (hc12 H hl).mono ?_;clear H hc12 hl;rintro e w ⟨K3,A3,c3,rfl,hle3,H,hf⟩)|(go_at_call 122;refine (y4o ⟨#[95,95,69,110,117,109,86,97,108,117,101]⟩ _ _ _ H).mono ?_;clear H;rintro e w ⟨rfl,H⟩)|(refine oP H ?_;clear H;intro w _ H)|(refine oQ H ?_;clear H;intro A' c' w _ _ H;dsimp only [List.set] at H))
   replace hvs:=y2r (d:=gd5) (hvs.sat (hle3.trans hle2)) (y06 RD.z RD.z hf RD.z RD.z RD.z RD.z RD.z);replace hK:=hle3.trans (hle2.trans hK);replace H:Hp _ _ _ (.row 43 17 _ _ _::M):=H.fin;clear hf hle2 hle3;have hc13:=fun {w K M} (H:Hp w0 w K M) {g} (hl:RD K (.list 5 (y0t ln13)) (.slice (some ⟨g,0,none⟩) 5 5))=>y4p (z00 lo13) rfl (by decide) hl H;rw [le13] at hc13
   go_upto_region 14 with (first|(refine oA 55 H ?_ (hd:=dbS (cs:=ln13.map fun x=>.string (str x)) (hcs:=by kernel_rfl));clear H;intro w g H;obtain ⟨K2,hle2,H,hl⟩:=H.freezeBox (n:=5) (ls:=y0t ln13) (y96 ln13) (by simp [maxLen]))|(go_at_call 123;refine (hc13 H hl).mono ?_;clear H hc13 hl;rintro e w ⟨K3,A3,c3,rfl,hle3,H,hf⟩)|(go_at_call 122;refine (y4o ⟨#[95,95,68,105,114,101,99,116,105,118,101]⟩ _ _ _ H).mono ?_;clear H;rintro e w ⟨rfl,H⟩)|(refine oP H ?_;clear H;intro w _ H)|(refine oQ H ?_;clear H;intro A' c' w _ _ H;dsimp only [List.set] at H))
   replace hvs:=y2r (d:=gd6) (hvs.sat (hle3.trans hle2)) (y06 RD.z RD.z hf RD.z RD.z RD.z RD.z RD.z);replace hK:=hle3.trans (hle2.trans hK);replace H:Hp _ _ _ (.row 43 17 _ _ _::M):=H.fin;clear hf hle2 hle3
   go_wp2_with (first|(go_at_call 124;refine (z5j wd14 (by decide) H le14).mono ?_;clear H;rintro e w ⟨K3,A3,c3,rfl,hle3,H,hf⟩)|(refine oP H ?_;clear H;intro w _ H)|(refine oQ H ?_;clear H;intro A' c' w _ _ H;dsimp only [List.set] at H))
   replace hvs:=y2r (d:=gd7) (hvs.sat hle3) (y06 RD.z RD.z RD.z RD.z RD.z hf RD.z RD.z);replace hK:=hle3.trans hK;replace H:Hp _ _ _ (.row 43 17 _ _ _::M):=H.fin;clear hf hle3;go_ret;obtain ⟨K4,hle4,H,hd⟩:=H.freezeRow hvs;exact ⟨K4,_,_,rfl,hle4.trans hK,H,hd⟩
theorem q3s (H:Hp w0 w K M):Calls Tryz.prog 73 #[] w fun e w'=>∃K' A c,e= .returned (.slice A 4 c)∧Sat K' K∧Hp w0 w' K' M∧RD K' (.list 4 (y0q givenDirsD)) (.slice A 4 c):=by
 have hb:=fun {w K M} (H:Hp w0 w K M)=>z31 [66,111,111,108,101,97,110,33] (by decide) (by decide+kernel) H;have hs:=fun {w K M} (H:Hp w0 w K M)=>z31 [83,116,114,105,110,103] (by decide) (by decide+kernel) H;have hu:=fun {w K M} (H:Hp w0 w K M)=>z31 [83,116,114,105,110,103,33] (by decide) (by decide+kernel) H;rw [show refF [66,111,111,108,101,97,110,33]=([66,111,111,108,101,97,110],[33]) by decide+kernel] at hb;rw [show refF [83,116,114,105,110,103]=([83,116,114,105,110,103],[]) by decide+kernel] at hs;rw [show refF [83,116,114,105,110,103,33]=([83,116,114,105,110,103],[33]) by decide+kernel] at hu;have hK:=Sat.refl K;go_enter Tryz.func73,Tryz.ntmps73
 go_upto_region 2 with (first|(refine (hb H).mono ?_;clear H;rintro e w ⟨rfl,H⟩)|(refine oA 8 H ?_;clear H;intro w g8 H))
 obtain ⟨K1,hle1,H,i1⟩:=H.freezeBox (n:=1) (ls:=y0l [y9y]) y7q (by simp [maxLen])
 go_upto_region 3 with (first|(refine (hb H).mono ?_;clear H;rintro e w ⟨rfl,H⟩)|(refine oA 11 H ?_;clear H;intro w g11 H))
 obtain ⟨K2,hle2,H,i2⟩:=H.freezeBox (n:=1) (ls:=y0l [y9y]) y7q (by simp [maxLen])
 go_upto_region 4 with (first|(refine oA 3 H ?_;clear H;intro w g3 H)|(refine oP H ?_;clear H;intro w _ H))
 refine rB [] H ?_;clear H;intro w H;refine rT 1 H ?_;refine rC 0 (show Calls Tryz.prog 125 #[.string ⟨#[83,116,114,105,110,103]⟩] _ _ from hs H) ?_;clear H;rintro e w ⟨rfl,H⟩;refine rX H ?_;refine rT 2 H ?_;refine rW 3 H ?_;clear H;intro w g16 H;refine rT 4 H ?_;refine rE ?_;obtain ⟨K3,hle3,H,i3⟩:=H.freezeBox (n:=1) (ls:=y0l [y64]) z0p (by simp [maxLen])
 go_upto_region 6 with (first|(refine (hu H).mono ?_;clear H;rintro e w ⟨rfl,H⟩)|(refine oA 19 H ?_;clear H;intro w g19 H))
 obtain ⟨K4,hle4,H,i4⟩:=H.freezeBox (n:=1) (ls:=y0l [urlD]) x0n (by simp [maxLen]);have q3:=fun {w K M} (H:Hp w0 w K M)=>z0z wdP3 (by decide) H leP3;have q2:=fun {w K M} (H:Hp w0 w K M)=>z0z wdP2 (by decide) H leP2;have q1:=fun {w K M} (H:Hp w0 w K M)=>z0z wdP1 (by decide) H leP1
 go_wp2_with fail
 refine (q3 H).mono ?_;clear H;rintro e w ⟨K5,A5,c5,rfl,hle5,H,n1⟩
 go_wp2_with fail
 refine (q3 H).mono ?_;clear H;rintro e w ⟨K6,A6,c6,rfl,hle6,H,n2⟩
 go_wp2_with fail
 refine (q2 H).mono ?_;clear H;rintro e w ⟨K7,A7,c7,rfl,hle7,H,n3⟩
 go_wp2_with fail
 refine (q1 H).mono ?_;clear H;rintro e w ⟨K8,A8,c8,rfl,hle8,H,n4⟩;have s7:=hle8;have s6:=hle8.trans hle7;have s5:=s6.trans hle6;have s4:=s5.trans hle5;have s3:=s4.trans hle4;have s2:=s3.trans hle3;have s1:=s2.trans hle2;have hv:RL K8 (y0q givenDirsD) (q7c (.slice A5 3 c5) (.slice A6 3 c6) (.slice A7 2 c7) (.slice A8 1 c8) (.slice (some ⟨g8,0,none⟩) 1 1) (.slice (some ⟨g11,0,none⟩) 1 1) (.slice (some ⟨g16,0,none⟩) 1 1) (.slice (some ⟨g19,0,none⟩) 1 1)):=x0o (n1.sat s5) (i1.sat s1) (n2.sat s6) (i2.sat s2) (n3.sat s7) (i3.sat s3) n4 (i4.sat s4);have HV:=hide hv;clear hv n1 n2 n3 n4 i1 i2 i3 i4 q1 q2 q3 hb hs hu
 go_wp2_with (refine oA 32 H ?_ (hd:=dbS (cs:=q7c (.slice A5 3 c5) (.slice A6 3 c6) (.slice A7 2 c7) (.slice A8 1 c8) (.slice (some ⟨g8,0,none⟩) 1 1) (.slice (some ⟨g11,0,none⟩) 1 1) (.slice (some ⟨g16,0,none⟩) 1 1) (.slice (some ⟨g19,0,none⟩) 1 1)) (hcs:=by kernel_rfl));clear H;intro w g H)
 go_ret;obtain ⟨K9,hle9,H,hd⟩:=H.freezeBox (n:=4) (ls:=y0q givenDirsD) HV.out (by simp [maxLen]);exact ⟨K9,_,_,rfl,hle9.trans (s1.trans hle1),H.fin,hd⟩
end
end Go.Proofs.YtbpgkkoeehopjaaGreat.hp
namespace Go.Proofs.YtbpgkkoeehopjaaGreat.hp
open Go.RowKit words enc tree gram lex rd dec dat held ty
set_option maxRecDepth 100000
attribute [local go_sem ↓] Go.wp_at_zero Go.wp_at_succ
abbrev sv (x:Txt):Value:=.string (str x)
set_option maxHeartbeats 40000000
def y2h (l:List DefD) (x:Txt):Int:=match y1f l x with
 |some i=>(i:Int)
 |none=> -1
theorem q7d {l:List DefD} {x:Txt} {k:Nat} {d:DefD} (hd:l[k]?=some d) (hx:d.name=x) (hno:x∉(l.take k).map (·.name)):y1f l x=some k:=by
 unfold y1f;rw [Qbs]
 have hk:k<(y0a l).length:=by simpa using (Qac.1 hd).1
 refine ⟨hk,?_,fun j hj=>?_⟩
 ·have:(y0a l)[k]?=some x:=by simp [y0a,hd,hx]
  rw [Qad hk] at this;injection this with this;simp [this]
 ·intro h;refine hno (Qbp.2 ⟨j,?_⟩);rw [List.map_take,Qbb,if_pos hj];have e:(y0a l)[j]?=some ((y0a l)[j]'(by omega)):=Qad _;rw [show l.map (·.name)=y0a l from rfl,e];exact congrArg some (by simpa using h)
theorem q3t {l:List DefD} {x:Txt} (hno:x∉l.map (·.name)):y1f l x=none:=by
 unfold y1f;rw [List.findIdx?_eq_none_iff];intro y hy;exact Qa3.2 fun e=>hno (e▸hy)
section
variable {w0 w K : World} {M : List Ent}
theorem rowR {e:TypeId} {m n i:Nat} {v:Value} {vs:List Value} {ls:List Leaf} (H:Hp w0 w K M) (hi:M[i]?=some (.row e m v n vs)) (hl:RL K ls vs):RD w (.list n ls) v:=
 ⟨y11 (show w.ownsRow 0 e m v n vs from H.ok _ (Qaf hi)) (hl.sat H.sat).reads (fun g hg=>⟨Qak _,(World.ownsRow.lt (show w.ownsRow 0 e m v n vs from H.ok _ (Qaf hi)) g hg).2⟩),Qab _⟩
theorem y1l {l:List DefD} {A:Option Addr} {n c:Nat} (x:Txt) (hl:l.length=n) (hn:n≤9000000) (hd:RD w (.list n (y0q l)) (.slice A n c)) {r:Int} (hr:y2h l x=r):
  Calls Tryz.prog 77 #[.slice A n c,.string (str x)] w fun e w'=>e= .returned (.int .i64 r)∧w'=w:=by
 have H:=Hp.start w;have HN:=hide hl;have HR:=hide hr;clear hl hr;go_enter Tryz.func77,Tryz.ntmps77
 go_wp2_with fail
 go_loopw [5] (fun i wr=>∃k:Nat,k≤n∧i= .int .i64 k∧Hid (x∉(l.take k).map (·.name))∧wr=w) (fun i _=>n - (intOf i).toNat)
 case atStart=>exact ⟨0,Qak _,rfl,(by show _∉_;simp),rfl⟩
 case round=>
  obtain ⟨k,hk,rfl,hno,rfl⟩:=hrel;by_cases hlt:k<n
  ·obtain ⟨d,ad,us,hx,rfl,hxl,hat⟩:=el_k (m:=17) (f:=defL) y0x hd (by rw [HN.out];exact hlt) (by decide);obtain ⟨hkI,hwr⟩:=wr_k hlt hn;obtain ⟨A6,c6,A7,c7,A8,c8,A9,c9,A10,c10,A11,c11,A12,c12,A14,c14,rfl,-,-,-,-,-,-,-,-⟩:=y0e hxl;have htk:=y0k hx;by_cases he:d.name=x
   ·have e1:((str d.name).toList==(str x).toList)=true:=by rw [Go.Proofs.YtbpgkkoeehopjaaGreat.gram.str_eq];exact Qa5 he
    obtain rfl:r=(k:Int):=by rw [←HR.out];unfold y2h;rw [q7d hx he hno.out]
    clear he hx htk hxl
    go_wp2_with (first|(refine oL H ?_)|(refine oP H ?_;clear H;intro w _ H))
    go_ret;exact ⟨rfl,rfl⟩
   ·have e1:((str d.name).toList==(str x).toList)=false:=by rw [Go.Proofs.YtbpgkkoeehopjaaGreat.gram.str_eq];exact Qa4 he
    have HNX:Hid (x∉(l.take (k+1)).map (·.name)):=by
     show _∉_
     rw [htk,Qas];intro hm;rcases Qbf.1 hm with hm|hm
     ·exact hno.out hm
     ·exact he (Qax.1 hm).symm
    clear he hx htk hno hxl
    go_wp2_with (first|(refine oL H ?_)|(refine oP H ?_;clear H;intro w _ H))
    go_roundw
    case rel=>exact ⟨k+1,by omega,by go_num,HNX,trivial⟩
    case measure=>simp [intOf];omega
  ·obtain rfl:n=k:=by omega
   have hno:=hno.out;rw [Qaj (by rw [HN.out];exact Qab _)] at hno
   obtain rfl:r= -1:=by rw [←HR.out];unfold y2h;rw [q3t hno]
   clear hno
   go_wp2_with (first|(refine oL H ?_)|(refine oP H ?_;clear H;intro w _ H))
   go_ret;exact ⟨rfl,rfl⟩
theorem z32 {l:List NamedD} {A:Option Addr} {n c:Nat} (x:Txt) (hl:l.length=n) (hn:n≤9000000) (hd:RD w (.list n (y0o l)) (.slice A n c)) {r:Bool} (hr:(l.any fun y=>decide (y.name=x))=r):
  Calls Tryz.prog 76 #[.slice A n c,.string (str x)] w fun e w'=>e= .returned (.bool r)∧w'=w:=by
 have H:=Hp.start w;have HN:=hide hl;have HR:=hide hr;clear hl hr;go_enter Tryz.func76,Tryz.ntmps76
 go_wp2_with fail
 go_loopw [5] (fun i wr=>∃k:Nat,k≤n∧i= .int .i64 k∧Hid (((l.take k).any fun y=>decide (y.name=x))=false)∧wr=w) (fun i _=>n - (intOf i).toNat)
 case atStart=>exact ⟨0,Qak _,rfl,(by show _=_;simp),rfl⟩
 case round=>
  obtain ⟨k,hk,rfl,hno,rfl⟩:=hrel;by_cases hlt:k<n
  ·obtain ⟨d,ad,us,hx,rfl,hxl,hat⟩:=el_k (m:=3) (f:=y79) (fun _=>rfl) hd (by rw [HN.out];exact hlt) (by decide);obtain ⟨hkI,hwr⟩:=wr_k hlt hn;obtain ⟨r0,rfl,h0⟩:=hxl.lit_inv;obtain ⟨r1,rfl,h1⟩:=h0.lit_inv;obtain ⟨r2,rfl,h2⟩:=h1.lit_inv;obtain rfl:=h2.nil_inv;clear h0 h1 h2 hxl;have htk:=y0k hx;by_cases he:d.name=x
   ·have e1:((str d.name).toList==(str x).toList)=true:=by rw [Go.Proofs.YtbpgkkoeehopjaaGreat.gram.str_eq];exact Qa5 he
    obtain rfl:r=true:=by rw [←HR.out,Qbh];exact ⟨d,Qaf hx,Qa5 he⟩
    clear he hx htk
    go_wp2_with (first|(refine oL H ?_)|(refine oP H ?_;clear H;intro w _ H))
    go_ret;exact ⟨rfl,rfl⟩
   ·have e1:((str d.name).toList==(str x).toList)=false:=by rw [Go.Proofs.YtbpgkkoeehopjaaGreat.gram.str_eq];exact Qa4 he
    have HNX:Hid (((l.take (k+1)).any fun y=>decide (y.name=x))=false):=by
     show _=_
     rw [htk,List.any_append,hno.out];simp [he]
    clear he hx htk hno
    go_wp2_with (first|(refine oL H ?_)|(refine oP H ?_;clear H;intro w _ H))
    go_roundw
    case rel=>exact ⟨k+1,by omega,by go_num,HNX,trivial⟩
    case measure=>simp [intOf];omega
  ·obtain rfl:n=k:=by omega
   have hno:=hno.out;rw [Qaj (by rw [HN.out];exact Qab _)] at hno
   obtain rfl:r=false:=by rw [←HR.out];exact hno
   clear hno
   go_wp2_with (first|(refine oL H ?_)|(refine oP H ?_;clear H;intro w _ H))
   go_ret;exact ⟨rfl,rfl⟩
theorem x06 {l:List Txt} {A:Option Addr} {n c:Nat} (x:Txt) (hl:l.length=n) (hn:n≤9000000) (hd:RD w (.list n (y0t l)) (.slice A n c)) {r:Bool} (hr:decide (x∈l)=r):
  Calls Tryz.prog 78 #[.slice A n c,.string (str x)] w fun e w'=>e= .returned (.bool r)∧w'=w:=by
 have H:=Hp.start w;have HN:=hide hl;have HR:=hide hr;clear hl hr;go_enter Tryz.func78,Tryz.ntmps78
 go_wp2_with fail
 go_loopw [5] (fun i wr=>∃k:Nat,k≤n∧i= .int .i64 k∧Hid (x∉l.take k)∧wr=w) (fun i _=>n - (intOf i).toNat)
 case atStart=>exact ⟨0,Qak _,rfl,(by show _∉_;simp),rfl⟩
 case round=>
  obtain ⟨k,hk,rfl,hno,rfl⟩:=hrel;by_cases hlt:k<n
  ·obtain ⟨ad,y,rfl,hy,hat⟩:=y44 hd (by rw [HN.out];exact hlt);obtain ⟨hkI,hwr⟩:=wr_k hlt hn;have htk:=y0k hy;by_cases he:y=x
   ·have e1:((str y).toList==(str x).toList)=true:=by rw [Go.Proofs.YtbpgkkoeehopjaaGreat.gram.str_eq];exact Qa5 he
    obtain rfl:r=true:=by rw [←HR.out];exact Qa5 (he▸Qaf hy)
    clear he hy htk
    go_wp2_with (first|(refine oL H ?_)|(refine oP H ?_;clear H;intro w _ H))
    go_ret;exact ⟨rfl,rfl⟩
   ·have e1:((str y).toList==(str x).toList)=false:=by rw [Go.Proofs.YtbpgkkoeehopjaaGreat.gram.str_eq];exact Qa4 he
    have HNX:Hid (x∉l.take (k+1)):=by
     show _∉_
     rw [htk];intro hm;rcases Qbf.1 hm with hm|hm
     ·exact hno.out hm
     ·exact he (Qax.1 hm).symm
    clear he hy htk hno
    go_wp2_with (first|(refine oL H ?_)|(refine oP H ?_;clear H;intro w _ H))
    go_roundw
    case rel=>exact ⟨k+1,by omega,by go_num,HNX,trivial⟩
    case measure=>simp [intOf];omega
  ·obtain rfl:n=k:=by omega
   have hno:=hno.out;rw [Qaj (by rw [HN.out];exact Qab _)] at hno
   obtain rfl:r=false:=by rw [←HR.out];exact Qa4 hno
   clear hno
   go_wp2_with (first|(refine oL H ?_)|(refine oP H ?_;clear H;intro w _ H))
   go_ret;exact ⟨rfl,rfl⟩
theorem x5v (defs:List DefD) {n c:Nat} {A:Option Addr} (H:Hp w0 w K M) (hn:defs.length=n) (hd:RD K (.list n (y0q defs)) (.slice A n c)) (hm:n≤9000000):
  Calls Tryz.prog 74 #[.slice A n c] w fun e w'=>∃A' c',e= .returned (.slice A' n c')∧Hp w0 w' K (.row 9 1 (.slice A' n c') n ((defs.map (·.name)).map sv)::M):=by
 have HN:=hide hn;clear hn;go_enter Tryz.func74,Tryz.ntmps74
 go_wp2_with fail
 replace H:=H.nilRow 9 1
 go_loopw [3,4] (fun v i wr=>∃(k:Nat) (A':Option Addr) (c':Nat) (vs:List Value),k≤n∧i= .int .i64 k∧v= .slice A' k c'∧Hp w0 wr K (.row 9 1 (.slice A' k c') k vs::M)∧Hid (vs=((defs.take k).map (·.name)).map sv)) (fun _ i _=>n - (intOf i).toNat)
 case atStart=>exact ⟨0,none,0,[],Qak _,rfl,rfl,H,rfl⟩
 case round=>
  clear H;obtain ⟨k,A',c',vs,hk,rfl,rfl,H,hvs⟩:=hrel;by_cases hlt:k<n
  ·obtain ⟨d,ad,us,hx,rfl,hxl,hat⟩:=el_k (m:=17) (f:=defL) y0x hd (by rw [HN.out];exact hlt) (by decide);obtain ⟨hkI,hwr⟩:=wr_k hlt hm;obtain ⟨A6,c6,A7,c7,A8,c8,A9,c9,A10,c10,A11,c11,A12,c12,A14,c14,rfl,-,-,-,-,-,-,-,-⟩:=y0e hxl;have HX:=hide (y0k hx);clear hx hxl
   go_wp2_with (first|(refine oL H ?_)|(refine oP H ?_;clear H;intro w _ H)|(refine oQ H ?_;clear H;intro A' c' w _ _ H;dsimp only [List.set] at H))
   go_roundw
   case rel=>exact ⟨k+1,_,_,_,by omega,by go_num,rfl,H.fin,by show _=_;rw [HX.out,hvs.out];simp [sv]⟩
   case measure=>simp [intOf];omega
  ·obtain rfl:n=k:=by omega
   have hvs:=hvs.out;rw [Qaj (by rw [HN.out];exact Qab _)] at hvs;subst hvs
   go_wp2_with fail
   go_ret;exact ⟨_,_,rfl,H⟩
theorem y97 {k:Int} {c1 c2 c3 c4 c5 c6 c7 c8 c9 c10 c11 c12 c13 c14 c15 c16:Value} (H:Hp w0 w K M) {r:Bool} (hr:decide (2≤k∧k≤7)=r):
  Calls Tryz.prog 119 #[.agg #[.int .i64 k,c1,c2,c3,c4,c5,c6,c7,c8,c9,c10,c11,c12,c13,c14,c15,c16]] w fun e w'=>e= .returned (.bool r)∧Hp w0 w' K M:=by
 subst hr;go_enter Tryz.func119,Tryz.ntmps119;by_cases h2:2≤k
 ·by_cases h7:k≤7
  ·rw [Qa5 ⟨h2,h7⟩]
   go_wp2_with (first|(refine oL H ?_)|(refine oP H ?_;clear H;intro w _ H))
   go_ret;exact ⟨rfl,H.fin⟩
  ·rw [Qa4 (fun h=>h7 h.2)]
   go_wp2_with (first|(refine oL H ?_)|(refine oP H ?_;clear H;intro w _ H))
   go_ret;exact ⟨rfl,H.fin⟩
 ·rw [Qa4 (fun h=>h2 h.1)]
  go_wp2_with (first|(refine oL H ?_)|(refine oP H ?_;clear H;intro w _ H))
  go_ret;exact ⟨rfl,H.fin⟩
end
end Go.Proofs.YtbpgkkoeehopjaaGreat.hp
