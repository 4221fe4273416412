/- Proved: what a type may stand for are object types within it, each once; Meet says whether two types share one, the same both ways about; each type lies within itself (TypesysStands); conditions: arguments up to the sizes of the Upto form. -/
import Derived.Test.YtbpgkkoeehopjaaGreatP15
import Derived.Test.YtbpgkkoeehopjaaGreatP16
import Derived.WalkKit
import Derived.ProofKit
import Derived.OpenShut
import Derived.JoinedCond
set_option linter.unusedVariables false
set_option linter.unusedSimpArgs false
namespace Go.Proofs.YtbpgkkoeehopjaaGreat.hp
open Go.RowKit words enc tree gram lex rd dec dat held ty
set_option maxRecDepth 100000
set_option maxHeartbeats 40000000
attribute [local go_sem ↓] Go.wp_at_zero Go.wp_at_succ
section
variable {w0 w K : World} {M : List Ent}
theorem Hp.name (H:Hp w0 w K M): ∃M',M=M'∧Hp w0 w K M':=⟨M,rfl,H⟩
theorem Stands_walk (src a b:Txt) (wi:World) (hsrc:src.length≤1048576):
  Calls Tryz.prog 6 #[.string (str src),.string (str a),.string (str b)] wi fun e w'=>e= .returned (.bool true)∧Below wi.heap.size wi w':=by
 have H:=Hp.start wi;have hN:=x8w src (by omega);have hrd:=fun {w1 K M} (H:Hp wi w1 K M)=>z59 H src (by omega);obtain ⟨defs,hdefs⟩: ∃d,y57 src=d:=⟨_,rfl⟩;rw [hdefs] at hN hrd;clear hdefs;have hW:=z5v defs (by omega);obtain ⟨p,hp⟩: ∃p,posL (y0i defs) a=p:=⟨_,rfl⟩;obtain ⟨q,hq⟩: ∃q,posL (y0i defs) b=q:=⟨_,rfl⟩;obtain ⟨np,hnp⟩: ∃n,p.length=n:=⟨_,rfl⟩;obtain ⟨nq,hnq⟩: ∃n,q.length=n:=⟨_,rfl⟩;have hpl:=q2u (y0i defs) a (by have:=hW.nT;exact Qah this (by omega));have hql:=q2u (y0i defs) b (by have:=hW.nT;exact Qah this (by omega));rw [hp,hnp] at hpl;rw [hq,hnq] at hql;have HNP:=hide hnp;have HNQ:=hide hnq;have HP:=hide hp;have HQ:=hide hq;clear hnp hnq hp hq;go_enter Tryz.func6,Tryz.ntmps6
 go_upto_region 4 with (first|(go_at_call 24;(with_reducible refine (x83 _ _ _ _ H).mono ?_);clear H;rintro e w1 ⟨K1,rfl,hle1,H⟩)|(go_at_call 13;(with_reducible refine (hrd H).mono ?_);clear H;rintro e w2 ⟨K2,A2,c2,rfl,hle2,H,hd⟩)|(go_at_call 14;(with_reducible refine (y7p defs _ _ _ _ _ _ _ H rfl hd (by omega)).mono ?_);clear H;rintro e w3 ⟨K3,g,rfl,hle3,H,hT⟩))
 clear hrd hd hle1 hle2 hle3;have hv:=hT.tp;clear hT
 go_upto_region 7 with (first|(go_at_call 27;(with_reducible refine (z4v _ a defs H hv hW HP.out HNP.out).mono ?_);clear H;rintro e w4 ⟨K4,Ap,cp,rfl,hle4,H,hpd⟩;replace hv:=hv.sat hle4)|(go_at_call 27;(with_reducible refine (z4v _ b defs H hv hW HQ.out HNQ.out).mono ?_);clear H;rintro e w5 ⟨K5,Aq,cq,rfl,hle5,H,hqd⟩;replace hv:=hv.sat hle5;replace hpd:=hpd.sat hle5))
 clear hle4 hle5;have hnd:=y3k defs
 have HND:Hid p.Nodup:=by show _;have:=x4v hnd a;rw [HP.out] at this;exact this
 have HX:Hid (∀x∈p,(∃d,y2t (y0w defs).types x=some d∧d.kind=3)∧y26 (y0w defs) x a=true):=by
  intro x hx;have hx2:=HP.out▸hx;have h3:=z4u hnd hx2;refine ⟨?_,?_⟩
  ·rw [y40] at h3
   cases h:y6e (y0i defs) x with
   |none=>rw [h] at h3;simp at h3
   |some d=>exact ⟨d,h,by rw [h] at h3;exact h3⟩
  ·rw [y9v defs h3];exact Qa5 hx2
 have hTy:=fun (w1 K:World) (M:List Ent) x (H:Hp wi w1 K M) hv=>x7l (.pointer (some ⟨g,0,none⟩)) x (y0w defs) wi w1 K M H hv hW;have HTy:=hide hTy;clear hTy;have hWi:=fun (w1 K:World) (M:List Ent) x y (H:Hp wi w1 K M) hv=>z5w (.pointer (some ⟨g,0,none⟩)) x y (y0w defs) wi w1 K M H hv hW;have HWi:=hide hWi;clear hWi
 go_wp2_with fail
 go_loopw [8,32] (fun bo i wr=>∃(k:Nat) (bt:Bool) (K6:World),k≤np∧bo= .bool bt∧i= .int .i64 k∧Hid (bt=(p.take k).any fun x=>decide (x∈q))∧Sat K6 K5∧Hp wi wr K6 []) (fun _ i _=>np - (intOf i).toNat)
 case atStart=>exact ⟨0,false,K5,by omega,rfl,rfl,by (show _=_;simp),Sat.refl _,H⟩
 case round=>
  clear H;obtain ⟨k,bt,K6,hk,rfl,rfl,hbt,hle,H⟩:=hrel;have hv:=hv.sat hle;by_cases hlt:k<np
  ·have hkI:(k:Int)<(np:Int):=by omega
   obtain ⟨x,hx⟩: ∃x,p[k]?=some x:=⟨_,Qad (by rw [HNP.out];exact hlt)⟩;obtain ⟨ad,rfl,hcx⟩:=q69 hpd hx;have hc:=(H.sat.trans hle).cell hcx;obtain ⟨⟨d,hld,hd3⟩,hwx⟩:=HX.out x (Qaf hx);have hTx:=fun (w1 K:World) (M:List Ent) (H:Hp wi w1 K M) hv=>HTy.out _ _ _ x H hv;have hWx:=fun (w1 K:World) (M:List Ent) (H:Hp wi w1 K M) hv=>HWi.out _ _ _ x a H hv;simp only [hwx] at hWx;simp only [hld] at hTx;replace hTx:=hide hTx;replace hWx:=hide hWx;have hfr:=RD.front (f:=fun x=>[str' x]) (fun _=>rfl) (hpd.sat hle) (k:=k) (by omega)
   have hno:decide (x∈p.take k)=false:=by
    rw [decide_eq_false_iff_not];intro hm;obtain ⟨j,hj⟩:=Qbp.1 hm;rw [Qbb] at hj;split at hj
    ·rename_i hjk;have h1:=(Qac.1 hj);have h2:=(Qac.1 hx);obtain ⟨hj1,hj2⟩:=h1;obtain ⟨hx1,hx2⟩:=h2;exact List.pairwise_iff_getElem.1 HND.out j k hj1 hx1 hjk (hj2.trans hx2.symm)
    ·cases hj
   have hA1:=fun (w1 K2:World) (M:List Ent) (H:Hp wi w1 K2 M) (hle2:Sat K2 K6)=>y9u x (l:=p.take k) (by rw [Qau,HNP.out];omega) (by omega) (hfr.sat hle2) H;simp only [hno] at hA1;have hA2:=fun (w1 K2:World) (M:List Ent) (H:Hp wi w1 K2 M) (hle2:Sat K2 K6)=>y9u x (l:=q) HNQ.out (by omega) (hqd.sat (hle2.trans hle)) H;obtain ⟨bq,hbq⟩: ∃b,decide (x∈q)=b:=⟨_,rfl⟩;simp only [hbq] at hA2;replace hA1:=hide hA1;replace hA2:=hide hA2
   have HBT:Hid ((bt||bq)=(p.take (k+1)).any fun x=>decide (x∈q)):=by show _=_;rw [y1j hx,List.any_append,hbt.out];simp [hbq]
   have hkc: ∃cc,k≤cc:=⟨k,Qab _⟩
   have hmx:np≤cp:=by obtain ⟨A9,c9,u9,e9,g9,_⟩:=y0j hpd.reads;injection e9 with _ _ e9;omega
   have hkI2:(k:Int)≤(cp:Int):=by omega
   clear hx hcx hld hwx hno hbq hbt hfr
   go_upto_region 10 with (first|(refine oL H ?_)|(go_at_call 19;(with_reducible refine (hTx.out _ _ _ H hv).mono ?_);clear H;rintro e w7 ⟨K7,v7,rfl,hle7,H,cs7,rfl,hd7⟩;simp only [Option.getD_some] at hd7;obtain ⟨B6,e6,B7,e7,B8,e8,B9,e9,B10,e10,B11,e11,B12,e12,B14,e14,hcs,-⟩:=y0c hd7;obtain rfl:cs7= #[_,_,_,_,_,_,_,_,_,_,_,_,_,_,_,_,_]:=Qal.1 hcs;clear hcs hd7 hc;rw [hd3] at*;replace hv:=hv.sat hle7)|(refine oA 13 H ?_;clear H;intro w g13 H)|(refine oP H ?_;clear H;intro w _ H))
   cases bt<;>(
    go_wp2_with (first|(refine oL H ?_)|(go_at_call 37;(with_reducible refine (hWx.out _ _ _ H hv).mono ?_);clear H;rintro e w8 ⟨K8,rfl,hle8,H⟩;replace hv:=hv.sat hle8)|(go_at_call 23;(with_reducible refine (hA1.out _ _ _ H (hle8.trans hle7)).mono ?_);clear hA1;rintro e w9 ⟨rfl,hw9⟩;subst w9)|(go_at_call 23;(with_reducible refine (hA2.out _ _ _ H (hle8.trans hle7)).mono ?_);rintro e w9 ⟨rfl,hw9⟩;subst w9))
    go_roundw
    case rel=>exact ⟨k+1,_,K8,by omega,rfl,by go_num,HBT,(hle8.trans hle7).trans hle,H.fin⟩
    case measure=>simp [intOf];omega)
  ·obtain rfl:np=k:=by omega
   have hkI: ¬(np:Int)<(np:Int):=by omega
   have hv:=hv;have hb0:=hbt.out;rw [Qaj (by rw [HNP.out];exact Qab _)] at hb0
   have hm1:z0g (y0w defs) a b=bt:=by rw [x0b,HP.out,HQ.out];exact hb0.symm
   have hm2:z0g (y0w defs) b a=bt:=by rw [x80];exact hm1
   have hkk:=z3g defs;obtain ⟨ka,hka⟩: ∃k,y0e (y0i defs) a=k:=⟨_,rfl⟩;obtain ⟨kb,hkb⟩: ∃k,y0e (y0i defs) b=k:=⟨_,rfl⟩;have hvals:=z8j hkk a
   have ha1:(y2t (y0i defs) a).isSome=decide (ka≠0):=by rw [y67,x8x hkk,hka]
   have hb1:(y2t (y0i defs) b).isSome=decide (kb≠0):=by rw [y67,x8x hkk,hkb]
   obtain ⟨dfa,hdfa⟩: ∃d,(y2t (y0i defs) a).getD z1a=d:=⟨_,rfl⟩;obtain ⟨dfb,hdfb⟩: ∃d,(y2t (y0i defs) b).getD z1a=d:=⟨_,rfl⟩
   have hak:dfa.kind=ka:=by rw [←hdfa,←hka,y40,y67];cases y6e (y0i defs) a<;>rfl
   have hbk:dfb.kind=kb:=by rw [←hdfb,←hkb,y40,y67];cases y6e (y0i defs) b<;>rfl
   have haa:y26 (y0w defs) a a=decide (ka≠0):=by rw [x0a,←hka];rfl
   have hap:decide (a∈p)=decide (ka=3):=by rw [←HP.out,decide_eq_decide,x17 hnd,hka]
   have hwb:kb=3→y26 (y0w defs) b a=decide (b∈p):=fun h=>by rw [y9v defs (by rw [y30,hkb];exact h),HP.out]
   rw [hka] at hvals;obtain ⟨oa,hoa⟩: ∃x,decide (ka≠0)=x:=⟨_,rfl⟩;obtain ⟨ob,hob⟩: ∃x,decide (kb≠0)=x:=⟨_,rfl⟩;obtain ⟨am,ham⟩: ∃x,decide (ka=3)=x:=⟨_,rfl⟩;obtain ⟨bi,hbi⟩: ∃x,inK ka=x:=⟨_,rfl⟩;obtain ⟨bu,hbu⟩: ∃x,outK ka=x:=⟨_,rfl⟩;obtain ⟨wb,hwbe⟩: ∃x,y26 (y0w defs) b a=x:=⟨_,rfl⟩;obtain ⟨pb,hpb⟩: ∃x,decide (b∈p)=x:=⟨_,rfl⟩;have hTa:=fun (w1 K:World) (M:List Ent) (H:Hp wi w1 K M) hv=>x84 (.pointer (some ⟨g,0,none⟩)) a (y0w defs) (K:=K) (M:=M) H hv hW (ha1.trans hoa) hdfa;have hTb:=fun (w1 K:World) (M:List Ent) (H:Hp wi w1 K M) hv=>x84 (.pointer (some ⟨g,0,none⟩)) b (y0w defs) (K:=K) (M:=M) H hv hW (hb1.trans hob) hdfb;have hWa:=fun (w1 K:World) (M:List Ent) (H:Hp wi w1 K M) hv=>HWi.out _ _ _ a a H hv;have hWb:=fun (w1 K:World) (M:List Ent) (H:Hp wi w1 K M) hv=>HWi.out _ _ _ b a H hv;have hM1:=fun (w1 K:World) (M:List Ent) (H:Hp wi w1 K M) hv=>q2g (.pointer (some ⟨g,0,none⟩)) a b (y0w defs) wi w1 K M H hv hW;have hM2:=fun (w1 K:World) (M:List Ent) (H:Hp wi w1 K M) hv=>q2g (.pointer (some ⟨g,0,none⟩)) b a (y0w defs) wi w1 K M H hv hW;have hIn:=fun (w1 K:World) (M:List Ent) (H:Hp wi w1 K M) hv=>q3s (.pointer (some ⟨g,0,none⟩)) a (y0w defs) wi w1 K M H hv;have hOut:=fun (w1 K:World) (M:List Ent) (H:Hp wi w1 K M) hv=>q04 (.pointer (some ⟨g,0,none⟩)) a (y0w defs) wi w1 K M H hv;have hA1:=fun (w1 K2:World) (M:List Ent) (H:Hp wi w1 K2 M) (hle2:Sat K2 K6)=>y9u a (l:=p) HNP.out (by omega) (hpd.sat (hle2.trans hle)) H;have hA2:=fun (w1 K2:World) (M:List Ent) (H:Hp wi w1 K2 M) (hle2:Sat K2 K6)=>y9u b (l:=p) HNP.out (by omega) (hpd.sat (hle2.trans hle)) H;simp only [y30,hka,hbi] at hIn;simp only [y30,hka,hbu] at hOut;simp only [hm1] at hM1;simp only [hm2] at hM2;simp only [haa,hoa] at hWa;simp only [hwbe] at hWb;simp only [hap,ham] at hA1;simp only [hpb] at hA2;replace hM1:=hide hM1;replace hM2:=hide hM2;replace hTa:=hide hTa;replace hTb:=hide hTb;replace hWa:=hide hWa;replace hWb:=hide hWb;replace hIn:=hide hIn;replace hOut:=hide hOut;replace hA1:=hide hA1;replace hA2:=hide hA2
   have hwp:kb=3→wb=pb:=fun h=>by rw [←hwbe,hwb h,hpb]
   clear HTy HWi hwbe hwb hpb haa hap ha1 hb1 hdfa hdfb hm1 hm2 hb0 hbt hka hkb hkk hnd hW HX HND HP HQ HNP HNQ hN;have H0:=Sat.refl K6
   go_upto_region 16 with (first|(refine oL H ?_)|(go_at_call 35;(with_reducible refine (hM1.out _ _ _ H hv).mono ?_);clear H hM1;rintro e w7 ⟨K7,rfl,hle7,H⟩;replace hv:=hv.sat hle7;replace H0:=hle7.trans H0;clear hle7)|(go_at_call 35;(with_reducible refine (hM2.out _ _ _ H hv).mono ?_);clear H hM2;rintro e w7 ⟨K7,rfl,hle7,H⟩;replace hv:=hv.sat hle7;replace H0:=hle7.trans H0;clear hle7)|(go_at_call 19;(with_reducible refine (hTa.out _ _ _ H hv).mono ?_);clear H hTa;rintro e w7 ⟨K7,cs7,rfl,hle7,H,hd7⟩;obtain ⟨B6,e6,B7,e7,B8,e8,B9,e9,B10,e10,B11,e11,B12,e12,B14,e14,hcs,-⟩:=y0c hd7;obtain rfl:cs7= #[_,_,_,_,_,_,_,_,_,_,_,_,_,_,_,_,_]:=Qal.1 hcs;clear hcs hd7;rw [hak];replace hv:=hv.sat hle7;replace H0:=hle7.trans H0;clear hle7)|(go_at_call 19;(with_reducible refine (hTb.out _ _ _ H hv).mono ?_);clear H hTb;rintro e w7 ⟨K7,cs7,rfl,hle7,H,hd7⟩;obtain ⟨B6,e6,B7,e7,B8,e8,B9,e9,B10,e10,B11,e11,B12,e12,B14,e14,hcs,-⟩:=y0c hd7;obtain rfl:cs7= #[_,_,_,_,_,_,_,_,_,_,_,_,_,_,_,_,_]:=Qal.1 hcs;clear hcs hd7;rw [hbk];replace hv:=hv.sat hle7;replace H0:=hle7.trans H0;clear hle7)|(go_at_call 37;(with_reducible refine (hWa.out _ _ _ H hv).mono ?_);clear H hWa;rintro e w7 ⟨K7,rfl,hle7,H⟩;replace hv:=hv.sat hle7;replace H0:=hle7.trans H0;clear hle7)|(go_at_call 37;(with_reducible refine (hWb.out _ _ _ H hv).mono ?_);clear H hWb;rintro e w7 ⟨K7,rfl,hle7,H⟩;replace hv:=hv.sat hle7;replace H0:=hle7.trans H0;clear hle7)|(go_at_call 31;(with_reducible refine (hIn.out _ _ _ H hv).mono ?_);clear H hIn;rintro e w7 ⟨K7,rfl,hle7,H⟩;replace hv:=hv.sat hle7;replace H0:=hle7.trans H0;clear hle7)|(go_at_call 33;(with_reducible refine (hOut.out _ _ _ H hv).mono ?_);clear H hOut;rintro e w7 ⟨K7,rfl,hle7,H⟩;replace hv:=hv.sat hle7;replace H0:=hle7.trans H0;clear hle7)|(go_at_call 23;(with_reducible refine (hA1.out _ _ _ H H0).mono ?_);clear hA1;rintro e w9 ⟨rfl,hw9⟩;subst w9)|(go_at_call 23;(with_reducible refine (hA2.out _ _ _ H H0).mono ?_);clear hA2;rintro e w9 ⟨rfl,hw9⟩;subst w9)|(refine oA 15 H ?_;clear H;intro w g15 H)|(refine oA 17 H ?_;clear H;intro w g17 H)|(refine oP H ?_;clear H;intro w _ H))
   have hk3:((ka:Int)==3)=am:=by rw [←ham];by_cases h:ka=3<;>simp [h]
   have hends:(oa=false∧bi=false∧bu=false∧am=false)∨(oa=true∧((ka=2∧bi=true∧bu=true)∨(ka=6∧bi=true∧bu=true)∨(ka=7∧bi=true∧bu=false)∨(((ka:Int)==2)=false∧((ka:Int)==6)=false∧((ka:Int)==7)=false∧((ka:Int) !=7)=true∧bi=false∧bu=true))):=by
    subst hbi hbu ham hoa;rcases hvals with rfl|rfl|rfl|rfl|rfl|rfl|rfl
    ·exact .inl ⟨rfl,rfl,rfl,rfl⟩
    all_goals exact .inr (by simp [inK,outK])
   have HEND:=hide hends;have HAM:=hide (show oa=false→am=false from fun h=>by rcases hends with h2|h2;exact h2.2.2.2;rw [h] at h2;cases h2.1);have HWP:=hide hwp;have HOB:=hide hob;clear hends hvals ham hbi hbu hoa hwp hob
   go_upto_region 17 with (first|(refine oL H ?_)|(go_at_call 35;(with_reducible refine (hM1.out _ _ _ H hv).mono ?_);clear H hM1;rintro e w7 ⟨K7,rfl,hle7,H⟩;replace hv:=hv.sat hle7;replace H0:=hle7.trans H0;clear hle7)|(go_at_call 35;(with_reducible refine (hM2.out _ _ _ H hv).mono ?_);clear H hM2;rintro e w7 ⟨K7,rfl,hle7,H⟩;replace hv:=hv.sat hle7;replace H0:=hle7.trans H0;clear hle7)|(go_at_call 19;(with_reducible refine (hTa.out _ _ _ H hv).mono ?_);clear H hTa;rintro e w7 ⟨K7,cs7,rfl,hle7,H,hd7⟩;obtain ⟨B6,e6,B7,e7,B8,e8,B9,e9,B10,e10,B11,e11,B12,e12,B14,e14,hcs,-⟩:=y0c hd7;obtain rfl:cs7= #[_,_,_,_,_,_,_,_,_,_,_,_,_,_,_,_,_]:=Qal.1 hcs;clear hcs hd7;rw [hak];replace hv:=hv.sat hle7;replace H0:=hle7.trans H0;clear hle7)|(go_at_call 19;(with_reducible refine (hTb.out _ _ _ H hv).mono ?_);clear H hTb;rintro e w7 ⟨K7,cs7,rfl,hle7,H,hd7⟩;obtain ⟨B6,e6,B7,e7,B8,e8,B9,e9,B10,e10,B11,e11,B12,e12,B14,e14,hcs,-⟩:=y0c hd7;obtain rfl:cs7= #[_,_,_,_,_,_,_,_,_,_,_,_,_,_,_,_,_]:=Qal.1 hcs;clear hcs hd7;rw [hbk];replace hv:=hv.sat hle7;replace H0:=hle7.trans H0;clear hle7)|(go_at_call 37;(with_reducible refine (hWa.out _ _ _ H hv).mono ?_);clear H hWa;rintro e w7 ⟨K7,rfl,hle7,H⟩;replace hv:=hv.sat hle7;replace H0:=hle7.trans H0;clear hle7)|(go_at_call 37;(with_reducible refine (hWb.out _ _ _ H hv).mono ?_);clear H hWb;rintro e w7 ⟨K7,rfl,hle7,H⟩;replace hv:=hv.sat hle7;replace H0:=hle7.trans H0;clear hle7)|(go_at_call 31;(with_reducible refine (hIn.out _ _ _ H hv).mono ?_);clear H hIn;rintro e w7 ⟨K7,rfl,hle7,H⟩;replace hv:=hv.sat hle7;replace H0:=hle7.trans H0;clear hle7)|(go_at_call 33;(with_reducible refine (hOut.out _ _ _ H hv).mono ?_);clear H hOut;rintro e w7 ⟨K7,rfl,hle7,H⟩;replace hv:=hv.sat hle7;replace H0:=hle7.trans H0;clear hle7)|(go_at_call 23;(with_reducible refine (hA1.out _ _ _ H H0).mono ?_);clear hA1;rintro e w9 ⟨rfl,hw9⟩;subst w9)|(go_at_call 23;(with_reducible refine (hA2.out _ _ _ H H0).mono ?_);clear hA2;rintro e w9 ⟨rfl,hw9⟩;subst w9)|(refine oA 15 H ?_;clear H;intro w g15 H)|(refine oA 17 H ?_;clear H;intro w g17 H)|(refine oP H ?_;clear H;intro w _ H))
   have hq9:=H.name;clear H;obtain ⟨M1,hM1,H⟩:=hq9
   go_cut [108] from 91 (fun v wx=>v= .bool false∧ ∃K9,Sat K9 K6∧Hp wi wx K9 M1∧Tp K9 (.pointer (some ⟨g,0,none⟩)) (y0w defs))
   case first=>
    subst hM1
    cases oa with
    |false=>
     obtain rfl:=HAM.out rfl
     go_wp2_with (first|(refine oL H ?_)|(go_at_call 35;(with_reducible refine (hM1.out _ _ _ H hv).mono ?_);clear H hM1;rintro e w7 ⟨K7,rfl,hle7,H⟩;replace hv:=hv.sat hle7;replace H0:=hle7.trans H0;clear hle7)|(go_at_call 35;(with_reducible refine (hM2.out _ _ _ H hv).mono ?_);clear H hM2;rintro e w7 ⟨K7,rfl,hle7,H⟩;replace hv:=hv.sat hle7;replace H0:=hle7.trans H0;clear hle7)|(go_at_call 19;(with_reducible refine (hTa.out _ _ _ H hv).mono ?_);clear H hTa;rintro e w7 ⟨K7,cs7,rfl,hle7,H,hd7⟩;obtain ⟨B6,e6,B7,e7,B8,e8,B9,e9,B10,e10,B11,e11,B12,e12,B14,e14,hcs,-⟩:=y0c hd7;obtain rfl:cs7= #[_,_,_,_,_,_,_,_,_,_,_,_,_,_,_,_,_]:=Qal.1 hcs;clear hcs hd7;rw [hak];replace hv:=hv.sat hle7;replace H0:=hle7.trans H0;clear hle7)|(go_at_call 19;(with_reducible refine (hTb.out _ _ _ H hv).mono ?_);clear H hTb;rintro e w7 ⟨K7,cs7,rfl,hle7,H,hd7⟩;obtain ⟨B6,e6,B7,e7,B8,e8,B9,e9,B10,e10,B11,e11,B12,e12,B14,e14,hcs,-⟩:=y0c hd7;obtain rfl:cs7= #[_,_,_,_,_,_,_,_,_,_,_,_,_,_,_,_,_]:=Qal.1 hcs;clear hcs hd7;rw [hbk];replace hv:=hv.sat hle7;replace H0:=hle7.trans H0;clear hle7)|(go_at_call 37;(with_reducible refine (hWa.out _ _ _ H hv).mono ?_);clear H hWa;rintro e w7 ⟨K7,rfl,hle7,H⟩;replace hv:=hv.sat hle7;replace H0:=hle7.trans H0;clear hle7)|(go_at_call 37;(with_reducible refine (hWb.out _ _ _ H hv).mono ?_);clear H hWb;rintro e w7 ⟨K7,rfl,hle7,H⟩;replace hv:=hv.sat hle7;replace H0:=hle7.trans H0;clear hle7)|(go_at_call 31;(with_reducible refine (hIn.out _ _ _ H hv).mono ?_);clear H hIn;rintro e w7 ⟨K7,rfl,hle7,H⟩;replace hv:=hv.sat hle7;replace H0:=hle7.trans H0;clear hle7)|(go_at_call 33;(with_reducible refine (hOut.out _ _ _ H hv).mono ?_);clear H hOut;rintro e w7 ⟨K7,rfl,hle7,H⟩;replace hv:=hv.sat hle7;replace H0:=hle7.trans H0;clear hle7)|(go_at_call 23;(with_reducible refine (hA1.out _ _ _ H H0).mono ?_);clear hA1;rintro e w9 ⟨rfl,hw9⟩;subst w9)|(go_at_call 23;(with_reducible refine (hA2.out _ _ _ H H0).mono ?_);clear hA2;rintro e w9 ⟨rfl,hw9⟩;subst w9)|(refine oA 15 H ?_;clear H;intro w g15 H)|(refine oA 17 H ?_;clear H;intro w g17 H)|(refine oP H ?_;clear H;intro w _ H))
     go_meet
     case rel=>exact ⟨rfl,_,H0,H.fin,hv⟩
    |true=>
     go_wp2_with (first|(refine oL H ?_)|(go_at_call 35;(with_reducible refine (hM1.out _ _ _ H hv).mono ?_);clear H hM1;rintro e w7 ⟨K7,rfl,hle7,H⟩;replace hv:=hv.sat hle7;replace H0:=hle7.trans H0;clear hle7)|(go_at_call 35;(with_reducible refine (hM2.out _ _ _ H hv).mono ?_);clear H hM2;rintro e w7 ⟨K7,rfl,hle7,H⟩;replace hv:=hv.sat hle7;replace H0:=hle7.trans H0;clear hle7)|(go_at_call 19;(with_reducible refine (hTa.out _ _ _ H hv).mono ?_);clear H hTa;rintro e w7 ⟨K7,cs7,rfl,hle7,H,hd7⟩;obtain ⟨B6,e6,B7,e7,B8,e8,B9,e9,B10,e10,B11,e11,B12,e12,B14,e14,hcs,-⟩:=y0c hd7;obtain rfl:cs7= #[_,_,_,_,_,_,_,_,_,_,_,_,_,_,_,_,_]:=Qal.1 hcs;clear hcs hd7;rw [hak];replace hv:=hv.sat hle7;replace H0:=hle7.trans H0;clear hle7)|(go_at_call 19;(with_reducible refine (hTb.out _ _ _ H hv).mono ?_);clear H hTb;rintro e w7 ⟨K7,cs7,rfl,hle7,H,hd7⟩;obtain ⟨B6,e6,B7,e7,B8,e8,B9,e9,B10,e10,B11,e11,B12,e12,B14,e14,hcs,-⟩:=y0c hd7;obtain rfl:cs7= #[_,_,_,_,_,_,_,_,_,_,_,_,_,_,_,_,_]:=Qal.1 hcs;clear hcs hd7;rw [hbk];replace hv:=hv.sat hle7;replace H0:=hle7.trans H0;clear hle7)|(go_at_call 37;(with_reducible refine (hWa.out _ _ _ H hv).mono ?_);clear H hWa;rintro e w7 ⟨K7,rfl,hle7,H⟩;replace hv:=hv.sat hle7;replace H0:=hle7.trans H0;clear hle7)|(go_at_call 37;(with_reducible refine (hWb.out _ _ _ H hv).mono ?_);clear H hWb;rintro e w7 ⟨K7,rfl,hle7,H⟩;replace hv:=hv.sat hle7;replace H0:=hle7.trans H0;clear hle7)|(go_at_call 31;(with_reducible refine (hIn.out _ _ _ H hv).mono ?_);clear H hIn;rintro e w7 ⟨K7,rfl,hle7,H⟩;replace hv:=hv.sat hle7;replace H0:=hle7.trans H0;clear hle7)|(go_at_call 33;(with_reducible refine (hOut.out _ _ _ H hv).mono ?_);clear H hOut;rintro e w7 ⟨K7,rfl,hle7,H⟩;replace hv:=hv.sat hle7;replace H0:=hle7.trans H0;clear hle7)|(go_at_call 23;(with_reducible refine (hA1.out _ _ _ H H0).mono ?_);clear hA1;rintro e w9 ⟨rfl,hw9⟩;subst w9)|(go_at_call 23;(with_reducible refine (hA2.out _ _ _ H H0).mono ?_);clear hA2;rintro e w9 ⟨rfl,hw9⟩;subst w9)|(refine oA 15 H ?_;clear H;intro w g15 H)|(refine oA 17 H ?_;clear H;intro w g17 H)|(refine oP H ?_;clear H;intro w _ H))
     go_meet
     case rel=>exact ⟨rfl,_,H0,H.fin,hv⟩
   case rest=>
    obtain ⟨rfl,K9,H0,H,hv⟩:=hcut;clear hWa hA1
    go_upto_region 20 with (first|(refine oL H ?_)|(go_at_call 35;(with_reducible refine (hM1.out _ _ _ H hv).mono ?_);clear H hM1;rintro e w7 ⟨K7,rfl,hle7,H⟩;replace hv:=hv.sat hle7;replace H0:=hle7.trans H0;clear hle7)|(go_at_call 35;(with_reducible refine (hM2.out _ _ _ H hv).mono ?_);clear H hM2;rintro e w7 ⟨K7,rfl,hle7,H⟩;replace hv:=hv.sat hle7;replace H0:=hle7.trans H0;clear hle7)|(go_at_call 19;(with_reducible refine (hTa.out _ _ _ H hv).mono ?_);clear H hTa;rintro e w7 ⟨K7,cs7,rfl,hle7,H,hd7⟩;obtain ⟨B6,e6,B7,e7,B8,e8,B9,e9,B10,e10,B11,e11,B12,e12,B14,e14,hcs,-⟩:=y0c hd7;obtain rfl:cs7= #[_,_,_,_,_,_,_,_,_,_,_,_,_,_,_,_,_]:=Qal.1 hcs;clear hcs hd7;rw [hak];replace hv:=hv.sat hle7;replace H0:=hle7.trans H0;clear hle7)|(go_at_call 19;(with_reducible refine (hTb.out _ _ _ H hv).mono ?_);clear H hTb;rintro e w7 ⟨K7,cs7,rfl,hle7,H,hd7⟩;obtain ⟨B6,e6,B7,e7,B8,e8,B9,e9,B10,e10,B11,e11,B12,e12,B14,e14,hcs,-⟩:=y0c hd7;obtain rfl:cs7= #[_,_,_,_,_,_,_,_,_,_,_,_,_,_,_,_,_]:=Qal.1 hcs;clear hcs hd7;rw [hbk];replace hv:=hv.sat hle7;replace H0:=hle7.trans H0;clear hle7)|(go_at_call 37;(with_reducible refine (hWa.out _ _ _ H hv).mono ?_);clear H hWa;rintro e w7 ⟨K7,rfl,hle7,H⟩;replace hv:=hv.sat hle7;replace H0:=hle7.trans H0;clear hle7)|(go_at_call 37;(with_reducible refine (hWb.out _ _ _ H hv).mono ?_);clear H hWb;rintro e w7 ⟨K7,rfl,hle7,H⟩;replace hv:=hv.sat hle7;replace H0:=hle7.trans H0;clear hle7)|(go_at_call 31;(with_reducible refine (hIn.out _ _ _ H hv).mono ?_);clear H hIn;rintro e w7 ⟨K7,rfl,hle7,H⟩;replace hv:=hv.sat hle7;replace H0:=hle7.trans H0;clear hle7)|(go_at_call 33;(with_reducible refine (hOut.out _ _ _ H hv).mono ?_);clear H hOut;rintro e w7 ⟨K7,rfl,hle7,H⟩;replace hv:=hv.sat hle7;replace H0:=hle7.trans H0;clear hle7)|(go_at_call 23;(with_reducible refine (hA1.out _ _ _ H H0).mono ?_);clear hA1;rintro e w9 ⟨rfl,hw9⟩;subst w9)|(go_at_call 23;(with_reducible refine (hA2.out _ _ _ H H0).mono ?_);clear hA2;rintro e w9 ⟨rfl,hw9⟩;subst w9)|(refine oA 15 H ?_;clear H;intro w g15 H)|(refine oA 17 H ?_;clear H;intro w g17 H)|(refine oP H ?_;clear H;intro w _ H))
    have hq9:=H.name;clear H;obtain ⟨M2,hM2e,H⟩:=hq9
    go_cut [130] from 115 (fun v wx=>v= .bool false∧ ∃K10,Sat K10 K6∧Hp wi wx K10 M2∧Tp K10 (.pointer (some ⟨g,0,none⟩)) (y0w defs))
    case first=>
     subst hM2e hM1;by_cases h3:kb=3
     ·obtain rfl:=HWP.out h3;subst h3;obtain rfl:true=ob:=HOB.out
      go_wp2_with (first|(refine oL H ?_)|(go_at_call 35;(with_reducible refine (hM1.out _ _ _ H hv).mono ?_);clear H hM1;rintro e w7 ⟨K7,rfl,hle7,H⟩;replace hv:=hv.sat hle7;replace H0:=hle7.trans H0;clear hle7)|(go_at_call 35;(with_reducible refine (hM2.out _ _ _ H hv).mono ?_);clear H hM2;rintro e w7 ⟨K7,rfl,hle7,H⟩;replace hv:=hv.sat hle7;replace H0:=hle7.trans H0;clear hle7)|(go_at_call 19;(with_reducible refine (hTa.out _ _ _ H hv).mono ?_);clear H hTa;rintro e w7 ⟨K7,cs7,rfl,hle7,H,hd7⟩;obtain ⟨B6,e6,B7,e7,B8,e8,B9,e9,B10,e10,B11,e11,B12,e12,B14,e14,hcs,-⟩:=y0c hd7;obtain rfl:cs7= #[_,_,_,_,_,_,_,_,_,_,_,_,_,_,_,_,_]:=Qal.1 hcs;clear hcs hd7;rw [hak];replace hv:=hv.sat hle7;replace H0:=hle7.trans H0;clear hle7)|(go_at_call 19;(with_reducible refine (hTb.out _ _ _ H hv).mono ?_);clear H hTb;rintro e w7 ⟨K7,cs7,rfl,hle7,H,hd7⟩;obtain ⟨B6,e6,B7,e7,B8,e8,B9,e9,B10,e10,B11,e11,B12,e12,B14,e14,hcs,-⟩:=y0c hd7;obtain rfl:cs7= #[_,_,_,_,_,_,_,_,_,_,_,_,_,_,_,_,_]:=Qal.1 hcs;clear hcs hd7;rw [hbk];replace hv:=hv.sat hle7;replace H0:=hle7.trans H0;clear hle7)|(go_at_call 37;(with_reducible refine (hWa.out _ _ _ H hv).mono ?_);clear H hWa;rintro e w7 ⟨K7,rfl,hle7,H⟩;replace hv:=hv.sat hle7;replace H0:=hle7.trans H0;clear hle7)|(go_at_call 37;(with_reducible refine (hWb.out _ _ _ H hv).mono ?_);clear H hWb;rintro e w7 ⟨K7,rfl,hle7,H⟩;replace hv:=hv.sat hle7;replace H0:=hle7.trans H0;clear hle7)|(go_at_call 31;(with_reducible refine (hIn.out _ _ _ H hv).mono ?_);clear H hIn;rintro e w7 ⟨K7,rfl,hle7,H⟩;replace hv:=hv.sat hle7;replace H0:=hle7.trans H0;clear hle7)|(go_at_call 33;(with_reducible refine (hOut.out _ _ _ H hv).mono ?_);clear H hOut;rintro e w7 ⟨K7,rfl,hle7,H⟩;replace hv:=hv.sat hle7;replace H0:=hle7.trans H0;clear hle7)|(go_at_call 23;(with_reducible refine (hA1.out _ _ _ H H0).mono ?_);clear hA1;rintro e w9 ⟨rfl,hw9⟩;subst w9)|(go_at_call 23;(with_reducible refine (hA2.out _ _ _ H H0).mono ?_);clear hA2;rintro e w9 ⟨rfl,hw9⟩;subst w9)|(refine oA 15 H ?_;clear H;intro w g15 H)|(refine oA 17 H ?_;clear H;intro w g17 H)|(refine oP H ?_;clear H;intro w _ H))
      go_meet
      case rel=>exact ⟨rfl,_,H0,H.fin,hv⟩
     ·have b3:((kb:Int)==3)=false:=by rw [Qa3];exact h3
      clear h3;cases ob
      all_goals
       go_wp2_with (first|(refine oL H ?_)|(go_at_call 35;(with_reducible refine (hM1.out _ _ _ H hv).mono ?_);clear H hM1;rintro e w7 ⟨K7,rfl,hle7,H⟩;replace hv:=hv.sat hle7;replace H0:=hle7.trans H0;clear hle7)|(go_at_call 35;(with_reducible refine (hM2.out _ _ _ H hv).mono ?_);clear H hM2;rintro e w7 ⟨K7,rfl,hle7,H⟩;replace hv:=hv.sat hle7;replace H0:=hle7.trans H0;clear hle7)|(go_at_call 19;(with_reducible refine (hTa.out _ _ _ H hv).mono ?_);clear H hTa;rintro e w7 ⟨K7,cs7,rfl,hle7,H,hd7⟩;obtain ⟨B6,e6,B7,e7,B8,e8,B9,e9,B10,e10,B11,e11,B12,e12,B14,e14,hcs,-⟩:=y0c hd7;obtain rfl:cs7= #[_,_,_,_,_,_,_,_,_,_,_,_,_,_,_,_,_]:=Qal.1 hcs;clear hcs hd7;rw [hak];replace hv:=hv.sat hle7;replace H0:=hle7.trans H0;clear hle7)|(go_at_call 19;(with_reducible refine (hTb.out _ _ _ H hv).mono ?_);clear H hTb;rintro e w7 ⟨K7,cs7,rfl,hle7,H,hd7⟩;obtain ⟨B6,e6,B7,e7,B8,e8,B9,e9,B10,e10,B11,e11,B12,e12,B14,e14,hcs,-⟩:=y0c hd7;obtain rfl:cs7= #[_,_,_,_,_,_,_,_,_,_,_,_,_,_,_,_,_]:=Qal.1 hcs;clear hcs hd7;rw [hbk];replace hv:=hv.sat hle7;replace H0:=hle7.trans H0;clear hle7)|(go_at_call 37;(with_reducible refine (hWa.out _ _ _ H hv).mono ?_);clear H hWa;rintro e w7 ⟨K7,rfl,hle7,H⟩;replace hv:=hv.sat hle7;replace H0:=hle7.trans H0;clear hle7)|(go_at_call 37;(with_reducible refine (hWb.out _ _ _ H hv).mono ?_);clear H hWb;rintro e w7 ⟨K7,rfl,hle7,H⟩;replace hv:=hv.sat hle7;replace H0:=hle7.trans H0;clear hle7)|(go_at_call 31;(with_reducible refine (hIn.out _ _ _ H hv).mono ?_);clear H hIn;rintro e w7 ⟨K7,rfl,hle7,H⟩;replace hv:=hv.sat hle7;replace H0:=hle7.trans H0;clear hle7)|(go_at_call 33;(with_reducible refine (hOut.out _ _ _ H hv).mono ?_);clear H hOut;rintro e w7 ⟨K7,rfl,hle7,H⟩;replace hv:=hv.sat hle7;replace H0:=hle7.trans H0;clear hle7)|(go_at_call 23;(with_reducible refine (hA1.out _ _ _ H H0).mono ?_);clear hA1;rintro e w9 ⟨rfl,hw9⟩;subst w9)|(go_at_call 23;(with_reducible refine (hA2.out _ _ _ H H0).mono ?_);clear hA2;rintro e w9 ⟨rfl,hw9⟩;subst w9)|(refine oA 15 H ?_;clear H;intro w g15 H)|(refine oA 17 H ?_;clear H;intro w g17 H)|(refine oP H ?_;clear H;intro w _ H))
       go_meet
       case rel=>exact ⟨rfl,_,H0,H.fin,hv⟩
    case rest=>
     obtain ⟨rfl,K10,H0,H,hv⟩:=hcut;subst hM2e hM1;clear hWb hA2 HWP HOB HAM hk3;rcases HEND.out with ⟨rfl,rfl,rfl,rfl⟩|⟨rfl,⟨rfl,rfl,rfl⟩|⟨rfl,rfl,rfl⟩|⟨rfl,rfl,rfl⟩|⟨x2,x6,x7,x8,rfl,rfl⟩⟩
     ·clear HEND
      go_wp2_with (first|(go_at_call 31;(with_reducible refine (hIn.out _ _ _ H hv).mono ?_);clear H hIn;rintro e w7 ⟨K7,rfl,hle7,H⟩;replace hv:=hv.sat hle7;clear hle7)|(go_at_call 33;(with_reducible refine (hOut.out _ _ _ H hv).mono ?_);clear H hOut;rintro e w7 ⟨K7,rfl,hle7,H⟩;clear hv hle7))
      go_ret;exact ⟨rfl,H.bel⟩
     ·clear HEND
      go_wp2_with (first|(refine oL H ?_)|(go_at_call 31;(with_reducible refine (hIn.out _ _ _ H hv).mono ?_);clear H hIn;rintro e w7 ⟨K7,rfl,hle7,H⟩;replace hv:=hv.sat hle7;clear hle7)|(go_at_call 33;(with_reducible refine (hOut.out _ _ _ H hv).mono ?_);clear H hOut;rintro e w7 ⟨K7,rfl,hle7,H⟩;clear hv hle7))
      go_ret;exact ⟨rfl,H.bel⟩
     ·clear HEND
      go_wp2_with (first|(refine oL H ?_)|(go_at_call 31;(with_reducible refine (hIn.out _ _ _ H hv).mono ?_);clear H hIn;rintro e w7 ⟨K7,rfl,hle7,H⟩;replace hv:=hv.sat hle7;clear hle7)|(go_at_call 33;(with_reducible refine (hOut.out _ _ _ H hv).mono ?_);clear H hOut;rintro e w7 ⟨K7,rfl,hle7,H⟩;clear hv hle7))
      go_ret;exact ⟨rfl,H.bel⟩
     ·clear HEND
      go_wp2_with (first|(refine oL H ?_)|(go_at_call 31;(with_reducible refine (hIn.out _ _ _ H hv).mono ?_);clear H hIn;rintro e w7 ⟨K7,rfl,hle7,H⟩;replace hv:=hv.sat hle7;clear hle7)|(go_at_call 33;(with_reducible refine (hOut.out _ _ _ H hv).mono ?_);clear H hOut;rintro e w7 ⟨K7,rfl,hle7,H⟩;clear hv hle7))
      go_ret;exact ⟨rfl,H.bel⟩
     ·clear HEND
      go_wp2_with (first|(refine oL H ?_)|(go_at_call 31;(with_reducible refine (hIn.out _ _ _ H hv).mono ?_);clear H hIn;rintro e w7 ⟨K7,rfl,hle7,H⟩;replace hv:=hv.sat hle7;clear hle7)|(go_at_call 33;(with_reducible refine (hOut.out _ _ _ H hv).mono ?_);clear H hOut;rintro e w7 ⟨K7,rfl,hle7,H⟩;clear hv hle7))
      go_ret;exact ⟨rfl,H.bel⟩
end
end Go.Proofs.YtbpgkkoeehopjaaGreat.hp
namespace Go.Proofs.YtbpgkkoeehopjaaGreat.typesysStands
open Go.ChangeMaps (open_string shut_string)
open Go.ChangeShapes Go.WideShapes Go.ChangeAt Go.RowKit words tree gram rd dat opn hp frame
set_option maxRecDepth 100000
theorem own:ownKnob Tryz.prog.godebug=none:=by kernel_rfl
theorem laidOut:laidOutB Tryz.prog=true:=by kernel_rfl
theorem bound {H:Type} {l:List (DataW H)} (hk:Rows.uptoSmall H l=true):Rows.uptoBulkAll l≤1048576:=Qa6 hk
theorem lo_in {w:World} {t:Leaf} {v:Value} (h:Reads w (Lo w.heap.size) t v):RD w t v:=⟨h.keep (fun b hb=>⟨Qak _,hb⟩) (fun _ _=>rfl),Qab _⟩
theorem contract (H:Type) (enc:TypeId×Value→H) (W:World) (base:Nat) (args:Array Value) (ds gs:List (DataW H)) (before:List MemPlace)
  (hval: ∀(j:Nat) t v,Tryz.f6.params[j]?=some t→args[j]?=some v→Value.okWide Tryz.prog W .any base t v)
  (hW:DataW.Whole enc Tryz.prog Tryz.f6.params.toList Rows.typesysStandsSpec.vars false W args.toList ds gs before) (hk:Rows.uptoSmall H (ds++gs)=true):
  Calls Tryz.prog 6 args W fun e W'=>∃v,e= .returned v∧Rows.typesysStandsSpec.post enc Tryz.prog Tryz.f6 false true false false W args v W':=by
 have hW':=hW;obtain ⟨p,q,hA0,hV,rfl,hfz,hnd⟩:=hW;have hA:DataW.TrodAll enc Tryz.prog W 0 (fun _=>true) true Tryz.f6.params.toList args.toList ds p:=hA0;rw [Tryz.params6] at hA hval;obtain ⟨v0,vs0,d0,ds0,p0,q0,hargs,rfl,rfl,h0,r0⟩:=trodAll_cons hA;obtain ⟨v1,vs1,d1,ds1,p1,q1,rfl,rfl,rfl,h1,r1⟩:=trodAll_cons r0;obtain ⟨v2,vs2,d2,ds2,p2,q2,rfl,rfl,rfl,h2,r2⟩:=trodAll_cons r1;obtain ⟨rfl,rfl,rfl⟩:=trodAll_nil r2
 obtain rfl:args= #[v0,v1,v2]:=by cases args;simp_all
 obtain ⟨rfl,rfl⟩:=trodVars_none hV;have hbulk:=bound hk;simp only [List.append_nil,Rows.uptoBulkAll] at hbulk;clear hk hA0;simp only [List.append_nil] at hW'
 have fin: ∀(e:Ending) (W':World),(e= .returned (.bool true)∧Below W.heap.size W W')→ ∃v,e= .returned v∧Rows.typesysStandsSpec.post enc Tryz.prog Tryz.f6 false true false false W #[v0,v1,v2] v W':=fun e W' ⟨he,hb⟩=>by
  subst he;refine ⟨_,rfl,law_post rfl rfl rfl rfl laidOut ?_ (by kernel_rfl) Tryz.underlying4 hW' hb⟩;rw [Tryz.params6];intro t ht;simp only [Qbd,List.mem_nil_iff,or_false] at ht;rcases ht with rfl|rfl|rfl
  all_goals exact ⟨by kernel_rfl,Qa6 (by kernel_rfl)⟩
 obtain ⟨s0,rfl,rfl,-,-⟩:=open_string Tryz.underlying9 (hval 0 9 v0 rfl rfl) h0;obtain ⟨src,hx0⟩: ∃x:Txt,x=s0.data.toList:=⟨_,rfl⟩
 have es0:s0=str src:=by rw [hx0];exact (str_of s0).symm
 subst es0;rw [str_data] at hbulk
 have hl_src:src.length≤1048576:=by simp only [Rows.uptoBulk] at hbulk;omega
 obtain ⟨s1,rfl,rfl,-,-⟩:=open_string Tryz.underlying9 (hval 1 9 v1 rfl rfl) h1;obtain ⟨a,hx1⟩: ∃x:Txt,x=s1.data.toList:=⟨_,rfl⟩
 have es1:s1=str a:=by rw [hx1];exact (str_of s1).symm
 subst es1;rw [str_data] at hbulk
 have hl_a:a.length≤1048576:=by simp only [Rows.uptoBulk] at hbulk;omega
 obtain ⟨s2,rfl,rfl,-,-⟩:=open_string Tryz.underlying9 (hval 2 9 v2 rfl rfl) h2;obtain ⟨b,hx2⟩: ∃x:Txt,x=s2.data.toList:=⟨_,rfl⟩
 have es2:s2=str b:=by rw [hx2];exact (str_of s2).symm
 subst es2;rw [str_data] at hbulk
 have hl_b:b.length≤1048576:=by simp only [Rows.uptoBulk] at hbulk;omega
 exact (Stands_walk src a b W hl_src).mono fun e W' h=>fin e W' h
set_option maxRecDepth 100000 in
theorem lifted (os:Os) (started:os.Started) (H:Type) (enc:TypeId×Value→H) (F:Stop.Interp):
  ReturnsInHanded {} Tryz.checked os 6 .any ((Rows.OpenSpec.upto Rows.typesysStandsSpec).pre6 enc Tryz.prog Tryz.f6 Rows.typesysStandsUptoRow.domain false) (((Rows.OpenSpec.upto Rows.typesysStandsSpec).at F).post enc Tryz.prog Tryz.f6 false true false false):=by
 refine returnsInHanded_of_cond (C:=Tryz.checked) (s:=Rows.OpenSpec.upto Rows.typesysStandsSpec) (k:=Rows.uptoSmall) rfl own started (by kernel_rfl) Tryz.func6
  (OpenSpec.witness (enc:=enc) (C:=Tryz.checked) (s:=Rows.OpenSpec.upto Rows.typesysStandsSpec) (k:=Rows.uptoSmall) rfl false ⟨#[], #[.string .empty,.string .empty,.string .empty],[]⟩ 8 (by kernel_rfl) (by kernel_rfl) (by kernel_rfl)
    (x:=([.lit (.string []),.lit (.string []),.lit (.string [])],[],[])) (by kernel_rfl) rfl (by kernel_rfl)) ?_
 intro W base args ds gs before hval hW _ hk _;exact contract H enc W base args ds gs before hval hW hk
theorem and_tt {a b:Bool} (h:a=true) (h':b=true):(a&&b)=true:=by rw [h,h'];rfl
set_option maxHeartbeats 64000000 in
theorem closed:joinedFacts Tryz.prog 6 Tryz.f6 (Rows.OpenSpec.upto Rows.typesysStandsSpec).bare Rows.typesysStandsUptoRow=true:=by
 unfold joinedFacts
 repeat' (with_reducible refine and_tt ?_ ?_)
 all_goals (as_aux_lemma=>kernel_rfl)
theorem inst:Tryz.f6.isInstance Tryz.prog Rows.typesysStandsUptoRow.origin Rows.typesysStandsUptoRow.targs:=Qa6 (by kernel_rfl)
theorem proved:Rows.TypesysStandsUptoSaid:=
 OpenClaim.holds_of_cond 6 Tryz.f6 rfl rfl rfl rfl rfl rfl rfl ⟨rfl,rfl,rfl,rfl,rfl⟩ rfl rfl rfl rfl rfl (by kernel_rfl) Tryz.func6 closed
  inst (by unfold Func.isWrapper;first|(rw [if_pos (by decide+kernel)];kernel_rfl)|(rw [if_neg (by decide+kernel)];exact ⟨rfl,rfl⟩))
  (fun os started H enc _ F=>lifted os started H enc F)
#print axioms proved
end Go.Proofs.YtbpgkkoeehopjaaGreat.typesysStands
