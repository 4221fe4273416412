/- Part 14 of 17 of a proof: see the last part. -/
import Derived.Test.YtbpgkkoeehopjaaGreatP11
import Derived.Test.YtbpgkkoeehopjaaGreatP12
import Derived.Test.YtbpgkkoeehopjaaGreatP13
import Derived.Deep.QuietTactic
import Derived.BigQuiet
import Derived.Laws.ResultCell
import Derived.Maps.RangeRun
import Derived.Shelf.SlSortCmp.Whole1
import Derived.KernelRfl
import Derived.Shelf.SlSortCmp.NoneTotal
set_option linter.unusedVariables false
set_option linter.unusedSimpArgs false
namespace Go.Proofs.YtbpgkkoeehopjaaGreat.hp
open Go.RowKit words enc tree gram lex rd dec dat held ty
set_option maxRecDepth 100000
attribute [local go_sem ↓] Go.wp_at_zero Go.wp_at_succ
def BldP (D:TysD) (w0 K:World) (M:List Ent) (e:Ending) (w':World):Prop:=
 ∃K' g,e= .returned (.pointer (some ⟨g,0,none⟩))∧Sat K' K∧Hp w0 w' K' M∧TysK K' g D
set_option maxHeartbeats 64000000 in
theorem z7q (defs:List DefD) (n c:Nat) (A:Option Addr) (w0 w K:World) (M:List Ent) (H:Hp w0 w K M) (hn:defs.length=n) (hd:RD K (.list n (y0q defs)) (.slice A n c)) (hm:y0e defs≤3000000):
  Calls Tryz.prog 14 #[.slice A n c] w (BldP (y3x defs) w0 K M):=by
 have hnl:n≤3000000:=by have:=y0o y2g defs;unfold y0e at hm;omega
 have HN:=hide hn;clear hn;have hsz:(Tryz.prog.info? 43).map (·.size)=some 17:=z0e;have hgl:=hide x6j;have hrl:=hide z7p;go_enter Tryz.func14,Tryz.ntmps14;have hK:=Sat.refl K
 go_upto_region 2 with (first
  |(refine y4c (by rfl) 87 (by rfl) (some 28) (by rfl) H ?_;clear H;intro w1 b28 H;replace H:Hp _ _ _ (.map b28 (y00 ks [])::_):=H)
  |(refine y4c (by rfl) 87 (by rfl) (some 29) (by rfl) H ?_;clear H;intro w2 b29 H;replace H:Hp _ _ _ (.map b29 (y00 ks [])::_):=H)
  |(refine y4c (by rfl) 88 (by rfl) (some 30) (by rfl) H ?_;clear H;intro w3 b30 H;replace H:Hp _ _ _ (.map b30 (y00 ks [])::_):=H)
  |(refine y4c (by rfl) 89 (by rfl) (some 31) (by rfl) H ?_;clear H;intro w4 b31 H;replace H:Hp _ _ _ (.map b31 (y00 ks [])::_):=H)
  |(refine z17 (by rfl) 91 (.tmp 32) (by rfl) [.int .i64 0,.bool false,.bool false,.bool false,.string ⟨#[]⟩,.string ⟨#[]⟩,.slice none 0 0,.slice none 0 0,.slice none 0 0,.slice none 0 0,.slice none 0 0,.slice none 0 0,.slice none 0 0,.bool false,.slice none 0 0,.int .i64 0,.int .i64 0,.slice none 0 0,.map (some b28),.slice none 0 0,.map (some b29),.map (some b30),.map (some b31)] _ (by rfl) (by rfl) (some 33) (by rfl) H ?_;clear H;intro w5 g33 H hg6;clear hg6))
 go_upto_region 3 with (first
  |(go_at_call 56;refine (q85 _ _ _ _ H).mono ?_;clear H;rintro e w5 ⟨K5,Ag,cg,rfl,hle,H,hgv⟩;replace hd:=hd.sat hle;replace hK:=hle.trans hK)
  |(go_at_call 57;refine (q86 _ _ _ _ H).mono ?_;clear H;rintro e w6 ⟨K6,Ad,cd,rfl,hle,H,hdv⟩;replace hd:=hd.sat hle;replace hgv:=hgv.sat hle;replace hK:=hle.trans hK))
 obtain ⟨M1,hM1⟩: ∃x,((.box g33 [.int .i64 0,.bool false,.bool false,.bool false,.string ⟨#[]⟩,.string ⟨#[]⟩,.slice none 0 0,.slice none 0 0,.slice none 0 0,.slice none 0 0,.slice none 0 0,.slice none 0 0,.slice none 0 0,.bool false,.slice none 0 0,.int .i64 0,.int .i64 0,.slice none 0 0,.map (some b28),.slice none 0 0,.map (some b29),.map (some b30),.map (some b31)] 91:: .map b31 (y00 ks []):: .map b30 (y00 ks []):: .map b29 (y00 ks []):: .map b28 (y00 ks [])::M))=x:=⟨_,rfl⟩;rw [hM1] at H
 go_upto_region 5 with (first
  |(refine y4c (by rfl) 87 (by rfl) (some 36) (by rfl) H ?_;clear H;intro w9 b36 H;replace H:Hp _ _ _ (.map b36 (y00 ks [])::_):=H)
  |(refine y4c (by rfl) 87 (by rfl) (some 37) (by rfl) H ?_;clear H;intro w10 b37 H;replace H:Hp _ _ _ (.map b37 (y00 ks [])::_):=H))
 go_wp2_with fail
 go_loopw [40] (fun i wr=>∃(k:Nat),k≤13∧i= .int .i64 k∧Hp w0 wr K6 (.map b37 []:: .map b36 (y00 ks (nmap ((y0a givenT).take k)))::M1)) (fun i _=>13 - (intOf i).toNat)
 case atStart=>exact ⟨0,Qak _,rfl,H⟩
 case round=>
  clear H;obtain ⟨k,hk,rfl,H⟩:=hrel;by_cases hlt:k<13
  ·have hkI:(k:Int)<(13:Int):=by omega
   as_aux_lemma=>
    obtain ⟨x,hx⟩: ∃x,givenT[k]?=some x:=⟨_,Qad (by rw [hgl.out];exact hlt)⟩;obtain ⟨ad,xs,had,hxd,hxl,hatK⟩:=y2r (m:=17) (f:=defL) y0u hgv hx (by omega);subst had;obtain ⟨A6,c6,A7,c7,A8,c8,A9,c9,A10,c10,A11,c11,A12,c12,A14,c14,hxs,-,-,-,-,-,-,-,-⟩:=y0c hxd;have hown:=x3v z9v hx;clear hx hxd;subst hxs
    go_upto_region 8 with (first
     |((with_reducible show wpList _ _ _ (_::_) _ _);refine y0d (by rfl) 43 (.tmp 43) (by rfl) (ad.add (k*17)) (by simp [Act.eval,Act.put]) _ _ (At.sat hatK H.sat) Tryz.underlying43 rfl hsz ?_)
     |((with_reducible refine isL ?_);first
      |(refine al z43 9 H ?_;clear H;intro w11 g9 H)
      |(refine sA 9 0 H ?_;clear H;intro w13 H)))
    have:=H.c 0 5
    go_upto_region 9 with (first
     |(refine y8p (by rfl) (.tmp 45) (.tmp 47) (.tmp 48) 87 (by rfl) Tryz.underlying87 (y08 Tryz.underlying9) H 2 b36 (nmap ((y0a givenT).take k)) (by rfl) (by first|rfl|simp [Act.eval,Act.put]) (x.name) (by first|rfl|simp [Act.eval,Act.put]) (.int .i64 (k:Int)) (by first|rfl|simp [Act.eval,Act.put]) (nmap ((y0a givenT).take (k+1))) (hown) ?_;clear H;intro w14 H;replace H:Hp _ _ _ (_::_::_::M1):=H;have:=H.c 0 5))
    replace H:=H.sub (Qai _ (Qaa _ (Qaa _ (Qam _))))
    go_wp2_with fail
    go_roundw
    case rel=>exact ⟨k+1,by omega,by go_num,H⟩
    case measure=>simp [intOf];omega
  ·have hk13:k=13:=by omega
   have hkI: ¬(k:Int)<13:=by omega
   rw [hk13] at H;clear hk13 hlt;have htk:(y0a givenT).take 13=y0a givenT:=Qaj (by rw [Qay,hgl.out];exact Qab _);rw [htk] at H;clear htk
   go_wp2_with fail
   go_loopw [52] (fun i wr=>∃(k:Nat),k≤4∧i= .int .i64 k∧Hp w0 wr K6 (.map b37 (y00 ks (nmap ((y0a givenDirsD).take k))):: .map b36 (y00 ks (nmap (y0a givenT)))::M1)) (fun i _=>4 - (intOf i).toNat)
   case atStart=>exact ⟨0,Qak _,rfl,H⟩
   case round=>
    clear H;obtain ⟨k,hk,rfl,H⟩:=hrel;by_cases hlt:k<4
    ·have hkI:(k:Int)<(4:Int):=by omega
     as_aux_lemma=>
      obtain ⟨x,hx⟩: ∃x,givenDirsD[k]?=some x:=⟨_,Qad (by rw [hrl.out];exact hlt)⟩;obtain ⟨ad,xs,had,hxd,hxl,hatK⟩:=y2r (m:=17) (f:=defL) y0u hdv hx (by omega);subst had;obtain ⟨A6,c6,A7,c7,A8,c8,A9,c9,A10,c10,A11,c11,A12,c12,A14,c14,hxs,-,-,-,-,-,-,-,-⟩:=y0c hxd;have hown:=x3v z4o hx;clear hx hxd;subst hxs
      go_upto_region 13 with (first
       |((with_reducible show wpList _ _ _ (_::_) _ _);refine y0d (by rfl) 43 (.tmp 55) (by rfl) (ad.add (k*17)) (by simp [Act.eval,Act.put]) _ _ (At.sat hatK H.sat) Tryz.underlying43 rfl hsz ?_)
       |((with_reducible refine isL ?_);first
        |(refine al z43 11 H ?_;clear H;intro w15 g11 H)
        |(refine sA 11 0 H ?_;clear H;intro w17 H)))
      have:=H.c 0 5
      go_upto_region 14 with (first
       |(refine y8p (by rfl) (.tmp 57) (.tmp 59) (.tmp 60) 87 (by rfl) Tryz.underlying87 (y08 Tryz.underlying9) H 1 b37 (nmap ((y0a givenDirsD).take k)) (by rfl) (by first|rfl|simp [Act.eval,Act.put]) (x.name) (by first|rfl|simp [Act.eval,Act.put]) (.int .i64 (k:Int)) (by first|rfl|simp [Act.eval,Act.put]) (nmap ((y0a givenDirsD).take (k+1))) (hown) ?_;clear H;intro w18 H;replace H:Hp _ _ _ (_::_::_::M1):=H;have:=H.c 0 5))
      replace H:=H.sub (Qai _ (Qaa _ (Qaa _ (Qam _))))
      go_wp2_with fail
      go_roundw
      case rel=>exact ⟨k+1,by omega,by go_num,H⟩
      case measure=>simp [intOf];omega
    ·have hk4:k=4:=by omega
     have hkJ: ¬(k:Int)<4:=by omega
     rw [hk4] at H;clear hk4 hlt;have htk:(y0a givenDirsD).take 4=y0a givenDirsD:=Qaj (by rw [Qay,hrl.out];exact Qab _);rw [htk] at H;clear htk;obtain ⟨K7,s7,H,hod⟩:=H.freezeKm;obtain ⟨K8,s8,H,how⟩:=H.freezeKm;have hB:BK K8 defs n (.slice A n c) (.slice Ag 13 cg) (.slice Ad 4 cd) b36 b37:=⟨(hd.sat s7).sat s8,(hgv.sat s7).sat s8,(hdv.sat s7).sat s8,how,hod.sat s8⟩;replace hK:=(s8.trans s7).trans hK;clear s7 s8 hod how hd hgv hdv;subst hM1;obtain ⟨M2,hM2⟩: ∃x,(.map b30 []:: .map b31 []::M)=x:=⟨_,rfl⟩;have H1:=Hp.rotAt [tbox g33 b28 b29 b30 b31 (.slice none 0 0) (.slice none 0 0)] [.map b31 [],.map b30 [],.map b29 []] [.map b28 []] (M:=M) H;have H2:=Hp.rotAt [tbox g33 b28 b29 b30 b31 (.slice none 0 0) (.slice none 0 0),.map b28 []] [.map b31 [],.map b30 []] [.map b29 []] (M:=M) H1;have H3:=Hp.rotAt [tbox g33 b28 b29 b30 b31 (.slice none 0 0) (.slice none 0 0),.map b28 [],.map b29 []] [.map b31 []] [.map b30 []] (M:=M) H2;have H4:=(H3.nilRow 43 17).nilRow 43 17;have H5:=Hp.rotAt [] [.row 43 17 (.slice none 0 0) 0 [],.row 43 17 (.slice none 0 0) 0 []] [tbox g33 b28 b29 b30 b31 (.slice none 0 0) (.slice none 0 0),.map b28 []] (M:=.map b29 []:: .map b30 []:: .map b31 []::M) H4;have H6:=Hp.rotAt [tbox g33 b28 b29 b30 b31 (.slice none 0 0) (.slice none 0 0),.map b28 [],.row 43 17 (.slice none 0 0) 0 []] [.row 43 17 (.slice none 0 0) 0 []] [.map b29 []] (M:=.map b30 []:: .map b31 []::M) H5
     have hS:Bst g33 b28 b29 b30 b31 [] [] w0 wr K8 M2:=by
      rw [←hM2];exact ⟨[],.slice none 0 0,.slice none 0 0,[],rfl,(fun p hp=>by cases hp),RL.z,H6⟩
     clear H H1 H2 H3 H4 H5 H6
     go_wp2_with fail
     go_loopw [64] (fun i wr=>∃(k:Nat) (K7:World),k≤n∧i= .int .i64 k∧Sat K7 K∧BK K7 defs n (.slice A n c) (.slice Ag 13 cg) (.slice Ad 4 cd) b36 b37∧Bst g33 b28 b29 b30 b31 ((defs.take k).foldl step1 ([],[])).1 ((defs.take k).foldl step1 ([],[])).2 w0 wr K7 M2) (fun i _=>n - (intOf i).toNat)
     case atStart=>exact ⟨0,K8,Qak _,rfl,hK,hB,hS⟩
     case round=>
      clear hS hB hK;obtain ⟨k,K7,hk,rfl,hK,hB,hS⟩:=hrel;by_cases hlt:k<n
      ·have hkI:(k:Int)<(n:Int):=by omega
       as_aux_lemma=>
        obtain ⟨x,hx⟩: ∃x,defs[k]?=some x:=⟨_,Qad (by rw [HN.out];exact hlt)⟩;obtain ⟨ad,xs,had,hxd,hxl,hatK⟩:=y2r (m:=17) (f:=defL) y0u hB.d hx (by omega);subst had;obtain ⟨A6,c6,A7,c7,A8,c8,A9,c9,A10,c10,A11,c11,A12,c12,A14,c14,hxs,-,-,-,-,-,-,-,-⟩:=y0c hxd;have hxN:=y3h hx
        have hxm:defN x≤9000000:=by omega
        have hpl:=q0n defs k (by omega);have HE:=hide (y5k hx step1 ([],[]));clear hx;obtain ⟨⟨p1,p2⟩,hp⟩: ∃p,(defs.take k).foldl step1 ([],[])=p:=⟨_,rfl⟩;rw [hp] at HE hS hpl;clear hp;obtain ⟨TS,VT,VD,xD,hts,hok,hxD,H⟩:=Bst.to [] hS;clear hS;obtain ⟨kd,hkd⟩: ∃kd,x.kind=kd:=⟨_,rfl⟩;obtain ⟨ex,hex⟩: ∃ex,x.ext=ex:=⟨_,rfl⟩;rw [hkd,hex] at hxs;have HKD:=hide hkd;have HEX:=hide hex;clear hkd hex;subst hxs;have hqr:=y12 givenDirsD x.name;have hqg:=y12 givenT x.name;replace H:Hp _ _ _ (.box _ [_,_,_,_,_,_,_,_,_,_,_,_,_,_,_,_,_,_,_,_,_,_,_] _::_::_::_::_::(y1i TS++M2)):=H
        try dsimp only at H
        go_upto_region 18 with (first
         |((with_reducible show wpList _ _ _ (_::_) _ _);refine y0d (by rfl) 43 (.tmp 66) (by rfl) (ad.add (k*17)) (by simp [Act.eval,Act.put]) _ _ (At.sat hatK H.sat) Tryz.underlying43 rfl hsz ?_)
         |((with_reducible refine isL ?_);first
          |(refine al z43 13 H ?_;clear H;intro w19 g13 H)
          |(refine sA 13 0 H ?_;clear H;intro w21 H)))
        clear hatK;by_cases h8:kd=8
        ·subst h8
         cases hi:y1k givenDirsD x.name with
         |some i=>
          rw [hi] at hqr;have HST:=hide (q0m (p:=p1) (q:=p2) HKD.out (z4q hi));have:=H.c 0 0;have:=H.c 0 5
          go_wp2_with (first
           |(refine y1a (by rfl) (.tmp 73) (.tmp 75) 87 true (by rfl) Tryz.underlying87 (y08 Tryz.underlying9) (.int .i64 0) y0j b37 (nmap (y0a givenDirsD)) (H.kmap hB.p) (by first|rfl|simp [Act.eval,Act.put]) (x.name) (by first|rfl|simp [Act.eval,Act.put]) (.tuple #[.int .i64 (i:Int),.bool true]) (by rw [hqr];rfl) ?_))
          replace H:=H.sub (Qai _ (Qaa _ (Qaa _ (Qaa _ (Qaa _ (Qaa _ (Qam _)))))));go_roundw
          case rel=>exact ⟨k+1,K7,by omega,by go_num,hK,hB,by rw [HE.out,HST.out];exact Bst.of [] hts hok hxD H⟩
          case measure=>simp [intOf];omega
         |none=>
          rw [hi] at hqr;have HST:=hide (q6l (p:=p1) (q:=p2) HKD.out (y6f hi));have:=H.c 0 0;have:=H.c 0 5
          go_upto_region 21 with (first
           |(refine y1a (by rfl) (.tmp 73) (.tmp 75) 87 true (by rfl) Tryz.underlying87 (y08 Tryz.underlying9) (.int .i64 0) y0j b37 (nmap (y0a givenDirsD)) (H.kmap hB.p) (by first|rfl|simp [Act.eval,Act.put]) (x.name) (by first|rfl|simp [Act.eval,Act.put]) (.tuple #[.int .i64 0,.bool false]) (by rw [hqr];rfl) ?_))
          go_wp2_with (first
           |(go_at_call 58;refine (z9r [.box g13 [.int .i64 8,.bool ex,.bool x.note.has,.bool x.note.block,.string (str x.note.text),.string (str x.name),.slice A6 x.ifaces.length c6,.slice A7 x.dirs.length c7,.slice A8 x.fields.length c8,.slice A9 x.inputs.length c9,.slice A10 x.members.length c10,.slice A11 x.values.length c11,.slice A12 x.roots.length c12,.bool x.rep,.slice A14 x.places.length c14,.int .i64 x.line,.int .i64 x.col] 43] x _ g33 b28 b29 b30 b31 p1 p2 hts hok hxD H hxd hxm (by omega)).mono ?_;clear H;rintro e w9 ⟨K9,TS9,VT9,VD9,xD9,rfl,hle9,hts9,hok9,hxD9,H⟩)
           |((with_reducible refine isL ?_);first
            |(refine ld 13 0 17 Tryz.underlying43 H ?_)))
          replace H:=Hp.tail H;go_roundw
          case rel=>exact ⟨k+1,K9,by omega,by go_num,hle9.trans hK,hB.sat hle9,by rw [HE.out,HST.out];exact Bst.of [] hts9 hok9 hxD9 H⟩
          case measure=>simp [intOf];omega
        ·have HN8: ¬x.kind=8:=by rw [HKD.out];exact h8
         have HN8:=hide HN8;by_cases hty:2≤kd∧kd≤7∧ex=false
         ·obtain ⟨h2,h7,hx0⟩:=hty;subst hx0;have HTY:IsTy x:=⟨by rw [HKD.out];exact h2,by rw [HKD.out];exact h7,HEX.out⟩;have HTY:=hide HTY
          cases hi:y1k givenT x.name with
          |some i=>
           rw [hi] at hqg;have HST:=hide (q3u (p:=p1) (q:=p2) HTY.out (z4q hi));have cfK:(w21).cell? ⟨g13,0,none⟩=some (.int .i64 kd):=H.cell (i:=0) rfl rfl
           go_upto_region 22 with (fail)
           have:=H.c 0 0;have:=H.c 0 1;have:=H.c 0 5
           go_wp2_with (first
            |(refine y1a (by rfl) (.tmp 99) (.tmp 101) 87 true (by rfl) Tryz.underlying87 (y08 Tryz.underlying9) (.int .i64 0) y0j b36 (nmap (y0a givenT)) (H.kmap hB.o) (by first|rfl|simp [Act.eval,Act.put]) (x.name) (by first|rfl|simp [Act.eval,Act.put]) (.tuple #[.int .i64 (i:Int),.bool true]) (by rw [hqg];rfl) ?_))
           replace H:=H.sub (Qai _ (Qaa _ (Qaa _ (Qaa _ (Qaa _ (Qaa _ (Qam _)))))));go_roundw
           case rel=>exact ⟨k+1,K7,by omega,by go_num,hK,hB,by rw [HE.out,HST.out];exact Bst.of [] hts hok hxD H⟩
           case measure=>simp [intOf];omega
          |none=>
           rw [hi] at hqg;have HST:=hide (q3v (p:=p1) (q:=p2) HTY.out (y6f hi));have cfK:(w21).cell? ⟨g13,0,none⟩=some (.int .i64 kd):=H.cell (i:=0) rfl rfl
           go_upto_region 22 with (fail)
           have:=H.c 0 0;have:=H.c 0 1;have:=H.c 0 5
           go_upto_region 25 with (first
            |(refine y1a (by rfl) (.tmp 99) (.tmp 101) 87 true (by rfl) Tryz.underlying87 (y08 Tryz.underlying9) (.int .i64 0) y0j b36 (nmap (y0a givenT)) (H.kmap hB.o) (by first|rfl|simp [Act.eval,Act.put]) (x.name) (by first|rfl|simp [Act.eval,Act.put]) (.tuple #[.int .i64 0,.bool false]) (by rw [hqg];rfl) ?_))
           go_wp2_with (first
            |(go_at_call 59;refine (z58 [.box g13 [.int .i64 kd,.bool false,.bool x.note.has,.bool x.note.block,.string (str x.note.text),.string (str x.name),.slice A6 x.ifaces.length c6,.slice A7 x.dirs.length c7,.slice A8 x.fields.length c8,.slice A9 x.inputs.length c9,.slice A10 x.members.length c10,.slice A11 x.values.length c11,.slice A12 x.roots.length c12,.bool x.rep,.slice A14 x.places.length c14,.int .i64 x.line,.int .i64 x.col] 43] x _ g33 b28 b29 b30 b31 p1 p2 hts hok hxD H hxd hxm (by omega)).mono ?_;clear H;rintro e w9 ⟨K9,TS9,VT9,VD9,xD9,rfl,hle9,hts9,hok9,hxD9,H⟩)
            |((with_reducible refine isL ?_);first
             |(refine ld 13 0 17 Tryz.underlying43 H ?_)))
           replace H:=Hp.tail H;go_roundw
           case rel=>exact ⟨k+1,K9,by omega,by go_num,hle9.trans hK,hB.sat hle9,by rw [HE.out,HST.out];exact Bst.of [] hts9 hok9 hxD9 H⟩
           case measure=>simp [intOf];omega
         ·have HNT: ¬IsTy x:=fun h=>hty ⟨by rw [←HKD.out];exact h.1,by rw [←HKD.out];exact h.2.1,by rw [←HEX.out];exact h.2.2⟩;have HST:=hide (q3t (p:=p1) (q:=p2) HN8.out HNT);clear HNT;have cfK:(w21).cell? ⟨g13,0,none⟩=some (.int .i64 kd):=H.cell (i:=0) rfl rfl
          go_upto_region 22 with (fail)
          by_cases h2:2≤kd
          ·by_cases h7:kd≤7
           ·have hx1:ex=true:=by
             cases ex with
             |true=>rfl
             |false=>exact absurd ⟨h2,h7,rfl⟩ hty
            clear hty;subst hx1;have:=H.c 0 0;have:=H.c 0 1
            go_wp2_with fail
            replace H:=H.sub (Qai _ (Qaa _ (Qaa _ (Qaa _ (Qaa _ (Qaa _ (Qam _)))))));go_roundw
            case rel=>exact ⟨k+1,K7,by omega,by go_num,hK,hB,by rw [HE.out,HST.out];exact Bst.of [] hts hok hxD H⟩
            case measure=>simp [intOf];omega
           ·clear hty;have:=H.c 0 0;have:=H.c 0 1
            go_wp2_with fail
            replace H:=H.sub (Qai _ (Qaa _ (Qaa _ (Qaa _ (Qaa _ (Qaa _ (Qam _)))))));go_roundw
            case rel=>exact ⟨k+1,K7,by omega,by go_num,hK,hB,by rw [HE.out,HST.out];exact Bst.of [] hts hok hxD H⟩
            case measure=>simp [intOf];omega
          ·clear hty;have:=H.c 0 0;have:=H.c 0 1
           go_wp2_with fail
           replace H:=H.sub (Qai _ (Qaa _ (Qaa _ (Qaa _ (Qaa _ (Qaa _ (Qam _)))))));go_roundw
           case rel=>exact ⟨k+1,K7,by omega,by go_num,hK,hB,by rw [HE.out,HST.out];exact Bst.of [] hts hok hxD H⟩
           case measure=>simp [intOf];omega
      ·obtain rfl:n=k:=by omega
       have htk:defs.take n=defs:=by rw [←HN.out];exact List.take_length
       rw [htk] at hS;clear htk;have hb12:=q87 defs;have hgN:=z4p
       go_wp2_with fail
       go_loopw [113] (fun i wr=>∃(k:Nat) (K7:World),k≤13∧i= .int .i64 k∧Sat K7 K∧BK K7 defs n (.slice A n c) (.slice Ag 13 cg) (.slice Ad 4 cd) b36 b37∧Bst g33 b28 b29 b30 b31 ((givenT.take k).foldl addD (bare defs).1) (bare defs).2 w0 wr K7 M2) (fun i _=>13 - (intOf i).toNat)
       case atStart=>exact ⟨0,K7,Qak _,rfl,hK,hB,hS⟩
       case round=>
        clear hS hB hK;obtain ⟨k,K7,hk,rfl,hK,hB,hS⟩:=hrel;by_cases hlt:k<13
        ·have hkI:(k:Int)<(13:Int):=by omega
         as_aux_lemma=>
          obtain ⟨x,hx⟩: ∃x,givenT[k]?=some x:=⟨_,Qad (by rw [hgl.out];exact hlt)⟩;obtain ⟨ad,xs,had,hxd,hxl,hatK⟩:=y2r (m:=17) (f:=defL) y0u hB.g hx (by omega);subst had;obtain ⟨A6,c6,A7,c7,A8,c8,A9,c9,A10,c10,A11,c11,A12,c12,A14,c14,hxs,-,-,-,-,-,-,-,-⟩:=y0c hxd;have hxN:=y3h hx
          have hxm:defN x≤9000000:=by omega
          have hpl:=z9w givenT (bare defs).1 k;have HE:=hide (y5k hx addD (bare defs).1);clear hx;obtain ⟨p1,hp⟩: ∃p,(givenT.take k).foldl addD (bare defs).1=p:=⟨_,rfl⟩;rw [hp] at HE hS hpl;clear hp;obtain ⟨TS,VT,VD,xD,hts,hok,hxD,H⟩:=Bst.to [] hS;clear hS;subst hxs;replace H:Hp _ _ _ (.box _ [_,_,_,_,_,_,_,_,_,_,_,_,_,_,_,_,_,_,_,_,_,_,_] _::_::_::_::_::(y1i TS++M2)):=H
          try dsimp only at H
          go_upto_region 30 with (first
           |((with_reducible show wpList _ _ _ (_::_) _ _);refine y0d (by rfl) 43 (.tmp 115) (by rfl) (ad.add (k*17)) (by simp [Act.eval,Act.put]) _ _ (At.sat hatK H.sat) Tryz.underlying43 rfl hsz ?_)
           |((with_reducible refine isL ?_);first
            |(refine al z43 19 H ?_;clear H;intro w24 g19 H)
            |(refine sA 19 0 H ?_;clear H;intro w26 H)))
          clear hatK
          go_wp2_with (first
           |(go_at_call 59;refine (z58 [.box g19 [.int .i64 x.kind,.bool x.ext,.bool x.note.has,.bool x.note.block,.string (str x.note.text),.string (str x.name),.slice A6 x.ifaces.length c6,.slice A7 x.dirs.length c7,.slice A8 x.fields.length c8,.slice A9 x.inputs.length c9,.slice A10 x.members.length c10,.slice A11 x.values.length c11,.slice A12 x.roots.length c12,.bool x.rep,.slice A14 x.places.length c14,.int .i64 x.line,.int .i64 x.col] 43] x _ g33 b28 b29 b30 b31 p1 (bare defs).2 hts hok hxD H hxd hxm (by omega)).mono ?_;clear H;rintro e w9 ⟨K9,TS9,VT9,VD9,xD9,rfl,hle9,hts9,hok9,hxD9,H⟩)
           |((with_reducible refine isL ?_);first
            |(refine ld 19 0 17 Tryz.underlying43 H ?_)))
          replace H:=Hp.tail H;go_roundw
          case rel=>exact ⟨k+1,K9,by omega,by go_num,hle9.trans hK,hB.sat hle9,by rw [HE.out];exact Bst.of [] hts9 hok9 hxD9 H⟩
          case measure=>simp [intOf];omega
        ·have hk13:k=13:=by omega
         have hkI: ¬(k:Int)<13:=by omega
         rw [hk13] at hS;clear hk13 hlt;have htk:givenT.take 13=givenT:=Qaj (by rw [hgl.out];exact Qab _);rw [htk] at hS;clear htk
         go_wp2_with fail
         go_loopw [123] (fun i wr=>∃(k:Nat) (K7:World),k≤4∧i= .int .i64 k∧Sat K7 K∧BK K7 defs n (.slice A n c) (.slice Ag 13 cg) (.slice Ad 4 cd) b36 b37∧Bst g33 b28 b29 b30 b31 (y32 defs) ((givenDirsD.take k).foldl addD (bare defs).2) w0 wr K7 M2) (fun i _=>4 - (intOf i).toNat)
         case atStart=>exact ⟨0,K7,Qak _,rfl,hK,hB,hS⟩
         case round=>
          clear hS hB hK;obtain ⟨k,K7,hk,rfl,hK,hB,hS⟩:=hrel;by_cases hlt:k<4
          ·have hkI:(k:Int)<(4:Int):=by omega
           as_aux_lemma=>
            obtain ⟨x,hx⟩: ∃x,givenDirsD[k]?=some x:=⟨_,Qad (by rw [hrl.out];exact hlt)⟩;obtain ⟨ad,xs,had,hxd,hxl,hatK⟩:=y2r (m:=17) (f:=defL) y0u hB.r hx (by omega);subst had;obtain ⟨A6,c6,A7,c7,A8,c8,A9,c9,A10,c10,A11,c11,A12,c12,A14,c14,hxs,-,-,-,-,-,-,-,-⟩:=y0c hxd;have hxN:=y3h hx
            have hxm:defN x≤9000000:=by omega
            have hpl:=z9w givenDirsD (bare defs).2 k;have HE:=hide (y5k hx addD (bare defs).2);clear hx;obtain ⟨p1,hp⟩: ∃p,(givenDirsD.take k).foldl addD (bare defs).2=p:=⟨_,rfl⟩;rw [hp] at HE hS hpl;clear hp;obtain ⟨TS,VT,VD,xD,hts,hok,hxD,H⟩:=Bst.to [] hS;clear hS;subst hxs;replace H:Hp _ _ _ (.box _ [_,_,_,_,_,_,_,_,_,_,_,_,_,_,_,_,_,_,_,_,_,_,_] _::_::_::_::_::(y1i TS++M2)):=H
            try dsimp only at H
            go_upto_region 35 with (first
             |((with_reducible show wpList _ _ _ (_::_) _ _);refine y0d (by rfl) 43 (.tmp 125) (by rfl) (ad.add (k*17)) (by simp [Act.eval,Act.put]) _ _ (At.sat hatK H.sat) Tryz.underlying43 rfl hsz ?_)
             |((with_reducible refine isL ?_);first
              |(refine al z43 21 H ?_;clear H;intro w28 g21 H)
              |(refine sA 21 0 H ?_;clear H;intro w30 H)))
            clear hatK
            go_wp2_with (first
             |(go_at_call 58;refine (z9r [.box g21 [.int .i64 x.kind,.bool x.ext,.bool x.note.has,.bool x.note.block,.string (str x.note.text),.string (str x.name),.slice A6 x.ifaces.length c6,.slice A7 x.dirs.length c7,.slice A8 x.fields.length c8,.slice A9 x.inputs.length c9,.slice A10 x.members.length c10,.slice A11 x.values.length c11,.slice A12 x.roots.length c12,.bool x.rep,.slice A14 x.places.length c14,.int .i64 x.line,.int .i64 x.col] 43] x _ g33 b28 b29 b30 b31 (y32 defs) p1 hts hok hxD H hxd hxm (by omega)).mono ?_;clear H;rintro e w9 ⟨K9,TS9,VT9,VD9,xD9,rfl,hle9,hts9,hok9,hxD9,H⟩)
             |((with_reducible refine isL ?_);first
              |(refine ld 21 0 17 Tryz.underlying43 H ?_)))
            replace H:=Hp.tail H;go_roundw
            case rel=>exact ⟨k+1,K9,by omega,by go_num,hle9.trans hK,hB.sat hle9,by rw [HE.out];exact Bst.of [] hts9 hok9 hxD9 H⟩
            case measure=>simp [intOf];omega
          ·have hk4:k=4:=by omega
           have hkJ: ¬(k:Int)<4:=by omega
           rw [hk4] at hS;clear hk4 hlt;have htk:givenDirsD.take 4=givenDirsD:=Qaj (by rw [hrl.out];exact Qab _);rw [htk] at hS;clear htk;have hds:givenDirsD.foldl addD (bare defs).2=y33 defs:=rfl;rw [hds] at hS;clear hds
           go_wp2_with fail
           go_loopw [133] (fun i wr=>∃(k:Nat) (K7:World),k≤n∧i= .int .i64 k∧Sat K7 K∧BK K7 defs n (.slice A n c) (.slice Ag 13 cg) (.slice Ad 4 cd) b36 b37∧Bst g33 b28 b29 b30 b31 ((defs.take k).foldl ty.step2 (y32 defs)) (y33 defs) w0 wr K7 M2) (fun i _=>n - (intOf i).toNat)
           case atStart=>exact ⟨0,K7,Qak _,rfl,hK,hB,by rw [List.take_zero,List.foldl_nil];exact hS⟩
           case round=>
            clear hS hB hK;obtain ⟨k,K7,hk,rfl,hK,hB,hS⟩:=hrel;by_cases hlt:k<n
            ·have hkI:(k:Int)<(n:Int):=by omega
             obtain ⟨x,hx⟩: ∃x,defs[k]?=some x:=⟨_,Qad (by rw [HN.out];exact hlt)⟩;obtain ⟨ad,xs,had,hxd,hxl,hatK⟩:=y2r (m:=17) (f:=defL) y0u hB.d hx (by omega);subst had;obtain ⟨A6,c6,A7,c7,A8,c8,A9,c9,A10,c10,A11,c11,A12,c12,A14,c14,hxs,-,-,-,-,-,-,-,-⟩:=y0c hxd;have HST2:=hide (fun he=>q3y (l:=defs) (k:=k) (x:=x) hx he);have HE:=hide (y5k hx ty.step2 (y32 defs));clear hx;obtain ⟨p1,hp⟩: ∃p,(defs.take k).foldl ty.step2 (y32 defs)=p:=⟨_,rfl⟩;rw [hp] at HE hS HST2;clear hp;obtain ⟨TS,VT,VD,xD,hts,hok,hxD,H⟩:=Bst.to [] hS;clear hS;obtain ⟨kd,hkd⟩: ∃kd,x.kind=kd:=⟨_,rfl⟩;obtain ⟨ex,hex⟩: ∃ex,x.ext=ex:=⟨_,rfl⟩;rw [hkd,hex] at hxs;have HKD:=hide hkd;have HEX:=hide hex;clear hkd hex;subst hxs;have hq:=y12 p1 x.name;have hqg:=y12 givenT x.name
             cases hi:y1k p1 x.name with
             |none=>
              as_aux_lemma=>
               rw [hi] at hq;replace hq:y0x (nmap (y0a p1)) x.name=none:=hq;have HST:=hide (x6k hi);clear hi;replace H:Hp _ _ _ (.box _ [_,_,_,_,_,_,_,_,_,_,_,_,_,_,_,_,_,_,_,_,_,_,_] _::_::_::_::_::(y1i TS++M2)):=H
               try dsimp only at H
               go_upto_region 40 with (first
                |((with_reducible show wpList _ _ _ (_::_) _ _);refine y0d (by rfl) 43 (.tmp 135) (by rfl) (ad.add (k*17)) (by simp [Act.eval,Act.put]) _ _ (At.sat hatK H.sat) Tryz.underlying43 rfl hsz ?_)
                |((with_reducible refine isL ?_);first
                 |(refine al z43 23 H ?_;clear H;intro w32 g23 H)
                 |(refine sA 23 0 H ?_;clear H;intro w34 H)))
               clear hatK;have:=H.c 1 18;have:=H.c 0 5;have hrun:=fun k=>y0p (P:=Tryz.prog) (w:=(w34).drewN k) (t:=87) (kt:=9) (et:=3) (l:=nmap (y0a p1)) (b:=b28) Tryz.underlying87 (y08 Tryz.underlying9) (.int .i64 0) (y0j _) ((H.drew k).mapAt (i:=2) rfl) x.name true;simp only [hq,Option.getD_none,Option.isSome_none,Option.getD_some,Option.isSome_some,if_true] at hrun
               go_quiet (fail)
               replace H:=H.drew nq;obtain ⟨w35,hq36⟩: ∃x,(w34).drewN nq=x:=⟨_,rfl⟩;rw [hq36] at H ⊢;clear hq36;replace H:Hp _ _ _ (_::_::_::_::_::_::(y1i TS++M2)):=H;clear hrun
               go_upto_region 41 with (fail)
               go_quiet (fail)
               replace H:=H.drew nq;obtain ⟨w37,hq38⟩: ∃x,(w35).drewN nq=x:=⟨_,rfl⟩;rw [hq38] at H ⊢;clear hq38;replace H:Hp _ _ _ (_::_::_::_::_::_::(y1i TS++M2)):=H
               go_wp2_with fail
               replace H:=H.sub (Qai _ (Qaa _ (Qaa _ (Qaa _ (Qaa _ (Qaa _ (Qam _)))))));go_roundw
               case rel=>exact ⟨k+1,K7,by omega,by go_num,hK,hB,by rw [HE.out,HST.out];exact Bst.of [] hts hok hxD H⟩
               case measure=>simp [intOf];omega
             |some i=>
              rw [hi] at hq;replace hq:y0x (nmap (y0a p1)) x.name=some (.int .i64 (i:Int)):=hq;obtain ⟨e,he,-⟩:=y1p hi;have hil:=y4x hi
              have hiI:(i:Int)<(p1.length:Int):=by omega
              have HNO:=fun hc=>q3w (d:=x) hi he hc;have HYES:=fun hc=>q0o (d:=x) hi he hc;have HNO:=hide HNO;have HYES:=hide HYES;clear hi;obtain ⟨TA,V,TB,hTS,hTA⟩:=q3x (hts▸he);have HE2:=hide he;have HTA:=hide hTA;have HTS:=hide hts;clear he hts;subst hTS;obtain ⟨gr,cr,hVT,hc1,hc2,hvl⟩:=H.rowAt (i:=2) rfl (by omega);have hvl:=hide hvl;subst hVT;replace H:Hp _ _ _ (.box _ [_,_,_,_,_,_,_,_,_,_,_,_,_,_,_,_,_,_,_,_,_,_,_] _::_::_::_::_::(y1i (TA++(e,V)::TB)++M2)):=H
              try dsimp only at H
              go_upto_region 40 with (first
               |((with_reducible show wpList _ _ _ (_::_) _ _);refine y0d (by rfl) 43 (.tmp 135) (by rfl) (ad.add (k*17)) (by simp [Act.eval,Act.put]) _ _ (At.sat hatK H.sat) Tryz.underlying43 rfl hsz ?_)
               |((with_reducible refine isL ?_);first
                |(refine al z43 23 H ?_;clear H;intro w39 g23 H)
                |(refine sA 23 0 H ?_;clear H;intro w41 H)))
              clear hatK;have:=H.c 1 18;have:=H.c 0 5;have hrun:=fun k=>y0p (P:=Tryz.prog) (w:=(w41).drewN k) (t:=87) (kt:=9) (et:=3) (l:=nmap (y0a p1)) (b:=b28) Tryz.underlying87 (y08 Tryz.underlying9) (.int .i64 0) (y0j _) ((H.drew k).mapAt (i:=2) rfl) x.name true;simp only [hq,Option.getD_none,Option.isSome_none,Option.getD_some,Option.isSome_some,if_true] at hrun
              go_quiet (fail)
              replace H:=H.drew nq;obtain ⟨w42,hq43⟩: ∃x,(w41).drewN nq=x:=⟨_,rfl⟩;rw [hq43] at H ⊢;clear hq43;replace H:Hp _ _ _ (_::_::_::_::_::_::(y1i (TA++(e,V)::TB)++M2)):=H;clear hrun
              go_upto_region 41 with (fail)
              cases ex with
              |false=>
               as_aux_lemma=>
                have HST:=hide (HNO.out (fun h=>by rw [HEX.out] at h;exact Bool.false_ne_true h.1));have:=H.c 0 1
                go_quiet (fail)
                replace H:=H.drew nq;obtain ⟨w44,hq45⟩: ∃x,(w42).drewN nq=x:=⟨_,rfl⟩;rw [hq45] at H ⊢;clear hq45;replace H:Hp _ _ _ (_::_::_::_::_::_::(y1i (TA++(e,V)::TB)++M2)):=H
                go_wp2_with fail
                replace H:=H.sub (Qai _ (Qaa _ (Qaa _ (Qaa _ (Qaa _ (Qaa _ (Qam _)))))));go_roundw
                case rel=>exact ⟨k+1,K7,by omega,by go_num,hK,hB,by rw [HE.out,HST.out];exact Bst.of [] HTS.out hok hxD H⟩
                case measure=>simp [intOf];omega
              |true=>
               have hce:=(x3u H (i:=3) rfl HTA.out).1 _ rfl;rw [y3l] at hce;by_cases hkk:kd=e.kind
               ·rw [←hkk] at hce;by_cases h1:kd=1
                ·have HST:=hide (HNO.out (fun h=>h.2.2.1 (by rw [HKD.out];exact h1)))
                 as_aux_lemma=>
                  have hb1:(kd==1)=true:=by simp [h1]
                  have hb2:(kd !=1)=false:=by simp [h1]
                  clear h1 hkk;have:=H.c 0 1;have:=H.c 0 0;have:=H.c 1 17
                  go_quiet (fail)
                  replace H:=H.drew nq;obtain ⟨w46,hq47⟩: ∃x,(w42).drewN nq=x:=⟨_,rfl⟩;rw [hq47] at H ⊢;clear hq47;replace H:Hp _ _ _ (_::_::_::_::_::_::(y1i (TA++(e,V)::TB)++M2)):=H
                  go_wp2_with fail
                  replace H:=H.sub (Qai _ (Qaa _ (Qaa _ (Qaa _ (Qaa _ (Qaa _ (Qam _)))))));go_roundw
                  case rel=>exact ⟨k+1,K7,by omega,by go_num,hK,hB,by rw [HE.out,HST.out];exact Bst.of [] HTS.out hok hxD H⟩
                  case measure=>simp [intOf];omega
                ·have hb1:(kd==1)=false:=by simp [h1]
                 have hb2:(kd !=1)=true:=by simp [h1]
                 cases hj:y1k givenT x.name with
                 |some j=>
                  as_aux_lemma=>
                   rw [hj] at hqg;have HST:=hide (HNO.out (fun h=>h.2.2.2 (z4q hj)));clear h1 hkk hj;have:=H.c 0 1;have:=H.c 0 0;have:=H.c 1 17
                   go_quiet (fail)
                   replace H:=H.drew nq;obtain ⟨w48,hq49⟩: ∃x,(w42).drewN nq=x:=⟨_,rfl⟩;rw [hq49] at H ⊢;clear hq49;replace H:Hp _ _ _ (_::_::_::_::_::_::(y1i (TA++(e,V)::TB)++M2)):=H
                   go_upto_region 42 with (fail)
                   have:=H.c 0 5
                   go_wp2_with (first
                    |(refine y1a (by rfl) (.tmp 171) (.tmp 173) 87 true (by rfl) Tryz.underlying87 (y08 Tryz.underlying9) (.int .i64 0) y0j b36 (nmap (y0a givenT)) (H.kmap hB.o) (by first|rfl|simp [Act.eval,Act.put]) (x.name) (by first|rfl|simp [Act.eval,Act.put]) (.tuple #[.int .i64 (j:Int),.bool true]) (by rw [hqg];rfl) ?_))
                   replace H:=H.sub (Qai _ (Qaa _ (Qaa _ (Qaa _ (Qaa _ (Qaa _ (Qam _)))))));go_roundw
                   case rel=>exact ⟨k+1,K7,by omega,by go_num,hK,hB,by rw [HE.out,HST.out];exact Bst.of [] HTS.out hok hxD H⟩
                   case measure=>simp [intOf];omega
                 |none=>
                  rw [hj] at hqg;have HST:=hide (HYES.out ⟨HEX.out,by rw [HKD.out];exact hkk,by rw [HKD.out];exact h1,y6f hj⟩);have hmN:=HST2.out HEX.out;have hgN:=z4p.1;have heN:=y3h HE2.out
                  have hmN:defN e+defN x≤9000000:=by omega
                  clear h1 hkk hj hgN heN;have:=H.c 0 1;have:=H.c 0 0;have:=H.c 1 17
                  go_quiet (fail)
                  replace H:=H.drew nq;obtain ⟨w50,hq51⟩: ∃x,(w42).drewN nq=x:=⟨_,rfl⟩;rw [hq51] at H ⊢;clear hq51;replace H:Hp _ _ _ (_::_::_::_::_::_::(y1i (TA++(e,V)::TB)++M2)):=H
                  go_upto_region 42 with (fail)
                  have:=H.c 0 5
                  go_upto_region 44 with (first
                   |(refine y1a (by rfl) (.tmp 171) (.tmp 173) 87 true (by rfl) Tryz.underlying87 (y08 Tryz.underlying9) (.int .i64 0) y0j b36 (nmap (y0a givenT)) (H.kmap hB.o) (by first|rfl|simp [Act.eval,Act.put]) (x.name) (by first|rfl|simp [Act.eval,Act.put]) (.tuple #[.int .i64 0,.bool false]) (by rw [hqg];rfl) ?_))
                  refine held.begin_ (fun w'=>w'.cell? ⟨g33,17,none⟩=some (.slice (some ⟨gr,0,none⟩) p1.length cr)∧w'.cell? ⟨g23,0,none⟩=some (.int .i64 kd)∧w'.cell? ⟨g23,1,none⟩=some (.bool true)∧w'.cell? ⟨g23,2,none⟩=some (.bool x.note.has)∧w'.cell? ⟨g23,3,none⟩=some (.bool x.note.block)∧w'.cell? ⟨g23,4,none⟩=some (.string (str x.note.text))∧w'.cell? ⟨g23,5,none⟩=some (.string (str x.name))∧w'.cell? ⟨g23,6,none⟩=some (.slice A6 x.ifaces.length c6)∧w'.cell? ⟨g23,7,none⟩=some (.slice A7 x.dirs.length c7)∧w'.cell? ⟨g23,8,none⟩=some (.slice A8 x.fields.length c8)∧w'.cell? ⟨g23,9,none⟩=some (.slice A9 x.inputs.length c9)∧w'.cell? ⟨g23,10,none⟩=some (.slice A10 x.members.length c10)∧w'.cell? ⟨g23,11,none⟩=some (.slice A11 x.values.length c11)∧w'.cell? ⟨g23,12,none⟩=some (.slice A12 x.roots.length c12)∧w'.cell? ⟨g23,13,none⟩=some (.bool x.rep)∧w'.cell? ⟨g23,14,none⟩=some (.slice A14 x.places.length c14)∧w'.cell? ⟨g23,15,none⟩=some (.int .i64 x.line)∧w'.cell? ⟨g23,16,none⟩=some (.int .i64 x.col)∧w'.rangeAt gr (i*17) (DV.cells e V)) [15] (by kernel_rfl) ?_;replace H:=H.drew1;obtain ⟨w52,hq53⟩: ∃x,(w50).drew=x:=⟨_,rfl⟩;rw [hq53] at H ⊢;clear hq53;have hS54:w52.cell? ⟨g33,17,none⟩=some (.slice (some ⟨gr,0,none⟩) p1.length cr)∧w52.cell? ⟨g23,0,none⟩=some (.int .i64 kd)∧w52.cell? ⟨g23,1,none⟩=some (.bool true)∧w52.cell? ⟨g23,2,none⟩=some (.bool x.note.has)∧w52.cell? ⟨g23,3,none⟩=some (.bool x.note.block)∧w52.cell? ⟨g23,4,none⟩=some (.string (str x.note.text))∧w52.cell? ⟨g23,5,none⟩=some (.string (str x.name))∧w52.cell? ⟨g23,6,none⟩=some (.slice A6 x.ifaces.length c6)∧w52.cell? ⟨g23,7,none⟩=some (.slice A7 x.dirs.length c7)∧w52.cell? ⟨g23,8,none⟩=some (.slice A8 x.fields.length c8)∧w52.cell? ⟨g23,9,none⟩=some (.slice A9 x.inputs.length c9)∧w52.cell? ⟨g23,10,none⟩=some (.slice A10 x.members.length c10)∧w52.cell? ⟨g23,11,none⟩=some (.slice A11 x.values.length c11)∧w52.cell? ⟨g23,12,none⟩=some (.slice A12 x.roots.length c12)∧w52.cell? ⟨g23,13,none⟩=some (.bool x.rep)∧w52.cell? ⟨g23,14,none⟩=some (.slice A14 x.places.length c14)∧w52.cell? ⟨g23,15,none⟩=some (.int .i64 x.line)∧w52.cell? ⟨g23,16,none⟩=some (.int .i64 x.col)∧w52.rangeAt gr (i*17) (DV.cells e V):=⟨H.cell (i:=1) rfl rfl,H.cell (i:=0) rfl rfl,H.cell (i:=0) rfl rfl,H.cell (i:=0) rfl rfl,H.cell (i:=0) rfl rfl,H.cell (i:=0) rfl rfl,H.cell (i:=0) rfl rfl,H.cell (i:=0) rfl rfl,H.cell (i:=0) rfl rfl,H.cell (i:=0) rfl rfl,H.cell (i:=0) rfl rfl,H.cell (i:=0) rfl rfl,H.cell (i:=0) rfl rfl,H.cell (i:=0) rfl rfl,H.cell (i:=0) rfl rfl,H.cell (i:=0) rfl rfl,H.cell (i:=0) rfl rfl,H.cell (i:=0) rfl rfl,z9s H (i:=3) rfl HTA.out⟩;refine tk 0 hS54 ?_;refine tk 1 hS54 ?_;refine tk 2 hS54 ?_;refine tk 3 hS54 ?_;refine tk 4 hS54 ?_;refine tk 5 hS54 ?_;refine tk 6 hS54 ?_;refine tk 7 hS54 ?_;refine tk 8 hS54 ?_;refine tk 9 hS54 ?_;refine tk 10 hS54 ?_;refine held.take (i:=11) (v:=_) rfl (by kernel_rfl) (by kernel_rfl) (by kernel_rfl) (by kernel_rfl) (by kernel_rfl) (fun _ _ _ h=>h) (yieldsIf_load_mid (by rfl) 43 (.tmp 189) (by rfl) gr (i*17) (by first|rfl|simp [Act.eval,Act.put]) (DV.cells e V) _ (fun w h=>h.2.2.2.2.2.2.2.2.2.2.2.2.2.2.2.2.2.2) Tryz.underlying43 rfl hsz) hS54 ?_
                  try simp only [Act.put,List.getElem_toArray,List.getElem_cons_zero,List.getElem_cons_succ,List.setIfInBounds_toArray,List.set_cons_zero,List.set_cons_succ]
                  refine tk 12 hS54 ?_;refine held.step (i:=13) (by kernel_rfl) rfl (fun Kq hKq=>?_)
                  go_simp
                  refine (q0h [.box g23 [.int .i64 kd,.bool true,.bool x.note.has,.bool x.note.block,.string (str x.note.text),.string (str x.name),.slice A6 x.ifaces.length c6,.slice A7 x.dirs.length c7,.slice A8 x.fields.length c8,.slice A9 x.inputs.length c9,.slice A10 x.members.length c10,.slice A11 x.values.length c11,.slice A12 x.roots.length c12,.bool x.rep,.slice A14 x.places.length c14,.int .i64 x.line,.int .i64 x.col] 43,.box g33 [.int .i64 0,.bool false,.bool false,.bool false,.string ⟨#[]⟩,.string ⟨#[]⟩,.slice none 0 0,.slice none 0 0,.slice none 0 0,.slice none 0 0,.slice none 0 0,.slice none 0 0,.slice none 0 0,.bool false,.slice none 0 0,.int .i64 0,.int .i64 0,.slice (some ⟨gr,0,none⟩) p1.length cr,.map (some b28),VD,.map (some b29),.map (some b30),.map (some b31)] 91,.map b28 (y06 (nmap (y0a p1))),.row 43 17 (.slice (some ⟨gr,0,none⟩) p1.length cr) (p1.length) ((y1b (TA++(e,V)::TB))),.map b29 (y06 (nmap (y0a (y33 defs)))),.row 43 17 (VD) ((y33 defs).length) (xD)] e x V TA TB _ H hok hmN hxd).mono ?_;clear H;rintro e1 w9 ⟨K9,V9,rfl,hle9,H,hok9,hone9⟩;replace hK:=hle9.trans hK;replace H:Hp _ _ _ (_::_::_::_::_::_::(y1i (TA++(y0z e x,V9)::TB)++M2)):=H
                  try go_simp
                  have hS55:w9.cell? ⟨g33,17,none⟩=some (.slice (some ⟨gr,0,none⟩) p1.length cr)∧w9.cell? ⟨g23,0,none⟩=some (.int .i64 kd)∧w9.cell? ⟨g23,1,none⟩=some (.bool true)∧w9.cell? ⟨g23,2,none⟩=some (.bool x.note.has)∧w9.cell? ⟨g23,3,none⟩=some (.bool x.note.block)∧w9.cell? ⟨g23,4,none⟩=some (.string (str x.note.text))∧w9.cell? ⟨g23,5,none⟩=some (.string (str x.name))∧w9.cell? ⟨g23,6,none⟩=some (.slice A6 x.ifaces.length c6)∧w9.cell? ⟨g23,7,none⟩=some (.slice A7 x.dirs.length c7)∧w9.cell? ⟨g23,8,none⟩=some (.slice A8 x.fields.length c8)∧w9.cell? ⟨g23,9,none⟩=some (.slice A9 x.inputs.length c9)∧w9.cell? ⟨g23,10,none⟩=some (.slice A10 x.members.length c10)∧w9.cell? ⟨g23,11,none⟩=some (.slice A11 x.values.length c11)∧w9.cell? ⟨g23,12,none⟩=some (.slice A12 x.roots.length c12)∧w9.cell? ⟨g23,13,none⟩=some (.bool x.rep)∧w9.cell? ⟨g23,14,none⟩=some (.slice A14 x.places.length c14)∧w9.cell? ⟨g23,15,none⟩=some (.int .i64 x.line)∧w9.cell? ⟨g23,16,none⟩=some (.int .i64 x.col)∧w9.rangeAt gr (i*17) (DV.cells e V):=⟨H.cell (i:=1) rfl rfl,H.cell (i:=0) rfl rfl,H.cell (i:=0) rfl rfl,H.cell (i:=0) rfl rfl,H.cell (i:=0) rfl rfl,H.cell (i:=0) rfl rfl,H.cell (i:=0) rfl rfl,H.cell (i:=0) rfl rfl,H.cell (i:=0) rfl rfl,H.cell (i:=0) rfl rfl,H.cell (i:=0) rfl rfl,H.cell (i:=0) rfl rfl,H.cell (i:=0) rfl rfl,H.cell (i:=0) rfl rfl,H.cell (i:=0) rfl rfl,H.cell (i:=0) rfl rfl,H.cell (i:=0) rfl rfl,H.cell (i:=0) rfl rfl,z9s H (i:=3) rfl HTA.out⟩;refine hKq.out _ _ (fun _=>hS55) (fun _=>?_);clear hKq Kq;refine tk 14 hS55 ?_;refine held.step (i:=15) (by kernel_rfl) rfl (fun Kq hKq=>?_);refine z1k (by rfl) 43 (.tmp 193) (.tmp 192) (by rfl) gr (i*17) (by first|rfl|simp [Act.eval,Act.put]) (.agg (DV.cells (y0z e x) V9).toArray) (by first|rfl|simp [Act.eval,Act.put]) (DV.cells (y0z e x) V9) (by rfl) (hone9) (hsz) H 3 43 17 (p1.length) cr ((y1b (TA++(e,V)::TB))) (y1b (TA++(y0z e x,V9)::TB)) (by rfl) (by rw [hvl.out];show i*17+17≤p1.length*17;omega) (q6k HTA.out) ?_;clear H;intro w56 H;refine hKq.out _ _ (fun h=>absurd (Qax.2 rfl) h) (fun _=>?_);clear hKq Kq;refine held.done (by kernel_rfl) ?_ _;simp only [Act.put,List.getElem_toArray,List.getElem_cons_zero,List.getElem_cons_succ,List.setIfInBounds_toArray,List.set_cons_zero,List.set_cons_succ];replace H:Hp _ _ _ (_::_::_::_::_::_::(y1i (TA++(y0z e x,V9)::TB)++M2)):=H
                  go_upto_region 45 with (fail)
                  replace H:=H.sub (Qai _ (Qaa _ (Qaa _ (Qaa _ (Qaa _ (Qaa _ (Qam _)))))))
                  have HTS9:p1.set i (y0z e x)=(TA++(y0z e x,V9)::TB).map (·.1):=by rw [HTS.out];exact q8h HTA.out
                  have H9:Hp w0 w56 K9 ([]++(z1o g33 b28 b29 b30 b31 (p1.set i (y0z e x)) (y33 defs) (.slice (some ⟨gr,0,none⟩) p1.length cr) VD (TA++(y0z e x,V9)::TB) xD++(y1i (TA++(y0z e x,V9)::TB)++M2))):=by
                   unfold z1o;rw [List.length_set,z51 (e':=y0z e x) HE2.out rfl];exact H
                  go_wp2_with fail
                  go_roundw
                  case rel=>exact ⟨k+1,K9,by omega,by go_num,hK,hB.sat hle9,by rw [HE.out,HST.out];exact Bst.of [] HTS9 hok9 (hxD.sat hle9) H9⟩
                  case measure=>simp [intOf];omega
               ·have hkb:(kd==e.kind)=false:=by simp [hkk]
                as_aux_lemma=>
                 have HST:=hide (HNO.out (fun h=>hkk (by rw [←HKD.out];exact h.2.1)));clear hkk;have:=H.c 0 1;have:=H.c 0 0;have:=H.c 1 17
                 go_quiet (fail)
                 replace H:=H.drew nq;obtain ⟨w57,hq58⟩: ∃x,(w42).drewN nq=x:=⟨_,rfl⟩;rw [hq58] at H ⊢;clear hq58;replace H:Hp _ _ _ (_::_::_::_::_::_::(y1i (TA++(e,V)::TB)++M2)):=H
                 go_wp2_with fail
                 replace H:=H.sub (Qai _ (Qaa _ (Qaa _ (Qaa _ (Qaa _ (Qaa _ (Qam _)))))));go_roundw
                 case rel=>exact ⟨k+1,K7,by omega,by go_num,hK,hB,by rw [HE.out,HST.out];exact Bst.of [] HTS.out hok hxD H⟩
                 case measure=>simp [intOf];omega
            ·obtain rfl:n=k:=by omega
             have htk:defs.take n=defs:=by rw [←HN.out];exact List.take_length
             rw [htk] at hS;clear htk;have hto:defs.foldl ty.step2 (y32 defs)=y02 defs:=rfl;rw [hto] at hS;clear hto;obtain ⟨TS,VT,VD,xD,hts,hok,hxD,H⟩:=Bst.to [] hS;clear hS;obtain ⟨nt,hnt⟩: ∃x,(y02 defs).length=x:=⟨_,rfl⟩;have HNT:=hide hnt;have htN:=q6g defs;have hgN:=z4p.1;have hntl:=q8i (y02 defs);have H2:=Hp.rot (z1o g33 b28 b29 b30 b31 (y02 defs) (y33 defs) VT VD TS xD) (y1i TS) (M:=M2) H;clear H;obtain ⟨K1,s1,H,hT⟩:=Hp.freezeDefs H2 hok;rw [←hts] at hT;replace hxD:=hxD.sat s1;have H3:=Hp.rotAt [] [tbox g33 b28 b29 b30 b31 VT VD] [.map b28 (y06 (nmap (y0a (y02 defs)))),.row 43 17 VT (y02 defs).length (y1b TS),.map b29 (y06 (nmap (y0a (y33 defs)))),.row 43 17 VD (y33 defs).length xD] (M:=M2) H;clear H H2;obtain ⟨K2,s2,H,hA⟩:=Hp.freezeKm H3;obtain ⟨K3,s3,H,hTy⟩:=Hp.freezeRow H (hT.sat s2);obtain ⟨K4,s4,H,hDA⟩:=Hp.freezeKm H;obtain ⟨K5,s5,H,hDi⟩:=Hp.freezeRow H (((hxD.sat s2).sat s3).sat s4);clear H3 hT hxD hok hts;replace hK:=s5.trans (s4.trans (s3.trans (s2.trans (s1.trans hK))));replace hA:=((hA.sat s3).sat s4).sat s5;replace hTy:=(hTy.sat s4).sat s5;replace hDA:=hDA.sat s5;replace hB:=((((hB.sat s1).sat s2).sat s3).sat s4).sat s5;clear s1 s2 s3 s4 s5;obtain ⟨Aty,ct,hVT,-,-⟩:=y4h hTy;subst hVT;rw [hnt] at H hTy;clear hnt;replace H:Hp _ _ _ (.box _ [_,_,_,_,_,_,_,_,_,_,_,_,_,_,_,_,_,_,_,_,_,_,_] _::M2):=H
             try dsimp only at H
             go_upto_region 46 with (fail)
             go_upto_region 47 with (first
              |(go_at_call 61;refine (q8g defs (y02 defs) n c nt ct A Aty g33 b28 b29 b30 b31 VD _ _ _ M2 H HN.out hB.d hm HNT.out hTy hA).mono ?_;clear H;rintro e1 w9 ⟨K9,cs9,rfl,hle9,H,hsch⟩;replace hA:=hA.sat hle9;replace hTy:=hTy.sat hle9;replace hDA:=hDA.sat hle9;replace hB:=hB.sat hle9;replace hDi:=hDi.sat hle9;replace hK:=hle9.trans hK;obtain ⟨s,hs⟩: ∃s,y27 defs (y02 defs)=s:=⟨_,rfl⟩;rw [hs] at hsch;obtain ⟨A6,c6,A7,c7,A8,c8,A9,c9,A10,c10,A11,c11,A12,c12,A14,c14,hcs,-,-,-,-,-,-,-,-⟩:=y0c hsch;obtain rfl:=Qal.1 (hcs.trans (List.toList_toArray ..).symm))
              |((with_reducible refine isL ?_);first
               |(refine sA 200 0 H ?_;clear H;intro w60 H)))
             obtain ⟨K10,s10,H,hbox⟩:=H.freezeKb;have T:TyA K10 g33 b28 b29 b30 b31 _ (.slice Aty nt ct) VD s (y02 defs) (y33 defs):=⟨hbox,hsch.sat s10,by rw [HNT.out];exact hTy.sat s10,hDi.sat s10,hA.sat s10,hDA.sat s10⟩;replace hK:=s10.trans hK;clear hbox hsch hTy hDi hA hDA hB s10;subst hM2
             go_wp2_with (first
              |(go_at_call 62;refine (q3s g33 b28 b29 b30 b31 _ _ VD s (y02 defs) (y33 defs) nt _ _ _ M H T HNT.out (by omega)).mono ?_;clear H;rintro e1 w11 ⟨rfl,OB,hOB,H⟩))
             obtain ⟨K11,s11,H,hf⟩:=H.freezeKm;obtain ⟨K12,s12,H,ho⟩:=H.freezeKm;obtain ⟨K13,s13,H,hsets⟩:=Hp.freezeMaps H;go_ret;have HF:=H;subst hs;exact ⟨K13,g33,rfl,s13.trans (s12.trans (s11.trans hK)),HF,b28,b29,b30,b31,_,_,VD,OB,⟨((T.sat s11).sat s12).sat s13,(hf.sat s12).sat s13,ho.sat s13,hOB,hsets⟩⟩
end Go.Proofs.YtbpgkkoeehopjaaGreat.hp
namespace Go.Proofs.YtbpgkkoeehopjaaGreat.hp
open Go.RowKit lex gram dat ty
theorem q8j (l:List DefD):y0e (y02 l)≤y0e l+1000:=by
 have h1:=x17 l (y32 l);have h2:=y9v z2e givenT (bare l).1;have h3:=x16 l ([],[]);have h4:=g12 l;have h5:=z4p.1;have h7:y0e ([]:List DefD)=0:=rfl;simp only [h7] at h3;unfold y02 y32 bare at*;unfold y0e at*;omega
theorem q88 (l:List DefD):y0e (y33 l)≤y0e l+1000:=by
 have h1:=q8f l;have h5:=z4p.2;omega
theorem q6m (l:List DefD) (ts:List DefD):defN (y27 l ts)≤2*y0e l+10:=by
 unfold y27;split
 ·have hr:(y5j ts).length≤3:=by
   unfold y5j;rw [Qay];exact Qah (Qb4 _ _) (by rw [List.length_zipIdx];exact Qab _)
  unfold defN y3k;simp only [List.length_nil,sumN];omega
 ·rename_i d hd;have h1:=z4l l d;obtain ⟨i,hi⟩:=Qbp.1 (List.mem_of_find?_eq_some hd);have h2:=y3h hi;omega
structure TyW (D:TysD):Prop where
 nd:(y0a D.types).Nodup
 ndd:(y0a D.dirs).Nodup
 nT:y0e D.types≤3002000
 nD:y0e D.dirs≤3002000
 nS:defN D.schema≤9000000
 f:FOk D.types D.fields
 o:OOk D.types D.objects
theorem x3w (l:List DefD) (h:y0e l≤2900000):TyW (y3x l):=by
 have h1:=q8j l;have h2:=q88 l;have h3:=q6m l (y02 l);exact ⟨y9w l,x6b l,by show y0e (y02 l)≤_;omega,by show y0e (y33 l)≤_;omega,by show defN (y27 l (y02 l))≤_;omega,x1y _,z9n (y9w l)⟩
def Tp (K:World) (v:Value) (D:TysD):Prop:=(v= .pointer none∧D=y3x [])∨ ∃g,v= .pointer (some ⟨g,0,none⟩)∧TysK K g D
theorem Tp.sat {K K':World} {v:Value} {D:TysD} (h:Tp K v D) (hs:Sat K' K):Tp K' v D:=by
 rcases h with h|⟨g,h1,h2⟩
 ·exact .inl h
 ·exact .inr ⟨g,h1,h2.sat hs⟩
theorem TysK.tp {K:World} {g:Nat} {D:TysD} (h:TysK K g D):Tp K (.pointer (some ⟨g,0,none⟩)) D:=.inr ⟨g,rfl,h⟩
open words enc tree rd dec held
set_option maxRecDepth 100000
attribute [local go_sem ↓] Go.wp_at_zero Go.wp_at_succ
theorem y9z (v:Value) (D:TysD) (w0 w K:World) (M:List Ent) (H:Hp w0 w K M) (T:Tp K v D):
  Calls Tryz.prog 64 #[v] w fun e w'=>∃K' g,e= .returned (.pointer (some ⟨g,0,none⟩))∧Sat K' K∧Hp w0 w' K' M∧TysK K' g D:=by
 rcases T with ⟨rfl,rfl⟩|⟨g,rfl,T⟩
 ·have hz:RD K (.list 0 (y0q [])) (.slice none 0 0):=RD.z;go_enter Tryz.func64,Tryz.ntmps64
  go_wp2_with (first
   |(go_at_call 14;refine (z7q [] 0 0 none w0 _ K M H rfl hz (by simp [y0e,sumN])).mono ?_;clear H;rintro e w1 ⟨K1,g,rfl,hle,H,hT⟩))
  go_ret;exact ⟨K1,g,rfl,hle,H,hT⟩
 ·skip
  go_enter Tryz.func64,Tryz.ntmps64
  go_wp2_with fail
  go_ret;exact ⟨K,g,rfl,Sat.refl K,H,T⟩
theorem Kb.range {w:World} {g:Nat} {cs us:List Value} {t:TypeId} (h:Kb w g (us++cs) t):w.rangeAt g 0 us:=fun k u hu=>by
 rw [Nat.zero_add];exact h.cell (by rw [Qa9 (Qac.1 hu).1];exact hu)
def y51 (l:List DefD) (x:Txt):Option DefD:=(y1k l x).bind fun i=>l[i]?
def z7r:DefD:={y3k with kind:=0}
def DefO (o:Option DefD) (K:World) (v:Value):Prop:=∃cs,v= .tuple #[.agg cs,.bool o.isSome]∧RL K (defL (o.getD z7r)) cs.toList
theorem q3z {K:World}:RL K (defL z7r) [.int .i64 0,.bool false,.bool false,.bool false,.string ⟨#[]⟩,.string ⟨#[]⟩,.slice none 0 0,.slice none 0 0,.slice none 0 0,.slice none 0 0,.slice none 0 0,.slice none 0 0,.slice none 0 0,.bool false,.slice none 0 0,.int .i64 0,.int .i64 0]:=.lit (.lit (.lit (.lit (.lit (.lit (.cons RD.z (.cons RD.z (.cons RD.z (.cons RD.z (.cons RD.z (.cons RD.z (.cons RD.z (.lit (.cons RD.z (.lit (.lit RL.z))))))))))))))))
theorem x6l {l:List DefD} {x:Txt} (h:y1k l x=none):y51 l x=none:=by unfold y51;rw [h];rfl
theorem y8t {l:List DefD} {x:Txt} {i:Nat} {d:DefD} (h:y1k l x=some i) (hd:l[i]?=some d):y51 l x=some d:=by unfold y51;rw [h];exact hd
theorem q8k (v:Value) (x:Txt) (D:TysD) (w0 w K:World) (M:List Ent) (H:Hp w0 w K M) (hv:Tp K v D) (hW:TyW D):
  Calls Tryz.prog 19 #[v,.string (str x)] w (Post w0 K M (DefO (y51 D.types x))):=by
 have hq:=y12 D.types x;have hN:=hW.nT;have hsz:(Tryz.prog.info? 43).map (·.size)=some 17:=z0e
 cases hi:y1k D.types x with
 |none=>
  rw [hi] at hq;replace hq:y0x (nmap (y0a D.types)) x=none:=hq;rw [x6l hi];clear hi;go_enter Tryz.func19,Tryz.ntmps19;have hK:=Sat.refl K
  go_upto_region 1 with (first
   |((with_reducible refine isL ?_);first
    |(refine al z43 4 H ?_;clear H;intro w10 g4 H)))
  go_upto_region 2 with (first
   |(go_at_call 64;refine (y9z _ D _ _ K _ H hv).mono ?_;clear H;rintro e w5 ⟨K5,g5,rfl,hle,H,hT5⟩;replace hK:=hle.trans hK))
  obtain ⟨ga,gd,gf,go,sch,VT,VD,OB,T⟩:=hT5;have hcA:=H.kcell T.a.box T.a.c18
  go_wp2_with (first
   |(refine y1a (by rfl) (.tmp 14) (.tmp 15) 87 true (by rfl) Tryz.underlying87 (y08 Tryz.underlying9) (.int .i64 0) y0j ga (nmap (y0a D.types)) (H.kmap T.a.at_) (by first|rfl|simp [Act.eval,Act.put]) (x) (by first|rfl|simp [Act.eval,Act.put]) (.tuple #[.int .i64 0,.bool false]) (by rw [hq];rfl) ?_)
   |((with_reducible refine isL ?_);first
    |(refine sA 4 0 H ?_;clear H;intro w13 H)))
  refine bodyPost_ret (y0y rfl _ _ g4 43 _ (0,0) _ (by rfl) (H.blkAt (i:=0) rfl) Tryz.underlying43 rfl (by kernel_rfl)) rfl ?_;replace H:=H.sub (Qai _ (Qam _));exact ⟨K5,_,rfl,hK,H,_,rfl,q3z⟩
 |some i=>
  rw [hi] at hq;replace hq:y0x (nmap (y0a D.types)) x=some (.int .i64 (i:Int)):=hq;obtain ⟨d,hd,-⟩:=y1p hi;rw [y8t hi hd];have hlt:=y4x hi
  have hltI:(i:Int)<(D.types.length:Int):=by omega
  have hdn:=y3h hd
  have hdm:defN d≤9000000:=by omega
  clear hi;go_enter Tryz.func19,Tryz.ntmps19;have hK:=Sat.refl K
  go_upto_region 1 with (first
   |((with_reducible refine isL ?_);first
    |(refine al z43 4 H ?_;clear H;intro w14 g4 H)))
  go_upto_region 2 with (first
   |(go_at_call 64;refine (y9z _ D _ _ K _ H hv).mono ?_;clear H;rintro e w5 ⟨K5,g5,rfl,hle,H,hT5⟩;replace hK:=hle.trans hK))
  obtain ⟨ga,gd,gf,go,sch,VT,VD,OB,T⟩:=hT5;have hcA:=H.kcell T.a.box T.a.c18;have hcT:=H.kcell T.a.box T.a.c17;have hTy:=T.a.types;obtain ⟨A,c,hVT,hc1,hc2⟩:=y4h hTy;rw [hVT] at hTy hcT;obtain ⟨ad,xs,hA,hxd,hxl,hatK⟩:=y2r (m:=17) (f:=defL) y0u hTy hd (by omega);subst hA
  go_upto_region 3 with (first
   |(refine y1a (by rfl) (.tmp 14) (.tmp 15) 87 true (by rfl) Tryz.underlying87 (y08 Tryz.underlying9) (.int .i64 0) y0j ga (nmap (y0a D.types)) (H.kmap T.a.at_) (by first|rfl|simp [Act.eval,Act.put]) (x) (by first|rfl|simp [Act.eval,Act.put]) (.tuple #[.int .i64 (i:Int),.bool true]) (by rw [hq];rfl) ?_))
  go_upto_region 5 with (fail)
  go_wp2_with (first
   |(go_at_call 65;refine (y8g d xs.toArray H hdm hxd).mono ?_;clear H;rintro e w6 ⟨K6,cs5,rfl,hle6,H,hd5⟩;replace hK:=hle6.trans hK;obtain ⟨B6,e6,B7,e7,B8,e8,B9,e9,B10,e10,B11,e11,B12,e12,B14,e14,hcs5,-,-,-,-,-,-,-,-⟩:=y0c hd5;obtain rfl:cs5= #[.int .i64 d.kind,.bool d.ext,.bool d.note.has,.bool d.note.block,.string (str d.note.text),.string (str d.name),.slice B6 d.ifaces.length e6,.slice B7 d.dirs.length e7,.slice B8 d.fields.length e8,.slice B9 d.inputs.length e9,.slice B10 d.members.length e10,.slice B11 d.values.length e11,.slice B12 d.roots.length e12,.bool d.rep,.slice B14 d.places.length e14,.int .i64 d.line,.int .i64 d.col]:=Qal.1 hcs5;clear hcs5)
   |((with_reducible show wpList _ _ _ (_::_) _ _);refine y0d (by rfl) 43 (.tmp 27) (by rfl) (ad.add (i*17)) (by simp [Act.eval,Act.put]) _ _ (At.sat hatK H.sat) Tryz.underlying43 rfl (by rw [hxl];exact hsz) ?_)
   |((with_reducible refine isL ?_);first
    |(refine sA 4 0 H ?_;clear H;intro w18 H)))
  refine bodyPost_ret (y0y rfl _ _ g4 43 _ (0,0) _ (by rfl) (H.blkAt (i:=0) rfl) Tryz.underlying43 rfl (by kernel_rfl)) rfl ?_;replace H:=H.sub (Qai _ (Qam _));exact ⟨K6,_,rfl,hK,H,_,rfl,hd5⟩
theorem x18 {w:World} {a T:Nat} {d:RootD} {vs:List Value} (h:DatL w a T (z0b d) vs):vs=[.int .i64 d.op,.string (str d.type),.int .i64 d.line,.int .i64 d.col]:=by
 obtain ⟨r0,rfl,h0⟩:=h.lit_inv;obtain ⟨r1,rfl,h1⟩:=h0.lit_inv;obtain ⟨r2,rfl,h2⟩:=h1.lit_inv;obtain ⟨r3,rfl,h3⟩:=h2.lit_inv;rw [h3.nil_inv]
theorem q0p {α:Type} {p:α→Bool}: ∀{l:List α} {k:Nat} {x:α},(∀y∈l.take k,p y=false)→l[k]?=some x→p x=true→l.find? p=some x
 |[],k,x,_,h,_=>by simp at h
 |a::r,0,x,_,h,hp=>by
  simp only [List.getElem?_cons_zero,Option.some.injEq] at h;subst h;simp [List.find?_cons,hp]
 |a::r,k+1,x,h0,h,hp=>by
  have ha:p a=false:=h0 a (by simp);have:=q0p (l:=r) (k:=k) (fun y hy=>h0 y (by rw [List.take_succ_cons];exact Qa2 _ hy)) (by simpa using h) hp;simp [List.find?_cons,ha,this]
theorem q6n {α:Type} {p:α→Bool} {l:List α} (h: ∀y∈l,p y=false):l.find? p=none:=by
 rw [List.find?_eq_none];intro y hy;rw [h y hy];exact Bool.false_ne_true
theorem x3x {α:Type} {p:α→Bool} {l:List α} {k:Nat} {x:α} (h: ∀y∈l.take k,p y=false) (hx:l[k]?=some x) (hp:p x=false): ∀y∈l.take (k+1),p y=false:=by
 intro y hy;rw [y0n hx] at hy;rcases Qbf.1 hy with hy|hy
 ·exact h y hy
 ·obtain rfl:=Qax.1 hy;exact hp
theorem q0q:(Tryz.prog.info? 100).map (·.size)=some 4:=by kernel_rfl
def y23 (rs:List RootD) (op:Int):Txt:=((rs.find? fun r=>r.op==op).map (·.type)).getD []
set_option maxHeartbeats 4000000 in
theorem z2g (v:Value) (op:Int) (D:TysD) (w0 w K:World) (M:List Ent) (H:Hp w0 w K M) (hv:Tp K v D) (hW:TyW D):
  Calls Tryz.prog 17 #[v,.int .i64 op] w fun e w'=>∃K',e= .returned (.string (str (y23 D.schema.roots op)))∧Sat K' K∧Hp w0 w' K' M:=by
 have hsz:=q0q
 have hrl:D.schema.roots.length≤9000000:=by have:=hW.nS;unfold defN at this;omega
 obtain ⟨rs,hrs⟩: ∃rs,D.schema.roots=rs:=⟨_,rfl⟩;obtain ⟨n,hn⟩: ∃n,rs.length=n:=⟨_,rfl⟩;rw [hrs] at hrl ⊢;rw [hn] at hrl;have HN:=hide hn;go_enter Tryz.func17,Tryz.ntmps17;have hK:=Sat.refl K
 go_wp2_with (first
  |(go_at_call 64;refine (y9z _ D _ _ K _ H hv).mono ?_;clear H;rintro e w5 ⟨K5,g5,rfl,hle,H,hT5⟩;replace hK:=hle.trans hK;obtain ⟨ga,gd,gf,go,sch,VT,VD,OB,T⟩:=hT5;obtain ⟨A6,c6,A7,c7,A8,c8,A9,c9,A10,c10,A11,c11,A12,c12,A14,c14,hcs,-,-,-,-,-,-,hr,-⟩:=y0c T.a.sch;subst hcs;have h12:=H.kcell (j:=12) T.a.box rfl;rw [hrs,hn] at hr;rw [hrs,hn] at h12))
 clear hn hrs h12 T
 go_loopw [14] (fun i wr=>∃k:Nat,k≤n∧i= .int .i64 k∧Hp w0 wr K5 M∧ ∀y∈rs.take k,(y.op==op)=false) (fun i _=>n - (intOf i).toNat)
 case atStart=>exact ⟨0,Qak _,rfl,H,by simp⟩
 case round=>
  clear H;obtain ⟨k,hk,rfl,H,hno⟩:=hrel;by_cases hlt:k<n
  ·have hkI:(k:Int)<(n:Int):=by omega
   obtain ⟨x,hx⟩: ∃x,rs[k]?=some x:=⟨_,Qad (by rw [HN.out];exact hlt)⟩;have HX:=hide hx;obtain ⟨ad,xs,hA,hxd,_,hatK⟩:=y2r (m:=4) (f:=z0b) (fun _=>rfl) hr hx (by omega);subst hA;clear hx;obtain rfl:=x18 hxd;clear hxd;have hno:=hide hno;obtain ⟨xo,hxo⟩: ∃xo,x.op=xo:=⟨_,rfl⟩;rw [hxo] at hatK;by_cases hop:xo=op
   ·subst hop
    go_wp2_with (first
     |((with_reducible show wpList _ _ _ (_::_) _ _);refine y0d (by rfl) 100 (.tmp 16) (by rfl) (ad.add (k*4)) (by simp [Act.eval,Act.put]) _ _ (At.sat hatK H.sat) Tryz.underlying100 rfl hsz ?_)
     |((with_reducible refine isL ?_);first
      |(refine al z100 6 H ?_;clear H;intro w1 g6 H;have:=H.c 0 0;have:=H.c 0 1)
      |(refine sA 6 0 H ?_;clear H;intro w3 H;have:=H.c 0 0;have:=H.c 0 1)))
    replace H:=H.sub (Qai _ (Qam _));go_ret;exact ⟨K5,by unfold y23;rw [q0p hno.out HX.out (by simp [hxo])];rfl,hK,H⟩
   ·have hb:(x.op==op)=false:=by simp [hxo,hop]
    go_wp2_with (first
     |((with_reducible show wpList _ _ _ (_::_) _ _);refine y0d (by rfl) 100 (.tmp 16) (by rfl) (ad.add (k*4)) (by simp [Act.eval,Act.put]) _ _ (At.sat hatK H.sat) Tryz.underlying100 rfl hsz ?_)
     |((with_reducible refine isL ?_);first
      |(refine al z100 6 H ?_;clear H;intro w4 g6 H;have:=H.c 0 0)
      |(refine sA 6 0 H ?_;clear H;intro w6 H;have:=H.c 0 0)))
    replace H:=H.sub (Qai _ (Qam _));go_roundw
    case rel=>exact ⟨k+1,by omega,by go_num,H,x3x hno.out HX.out hb⟩
    case measure=>simp [intOf];omega
  ·obtain rfl:n=k:=by omega
   have htk:rs.take n=rs:=by rw [←HN.out];exact List.take_length
   rw [htk] at hno;have hno:=hide hno
   go_wp2_with fail
   go_ret;exact ⟨K5,by unfold y23;rw [q6n hno.out];rfl,hK,H⟩
theorem q0r {w:World} {p:Addr} {v:Value} (h:w.cell? p=some v): ∃B O,p=⟨B,O,none⟩:=by
 obtain ⟨b,o,sp⟩:=p
 cases sp with
 |none=>exact ⟨b,o,rfl⟩
 |some x=>
  unfold World.cell? at h;split at h
  ·simp at h
  ·cases h
theorem y14 {K:World} {α:Type} {f:α→List Leaf} {m n c:Nat} {ad:Addr} {l:List α} (hf: ∀x,(f x).length=m) (h:RD K (.list n (l.flatMap f)) (.slice (some ad) n c)) (hl:0<l.length) (hm:0<m): ∃B O,ad=⟨B,O,none⟩:=by
 obtain ⟨ad',vs,h1,_,h3,h4⟩:=y2r hf h (Qad hl) hm;injection h1 with h1;subst h1
 have h0:ad.add (0*m)=ad:=by unfold Addr.add;simp
 rw [h0] at h4
 cases vs with
 |nil=>simp at h3;omega
 |cons v r=>exact q0r (h4.1 v rfl)
theorem y24 (B O k:Nat):(⟨B,O,none⟩:Addr).add k=⟨B,O+k,none⟩:=by unfold Addr.add;split<;>simp_all
theorem q43 (x:NamedD) (b:Txt) (gb i:Nat) (w0 w K:World) (M:List Ent) (H:Hp w0 w K M) (hb:M[i]?=some (.box gb [.string (str b)] 9)):
  Calls Tryz.prog 82 #[.agg #[.string (str x.name),.int .i64 x.line,.int .i64 x.col],.pointer (some ⟨gb,0,none⟩)] w fun e w'=>e= .returned (.bool (decide (x.name=b)))∧Hp w0 w' K M:=by
 have hs:=y11 x.name b;go_enter Tryz.func82,Tryz.ntmps82
 go_wp2_with (first
  |((with_reducible show wpList _ _ _ (_::_) _ _);refine z17 (by rfl) 113 (.tmp 0) (by rfl) [.string (str x.name),.int .i64 x.line,.int .i64 x.col] _ (by rfl) (by rfl) (some 2) (by rfl) H ?_;clear H;intro w1 g2 H hg1;clear hg1;have c1:(w1).cell? ⟨g2,0,none⟩=some (.string (str x.name)):=H.cell (i:=0) rfl rfl;have c2:(w1).cell? ⟨gb,0,none⟩=some (.string (str b)):=H.cell (i:=i+1) (by simpa using hb) rfl))
 replace H:=Hp.tail H;go_ret;exact ⟨by rw [←hs];rfl,H⟩
set_option maxHeartbeats 4000000 in
theorem q30 (l:List NamedD) (b:Txt) (gb i n c:Nat) (A:Option Addr) (w0 w K:World) (M:List Ent) (H:Hp w0 w K M) (hb:M[i]?=some (.box gb [.string (str b)] 9)) (hn:l.length=n) (hd:RD K (.list n (y0t l)) (.slice A n c)) (hm:n≤20000000):
  Calls Tryz.prog 127 #[.slice A n c,.func (.func 82) #[] #[.pointer (some ⟨gb,0,none⟩)]] w fun e w'=>e= .returned (.int .i64 (idxI (l.findIdx? fun d=>decide (d.name=b))))∧Hp w0 w' K M:=by
 have HN:=hide hn;clear hn;go_enter Tryz.func127,Tryz.ntmps127
 go_wp2_with fail
 go_loopw [8] (fun i wr=>∃k:Nat,k≤n∧i= .int .i64 k∧Hp w0 wr K M∧ ∀y∈l.take k,decide (y.name=b)=false) (fun i _=>n - (intOf i).toNat)
 case atStart=>exact ⟨0,Qak _,rfl,H,by simp⟩
 case round=>
  clear H;obtain ⟨k,hk,rfl,H,hno⟩:=hrel;by_cases hlt:k<n
  ·have hkI:(k:Int)<(n:Int):=by omega
   obtain ⟨x,hx⟩: ∃x,l[k]?=some x:=⟨_,Qad (by rw [HN.out];exact hlt)⟩;have HX:=hide hx;obtain ⟨ad,xs,hA,hxd,_,hatK⟩:=y2r (m:=3) (f:=y7p) (fun _=>rfl) hd hx (by omega);subst hA;clear hx;have hsz:=z59;obtain rfl:=y73 hxd;clear hxd;have hno:=hide hno
   cases hq:decide (x.name=b) with
   |true=>
    go_wp2_with (first
     |((with_reducible show wpList _ _ _ (_::_) _ _);refine y0d (by rfl) 113 (.tmp 14) (by rfl) (ad.add (k*3)) (by simp [Act.eval,Act.put]) _ _ (At.sat hatK H.sat) Tryz.underlying113 rfl hsz ?_)
     |(go_at_call 82;refine (q43 x b gb i _ _ _ _ H hb).mono ?_;clear H;rintro e w1 ⟨rfl,H⟩;rw [hq]))
    go_ret;exact ⟨by rw [z1n hno.out HX.out hq];rfl,H⟩
   |false=>
    go_wp2_with (first
     |((with_reducible show wpList _ _ _ (_::_) _ _);refine y0d (by rfl) 113 (.tmp 14) (by rfl) (ad.add (k*3)) (by simp [Act.eval,Act.put]) _ _ (At.sat hatK H.sat) Tryz.underlying113 rfl hsz ?_)
     |(go_at_call 82;refine (q43 x b gb i _ _ _ _ H hb).mono ?_;clear H;rintro e w1 ⟨rfl,H⟩;rw [hq]))
    go_roundw
    case rel=>exact ⟨k+1,by omega,by go_num,H,x3x hno.out HX.out hq⟩
    case measure=>simp [intOf];omega
  ·obtain rfl:n=k:=by omega
   have htk:l.take n=l:=by rw [←HN.out];exact List.take_length
   rw [htk] at hno;have hno:=hide hno
   go_wp2_with fail
   go_ret;exact ⟨by rw [z57 hno.out];rfl,H⟩
theorem q6o {α:Type} (p:α→Bool) (l:List α):decide (0≤idxI (l.findIdx? p))=l.any p:=by
 cases h:l.findIdx? p with
 |none=>
  rw [List.findIdx?_eq_none_iff] at h
  have:l.any p=false:=by rw [List.any_eq_false];intro x hx;rw [h x hx];exact Bool.false_ne_true
  rw [this];rfl
 |some i=>
  obtain ⟨hi,h1,_⟩:=Qbs.1 h;have:l.any p=true:=Qbh.2 ⟨l[i],List.getElem_mem hi,h1⟩;rw [this];simp [idxI]
theorem x3y (l:List NamedD) (b:Txt) (gb i n c:Nat) (A:Option Addr) (w0 w K:World) (M:List Ent) (H:Hp w0 w K M) (hb:M[i]?=some (.box gb [.string (str b)] 9)) (hn:l.length=n) (hd:RD K (.list n (y0t l)) (.slice A n c)) (hm:n≤20000000):
  Calls Tryz.prog 81 #[.slice A n c,.func (.func 82) #[] #[.pointer (some ⟨gb,0,none⟩)]] w fun e w'=>e= .returned (.bool (l.any fun d=>decide (d.name=b)))∧Hp w0 w' K M:=by
 have hi:=q6o (fun d:NamedD=>decide (d.name=b)) l;obtain ⟨q,hq⟩: ∃q,idxI (l.findIdx? fun d=>decide (d.name=b))=q:=⟨_,rfl⟩;rw [←hi,hq];clear hi;go_enter Tryz.func81,Tryz.ntmps81
 go_wp2_with (first
  |(go_at_call 127;refine (q30 l b gb i n c A _ _ _ M H hb hn hd hm).mono ?_;clear H;rintro e w1 ⟨rfl,H⟩;rw [hq]))
 go_ret;exact ⟨by first|rfl|simp,H⟩
theorem oset (x:Txt): ∀OB:List (Txt×Nat×List (Txt×Value)),(y0x (y15 OB) x=none∧y62 (omap OB) x=[])∨ ∃p∈OB,y0x (y15 OB) x=some (.map (some p.2.1))∧y62 (omap OB) x=p.2.2
 |[]=>.inl ⟨rfl,rfl⟩
 |p::r=>by
  by_cases h:p.1=x
  ·exact .inr ⟨p,Qaz ..,by simp [y0x,y15,h],by simp [y62,omap,h]⟩
  ·have h1:y0x (y15 (p::r)) x=y0x (y15 r) x:=by simp [y0x,y15,h]
   have h2:y62 (omap (p::r)) x=y62 (omap r) x:=by simp [y62,omap,h]
   rw [h1,h2];rcases oset x r with h|⟨q,hq,h⟩
   ·exact .inl h
   ·exact .inr ⟨q,Qa2 _ hq,h⟩
theorem z1p {P:Program} {t kt et:Nat} {w:World} {z:Value} (ht:P.underlying t=some (.map kt et)) (hk:P.underlying kt=some .string) (hz:(zeroValue et).run P w= .ok z w) (x:Txt) (ok:Bool):
  (Instr.lookup t (.map none) (.string (str x)) ok).run P w= .ok (if ok then .tuple #[z,.bool false] else z) w:=by
 have hf:(Instr.findKey kt (.string (str x)) []).run P w= .ok none w:=z0p (P:=P) (w:=w) (l:=[]) hk x;unfold Instr.lookup
 cases ok<;>simp [Sem.run_bind,run_underlying ht w,Result.andThen_ok,y8o hk,hf,hz,Sem.run_pure]
theorem x6m (OB:List (Txt×Nat×List (Txt×Value))) (go:Nat) (x y:Txt):
  ∃mv,∀w,Km w go (y00 ks (y15 OB))→(∀p∈OB,Km w p.2.1 (y00 ks p.2.2))→(Instr.lookup 89 (.map (some go)) (.string (str x)) false).run Tryz.prog w= .ok mv w∧(Instr.lookup 87 mv (.string (str y)) true).run Tryz.prog w= .ok (.tuple #[(y0x (y62 (omap OB) x) y).getD (.int .i64 0),.bool (y0x (y62 (omap OB) x) y).isSome]) w:=by
 have h1:=fun w ho=>y0p (P:=Tryz.prog) (w:=w) (t:=89) (kt:=9) (et:=87) (l:=y15 OB) (b:=go) Tryz.underlying89 (y08 Tryz.underlying9) (.map none) (z0w w) ho x false;rcases oset x OB with ⟨hf,hS⟩|⟨p,hp,hf,hS⟩
 ·rw [hf] at h1;refine ⟨.map none,fun w ho hs=>⟨h1 w ho,?_⟩⟩;rw [hS];exact z1p Tryz.underlying87 Tryz.underlying9 (y0j w) y true
 ·rw [hf] at h1;refine ⟨.map (some p.2.1),fun w ho hs=>⟨h1 w ho,?_⟩⟩;rw [hS];exact y0p (P:=Tryz.prog) (w:=w) (t:=87) (kt:=9) (et:=3) (l:=p.2.2) (b:=p.2.1) Tryz.underlying87 (y08 Tryz.underlying9) (.int .i64 0) (y0j w) (hs p hp) y true
def z1q (D:TysD) (a b:Txt):Bool:=
 if y0l D.types a=0∨y0l D.types b=0 then false
 else if a=b then true
 else if y0l D.types b=5 then (y0x (y62 D.objects b) a).isSome
 else if y0l D.types b≠4∨(y0l D.types a≠3∧y0l D.types a≠4) then false
 else (((y51 D.types a).map (·.ifaces)).getD []).any fun n=>decide (n.name=b)
theorem z9x {ts:List DefD} {x:Txt} (h:y0l ts x≠0): ∃i d,y1k ts x=some i∧ts[i]?=some d∧d.kind=y0l ts x:=by
 cases hi:y1k ts x with
 |none=>exact absurd (y9y hi) h
 |some i=>
  obtain ⟨d,hd,_⟩:=y1p hi;exact ⟨i,d,rfl,hd,(y9x hi hd).symm⟩
set_option maxHeartbeats 16000000 in
theorem x3z (v:Value) (a b:Txt) (D:TysD) (w0 w K:World) (M:List Ent) (H:Hp w0 w K M) (hv:Tp K v D) (hW:TyW D):
  Calls Tryz.prog 37 #[v,.string (str a),.string (str b)] w fun e w'=>∃K',e= .returned (.bool (z1q D a b))∧Sat K' K∧Hp w0 w' K' M:=by
 have hwd:z1q D a b=z1q D a b:=rfl
 conv at hwd=>rhs;unfold z1q
 obtain ⟨ka,hka⟩: ∃kk,y0l D.types a=kk:=⟨_,rfl⟩;obtain ⟨kb,hkb⟩: ∃kk,y0l D.types b=kk:=⟨_,rfl⟩;rw [hka,hkb] at hwd;have hst:=y11 a b;have HW:=hide hwd;clear hwd;go_enter Tryz.func37,Tryz.ntmps37;have hK:=Sat.refl K
 go_upto_region 1 with (first
  |(refine z17 (by rfl) 9 (.tmp 2) (by rfl) [.string (str b)] _ (by rfl) (by rfl) (some 5) (by rfl) H ?_;clear H;intro w1 g5 H hg2;clear hg2))
 go_upto_region 2 with (first
  |(go_at_call 64;refine (y9z _ D _ _ K _ H hv).mono ?_;clear H;rintro e w5 ⟨K5,g5_1,rfl,hle,H,hT5⟩;replace hK:=hle.trans hK))
 obtain ⟨ga,gd,gf,go,sch,VT,VD,OB,T⟩:=hT5;by_cases ha0:ka=0
 ·subst ha0;have HR:=hide (HW.out.trans (if_pos (.inl rfl)));have:=H.c 0 0
  go_wp2_with (first
   |(go_at_call 79;refine (y1d a _ g5_1 ga gd gf go sch VT VD D.schema D.types D.dirs _ _ _ _ H T.a hka).mono ?_;clear H;rintro e wa ⟨rfl,H⟩;have:=H.c 0 0))
  replace H:=H.sub (Qai _ (Qam _));go_ret;exact ⟨K5,by rw [HR.out];rfl,hK,H⟩
 ·have ha0':(ka==0)=false:=by simp [ha0]
  by_cases hb0:kb=0
  ·subst hb0;have HR:=hide (HW.out.trans (if_pos (.inr rfl)));have:=H.c 0 0;have tk5:True:=trivial
   go_wp2_with (first
    |(go_at_call 79;have tk_:=tk5;clear tk_ tk5;have tk6:True:=trivial;refine (y1d a _ g5_1 ga gd gf go sch VT VD D.schema D.types D.dirs _ _ _ _ H T.a hka).mono ?_;clear H;rintro e wa ⟨rfl,H⟩;have:=H.c 0 0)
    |(go_at_call 79;have tk_:=tk6;clear tk_ tk6;refine (y1d b _ g5_1 ga gd gf go sch VT VD D.schema D.types D.dirs _ _ _ _ H T.a hkb).mono ?_;clear H;rintro e wb ⟨rfl,H⟩;have:=H.c 0 0))
   replace H:=H.sub (Qai _ (Qam _));go_ret;exact ⟨K5,by rw [HR.out];rfl,hK,H⟩
  ·have hb0':(kb==0)=false:=by simp [hb0]
   have HW2:=hide (HW.out.trans (if_neg (fun h=>h.elim ha0 hb0)));clear HW;have:=H.c 0 0;have tk7:True:=trivial
   go_upto_region 4 with (first
    |(go_at_call 79;have tk_:=tk7;clear tk_ tk7;have tk8:True:=trivial;refine (y1d a _ g5_1 ga gd gf go sch VT VD D.schema D.types D.dirs _ _ _ _ H T.a hka).mono ?_;clear H;rintro e wa ⟨rfl,H⟩;have:=H.c 0 0)
    |(go_at_call 79;have tk_:=tk8;clear tk_ tk8;refine (y1d b _ g5_1 ga gd gf go sch VT VD D.schema D.types D.dirs _ _ _ _ H T.a hkb).mono ?_;clear H;rintro e wb ⟨rfl,H⟩;have:=H.c 0 0))
   by_cases hab:a=b
   ·have HR:=hide (HW2.out.trans (if_pos hab))
    have hab':((str a).toList==(str b).toList)=true:=by rw [hst];exact Qa5 hab
    clear hst;have:=H.c 0 0
    go_wp2_with fail
    replace H:=H.sub (Qai _ (Qam _));go_ret;exact ⟨K5,by rw [HR.out];rfl,hK,H⟩
   ·have HW3:=hide (HW2.out.trans (if_neg hab))
    have hab':((str a).toList==(str b).toList)=false:=by rw [hst];exact Qa4 hab
    clear hst HW2;have cb:(wb).cell? ⟨g5,0,none⟩=some (.string (str b)):=H.cell (i:=0) rfl rfl
    go_upto_region 6 with (fail)
    by_cases h5:kb=5
    ·subst h5;have HR:=hide (HW3.out.trans (if_pos rfl));obtain ⟨mv,hmv⟩:=x6m OB go b a;have:=H.c 0 0
     go_upto_region 7 with (first
      |(go_at_call 79;refine (y1d b _ g5_1 ga gd gf go sch VT VD D.schema D.types D.dirs _ _ _ _ H T.a hkb).mono ?_;clear H;rintro e wb ⟨rfl,H⟩;have:=H.c 0 0))
     have h22:=H.kcell T.a.box T.a.c22;have:=H.c 0 0;have hr1:=fun k=>(hmv ((wb).drewN k) (T.objects.sat (H.drew k).sat) (fun p hp=>(T.sets p hp).sat (H.drew k).sat)).1;have hr2:=fun k=>(hmv ((wb).drewN k) (T.objects.sat (H.drew k).sat) (fun p hp=>(T.sets p hp).sat (H.drew k).sat)).2
     go_quiet (fail)
     replace H:=H.drew nq;obtain ⟨w10,hq11⟩: ∃x,(wb).drewN nq=x:=⟨_,rfl⟩;rw [hq11] at H ⊢;clear hq11;replace H:Hp _ _ _ (_::M):=H
     go_wp2_with fail
     replace H:=H.sub (Qai _ (Qam _));go_ret;exact ⟨K5,by rw [HR.out,T.om];rfl,hK,H⟩
    ·have HW4:=hide (HW3.out.trans (if_neg h5));clear HW3
     have h5':(kb==5)=false:=by simp [h5]
     have cb1:(wb).cell? ⟨g5,0,none⟩=some (.string (str b)):=H.cell (i:=0) rfl rfl;have:=H.c 0 0
     go_upto_region 9 with (first
      |(go_at_call 79;refine (y1d b _ g5_1 ga gd gf go sch VT VD D.schema D.types D.dirs _ _ _ _ H T.a hkb).mono ?_;clear H;rintro e wb ⟨rfl,H⟩;have:=H.c 0 0))
     by_cases h4:kb=4
     ·subst h4;by_cases ha3:ka=3
      ·subst ha3;have HR:=hide (HW4.out.trans (if_neg (by simp)));have:=H.c 0 0;have tk13:True:=trivial
       go_upto_region 11 with (first
        |(go_at_call 79;have tk_:=tk13;clear tk_ tk13;have tk14:True:=trivial;refine (y1d b _ g5_1 ga gd gf go sch VT VD D.schema D.types D.dirs _ _ _ _ H T.a hkb).mono ?_;clear H;rintro e wb ⟨rfl,H⟩;have:=H.c 0 0)
        |(go_at_call 79;have tk_:=tk14;clear tk_ tk14;refine (y1d a _ g5_1 ga gd gf go sch VT VD D.schema D.types D.dirs _ _ _ _ H T.a hka).mono ?_;clear H;rintro e wa ⟨rfl,H⟩;have:=H.c 0 0))
       obtain ⟨i,d,hi,hd,hdk⟩:=z9x (ts:=D.types) (x:=a) (by rw [hka];omega);have hN:=hW.nT;have hdn:=y3h hd;have hif:=z4m d;have hlt:=y4x hi
       have hltI:(i:Int)<(D.types.length:Int):=by omega
       have hlk:=y8t hi hd;have hq:=y12 D.types a;rw [hi] at hq;replace hq:y0x (nmap (y0a D.types)) a=some (.int .i64 (i:Int)):=hq;have hTy:=T.a.types;obtain ⟨A,c,hVT,hc1,hc2⟩:=y4h hTy;have hcT:=T.a.c17;rw [hVT] at hTy;obtain ⟨ad,xs,hA,hxd,hxl,hatK⟩:=y2r (m:=17) (f:=defL) y0u hTy hd (by omega);subst hA;obtain ⟨B,O,hBO⟩:=y14 (m:=17) (f:=defL) y0u hTy (by omega) (by omega);subst hBO;obtain ⟨A6,c6,A7,c7,A8,c8,A9,c9,A10,c10,A11,c11,A12,c12,A14,c14,hcs,hfa,-,-,-,-,-,-,-⟩:=y0c hxd;subst hcs;subst hVT;rw [y24] at hatK;have hcI:=hatK.2 5 _ rfl;refine held.begin_ (fun w'=>w'.cell? ⟨g5_1,17,none⟩=some (.slice (some ⟨B,O,none⟩) D.types.length c)∧w'.cell? ⟨g5_1,18,none⟩=some (.map (some ga))∧w'.cell? ⟨B,O+i*17+(5+1),none⟩=some (.slice A6 d.ifaces.length c6)∧(Instr.lookup 87 (.map (some ga)) (.string (str a)) false).run Tryz.prog w'= .ok (.int .i64 (i:Int)) w') [] (by kernel_rfl) ?_;replace H:=H.drew1;obtain ⟨w15,hq16⟩: ∃x,(wa).drew=x:=⟨_,rfl⟩;rw [hq16] at H ⊢;clear hq16;have hS17:w15.cell? ⟨g5_1,17,none⟩=some (.slice (some ⟨B,O,none⟩) D.types.length c)∧w15.cell? ⟨g5_1,18,none⟩=some (.map (some ga))∧w15.cell? ⟨B,O+i*17+(5+1),none⟩=some (.slice A6 d.ifaces.length c6)∧(Instr.lookup 87 (.map (some ga)) (.string (str a)) false).run Tryz.prog w15= .ok (.int .i64 (i:Int)) w15:=⟨H.kcell T.a.box T.a.c17,H.kcell T.a.box T.a.c18,H.sat.cell hcI,(y0p Tryz.underlying87 (y08 Tryz.underlying9) (.int .i64 0) (y0j _) (H.kmap T.a.at_) a false).trans (by rw [hq];rfl)⟩;refine tk 0 hS17 ?_;refine tk 1 hS17 ?_;refine tk 2 hS17 ?_;refine tk 3 hS17 ?_;refine tk 4 hS17 ?_;refine tk 5 hS17 ?_;refine tk 6 hS17 ?_;refine tk 7 hS17 ?_;refine tk 8 hS17 ?_;refine tk 9 hS17 ?_;refine tk 10 hS17 ?_;refine tk 11 hS17 ?_;refine tk 12 hS17 ?_;refine tk 13 hS17 ?_;refine held.step (i:=14) (by kernel_rfl) rfl (fun Kq hKq=>?_)
       go_simp
       refine (x3y d.ifaces b g5 0 d.ifaces.length c6 A6 _ _ _ _ H rfl rfl hfa (by omega)).mono ?_;clear H;rintro e wz ⟨rfl,H⟩;replace H:Hp _ _ _ (_::M):=H
       try go_simp
       have hS18:wz.cell? ⟨g5_1,17,none⟩=some (.slice (some ⟨B,O,none⟩) D.types.length c)∧wz.cell? ⟨g5_1,18,none⟩=some (.map (some ga))∧wz.cell? ⟨B,O+i*17+(5+1),none⟩=some (.slice A6 d.ifaces.length c6)∧(Instr.lookup 87 (.map (some ga)) (.string (str a)) false).run Tryz.prog wz= .ok (.int .i64 (i:Int)) wz:=⟨H.kcell T.a.box T.a.c17,H.kcell T.a.box T.a.c18,H.sat.cell hcI,(y0p Tryz.underlying87 (y08 Tryz.underlying9) (.int .i64 0) (y0j _) (H.kmap T.a.at_) a false).trans (by rw [hq];rfl)⟩;refine hKq.out _ _ (fun _=>hS18) (fun _=>?_);clear hKq Kq;refine tk 15 hS18 ?_;refine held.done (by kernel_rfl) ?_ _
       go_wp2_with fail
       replace H:=H.sub (Qai _ (Qam _));go_ret;exact ⟨by rw [HR.out,hlk];rfl,K5,hK,H⟩
      ·have ha3':(ka !=3)=true:=by simp [ha3]
       have ha3'':(ka==3)=false:=by simp [ha3]
       by_cases ha4:ka=4
       ·subst ha4;have HR:=hide (HW4.out.trans (if_neg (by simp)));have:=H.c 0 0;have tk19:True:=trivial
        go_upto_region 11 with (first
         |(go_at_call 79;have tk_:=tk19;clear tk_ tk19;have tk20:True:=trivial;refine (y1d b _ g5_1 ga gd gf go sch VT VD D.schema D.types D.dirs _ _ _ _ H T.a hkb).mono ?_;clear H;rintro e wb ⟨rfl,H⟩;have:=H.c 0 0)
         |(go_at_call 79;have tk_:=tk20;clear tk_ tk20;have tk21:True:=trivial;refine (y1d a _ g5_1 ga gd gf go sch VT VD D.schema D.types D.dirs _ _ _ _ H T.a hka).mono ?_;clear H;rintro e wa ⟨rfl,H⟩;have:=H.c 0 0)
         |(go_at_call 79;have tk_:=tk21;clear tk_ tk21;refine (y1d a _ g5_1 ga gd gf go sch VT VD D.schema D.types D.dirs _ _ _ _ H T.a hka).mono ?_;clear H;rintro e wa ⟨rfl,H⟩;have:=H.c 0 0))
        obtain ⟨i,d,hi,hd,hdk⟩:=z9x (ts:=D.types) (x:=a) (by rw [hka];omega);have hN:=hW.nT;have hdn:=y3h hd;have hif:=z4m d;have hlt:=y4x hi
        have hltI:(i:Int)<(D.types.length:Int):=by omega
        have hlk:=y8t hi hd;have hq:=y12 D.types a;rw [hi] at hq;replace hq:y0x (nmap (y0a D.types)) a=some (.int .i64 (i:Int)):=hq;have hTy:=T.a.types;obtain ⟨A,c,hVT,hc1,hc2⟩:=y4h hTy;have hcT:=T.a.c17;rw [hVT] at hTy;obtain ⟨ad,xs,hA,hxd,hxl,hatK⟩:=y2r (m:=17) (f:=defL) y0u hTy hd (by omega);subst hA;obtain ⟨B,O,hBO⟩:=y14 (m:=17) (f:=defL) y0u hTy (by omega) (by omega);subst hBO;obtain ⟨A6,c6,A7,c7,A8,c8,A9,c9,A10,c10,A11,c11,A12,c12,A14,c14,hcs,hfa,-,-,-,-,-,-,-⟩:=y0c hxd;subst hcs;subst hVT;rw [y24] at hatK;have hcI:=hatK.2 5 _ rfl;refine held.begin_ (fun w'=>w'.cell? ⟨g5_1,17,none⟩=some (.slice (some ⟨B,O,none⟩) D.types.length c)∧w'.cell? ⟨g5_1,18,none⟩=some (.map (some ga))∧w'.cell? ⟨B,O+i*17+(5+1),none⟩=some (.slice A6 d.ifaces.length c6)∧(Instr.lookup 87 (.map (some ga)) (.string (str a)) false).run Tryz.prog w'= .ok (.int .i64 (i:Int)) w') [] (by kernel_rfl) ?_;replace H:=H.drew1;obtain ⟨w22,hq23⟩: ∃x,(wa).drew=x:=⟨_,rfl⟩;rw [hq23] at H ⊢;clear hq23;have hS24:w22.cell? ⟨g5_1,17,none⟩=some (.slice (some ⟨B,O,none⟩) D.types.length c)∧w22.cell? ⟨g5_1,18,none⟩=some (.map (some ga))∧w22.cell? ⟨B,O+i*17+(5+1),none⟩=some (.slice A6 d.ifaces.length c6)∧(Instr.lookup 87 (.map (some ga)) (.string (str a)) false).run Tryz.prog w22= .ok (.int .i64 (i:Int)) w22:=⟨H.kcell T.a.box T.a.c17,H.kcell T.a.box T.a.c18,H.sat.cell hcI,(y0p Tryz.underlying87 (y08 Tryz.underlying9) (.int .i64 0) (y0j _) (H.kmap T.a.at_) a false).trans (by rw [hq];rfl)⟩;refine tk 0 hS24 ?_;refine tk 1 hS24 ?_;refine tk 2 hS24 ?_;refine tk 3 hS24 ?_;refine tk 4 hS24 ?_;refine tk 5 hS24 ?_;refine tk 6 hS24 ?_;refine tk 7 hS24 ?_;refine tk 8 hS24 ?_;refine tk 9 hS24 ?_;refine tk 10 hS24 ?_;refine tk 11 hS24 ?_;refine tk 12 hS24 ?_;refine tk 13 hS24 ?_;refine held.step (i:=14) (by kernel_rfl) rfl (fun Kq hKq=>?_)
        go_simp
        refine (x3y d.ifaces b g5 0 d.ifaces.length c6 A6 _ _ _ _ H rfl rfl hfa (by omega)).mono ?_;clear H;rintro e wz ⟨rfl,H⟩;replace H:Hp _ _ _ (_::M):=H
        try go_simp
        have hS25:wz.cell? ⟨g5_1,17,none⟩=some (.slice (some ⟨B,O,none⟩) D.types.length c)∧wz.cell? ⟨g5_1,18,none⟩=some (.map (some ga))∧wz.cell? ⟨B,O+i*17+(5+1),none⟩=some (.slice A6 d.ifaces.length c6)∧(Instr.lookup 87 (.map (some ga)) (.string (str a)) false).run Tryz.prog wz= .ok (.int .i64 (i:Int)) wz:=⟨H.kcell T.a.box T.a.c17,H.kcell T.a.box T.a.c18,H.sat.cell hcI,(y0p Tryz.underlying87 (y08 Tryz.underlying9) (.int .i64 0) (y0j _) (H.kmap T.a.at_) a false).trans (by rw [hq];rfl)⟩;refine hKq.out _ _ (fun _=>hS25) (fun _=>?_);clear hKq Kq;refine tk 15 hS25 ?_;refine held.done (by kernel_rfl) ?_ _
        go_wp2_with fail
        replace H:=H.sub (Qai _ (Qam _));go_ret;exact ⟨by rw [HR.out,hlk];rfl,K5,hK,H⟩
       ·have ha4':(ka !=4)=true:=by simp [ha4]
        have ha4'':(ka==4)=false:=by simp [ha4]
        have HR:=hide (HW4.out.trans (if_pos (.inr ⟨ha3,ha4⟩)));have:=H.c 0 0;have tk26:True:=trivial
        go_wp2_with (first
         |(go_at_call 79;have tk_:=tk26;clear tk_ tk26;have tk27:True:=trivial;refine (y1d b _ g5_1 ga gd gf go sch VT VD D.schema D.types D.dirs _ _ _ _ H T.a hkb).mono ?_;clear H;rintro e wb ⟨rfl,H⟩;have:=H.c 0 0)
         |(go_at_call 79;have tk_:=tk27;clear tk_ tk27;have tk28:True:=trivial;refine (y1d a _ g5_1 ga gd gf go sch VT VD D.schema D.types D.dirs _ _ _ _ H T.a hka).mono ?_;clear H;rintro e wa ⟨rfl,H⟩;have:=H.c 0 0)
         |(go_at_call 79;have tk_:=tk28;clear tk_ tk28;refine (y1d a _ g5_1 ga gd gf go sch VT VD D.schema D.types D.dirs _ _ _ _ H T.a hka).mono ?_;clear H;rintro e wa ⟨rfl,H⟩;have:=H.c 0 0))
        replace H:=H.sub (Qai _ (Qam _));go_ret;exact ⟨K5,by rw [HR.out];rfl,hK,H⟩
     ·have h4':(kb !=4)=true:=by simp [h4]
      have h4'':(kb==4)=false:=by simp [h4]
      have HR:=hide (HW4.out.trans (if_pos (.inl h4)));have:=H.c 0 0
      go_wp2_with (first
       |(go_at_call 79;refine (y1d b _ g5_1 ga gd gf go sch VT VD D.schema D.types D.dirs _ _ _ _ H T.a hkb).mono ?_;clear H;rintro e wb ⟨rfl,H⟩;have:=H.c 0 0))
      replace H:=H.sub (Qai _ (Qam _));go_ret;exact ⟨K5,by rw [HR.out];rfl,hK,H⟩
end Go.Proofs.YtbpgkkoeehopjaaGreat.hp
namespace Go.Proofs.YtbpgkkoeehopjaaGreat.hp
open Go.RowKit words enc tree gram lex rd dec dat held
section
variable {P : Program} {w0 w K K' : World} {M : List Ent} {ops : Array Oper} {rest : List Oper} {o : Oper} {a : Act} {Q : Exit → Act → World → Prop} {i b r t kt et : Nat}
theorem Hp.objSet (H:Hp w0 w K M) {o:Obj} (hi:M[i]?=some (.obj b o)) (o':Obj):Hp w0 (ChangeMaps.setBlock w b o') K (M.set i (.obj b o')):=by
 have hb:w.heap[b]?=some o:=H.ok _ (Qaf hi);have hlt:=(Qan.1 hb).1;refine H.setAt hi ⟨rfl,rfl,rfl,by simp [ChangeMaps.setBlock],fun k hk hne=>?_⟩ ?_ (.inl rfl)
 ·have hkb:b≠k:=fun e=>hne (by subst e;rfl);simp [ChangeMaps.setBlock,hkb]
 ·simp [Ent.ok,ChangeMaps.setBlock,hlt]
theorem Hp.allocObj (H:Hp w0 w K M) (o:Obj):Hp w0 (w.alloc o) K (.obj w.heap.size o::M):=
 H.cons (y4s ((Below.refl _ _).alloc (Qab _) _) none) (heap_alloc_new w _) (fun g h=>by simp only [Ent.blk,Option.some.injEq] at h;omega)
abbrev iter (r:Nat) (b:Nat) (n:Nat) (seen:Array Nat):Ent:=.obj r (.mapIter (some b) n seen n)
abbrev q6p (r:Nat):Ent:=.obj r (.mapIter none 0 #[] 0)
theorem q31 (hgd:o.guard=none) (t:TypeId) (x:Operand) (ho:o.op= .range t x) (ht:P.underlying t=some (.map kt et)) (b:Nat) (l:List (Value×Value)) (hb:w.heap[b]?=some (mobj l)) (hx:a.eval x= .map (some b)) (dst:Option Tmp) (hdst:o.dst=dst) (H:Hp w0 w K M)
  (h: ∀w' r,Hp w0 w' K (iter r b l.length #[]::M)→wpList P ops Q rest (a.put dst (.pointer (some ⟨r,0,none⟩))) w'):wpList P ops Q (o::rest) a w:=by
 subst hdst;refine wpList_plain hgd fun _ hK=>?_;have hrun:=run_range_map (P:=P) w t kt et b _ _ ht hb;unfold Oper.wp execOp;simp only [ho,hx,Sem.run_bind,hrun,Result.andThen_ok,Sem.run_pure];exact hK _ _ (h _ _ (H.allocObj _))
theorem z9y (hgd:o.guard=none) (t:TypeId) (x:Operand) (ho:o.op= .range t x) (ht:P.underlying t=some (.map kt et)) (hx:a.eval x= .map none) (dst:Option Tmp) (hdst:o.dst=dst) (H:Hp w0 w K M)
  (h: ∀w' r,Hp w0 w' K (q6p r::M)→wpList P ops Q rest (a.put dst (.pointer (some ⟨r,0,none⟩))) w'):wpList P ops Q (o::rest) a w:=by
 subst hdst;refine wpList_plain hgd fun _ hK=>?_;have hrun:=run_range_nilMap (P:=P) w t kt et ht;unfold Oper.wp execOp;simp only [ho,hx,Sem.run_bind,hrun,Result.andThen_ok,Sem.run_pure];exact hK _ _ (h _ _ (H.allocObj _))
theorem x19 (hgd:o.guard=none) (x:Operand) (ho:o.op= .next x false) (hx:a.eval x= .pointer (some ⟨r,0,none⟩)) (H:Hp w0 w K M) (i:Nat) (hi:M[i]?=some (q6p r))
  (h:wpList P ops Q rest (a.put o.dst (.tuple #[.bool false])) w):wpList P ops Q (o::rest) a w:=by
 refine wpList_plain hgd fun _ hK=>?_;have hr:w.heap[r]?=some (.mapIter none 0 #[] 0):=H.ok _ (Qaf hi)
 have hrun:(Instr.next (.pointer (some ⟨r,0,none⟩)) false o.type).run P w= .ok (.tuple #[.bool false]) w:=by
  simp only [Instr.next,getObj,Sem.run_bind,Sem.run,hr,Result.andThen];rfl
 unfold Oper.wp execOp;simp only [ho,hx,Sem.run_bind,hrun,Result.andThen_ok,Sem.run_pure];exact hK _ _ h
theorem x6n (l:List (Value×Value)):(y2w l).map (·.born)=List.range l.length:=by
 unfold y2w;rw [List.map_map];apply Qbz;intro j;rcases Qbm j l.length with h|h
 ·simp [h,List.getElem?_range,Qad]
 ·simp [h]
theorem z9z {l:List (Value×Value)} {e:MapEntry} (h:e∈y2w l): ∃p,l[e.born]?=some p∧e.key=p.1∧e.val=p.2:=by
 unfold y2w at h;rw [Qbe] at h;obtain ⟨⟨p,k⟩,hp,rfl⟩:=h;rw [Qb1] at hp;exact ⟨p,hp,rfl,rfl⟩
theorem q6q (hgd:o.guard=none) (x:Operand) (ho:o.op= .next x false) (hx:a.eval x= .pointer (some ⟨r,0,none⟩)) (H:Hp w0 w K M) (i:Nat) (b:Nat) (l:List (Value×Value)) (seen:Array Nat) (hi:M[i]?=some (iter r b l.length seen)) (hb:w.heap[b]?=some (mobj l))
  (h1:(∀k,k<l.length→k∈seen)→wpList P ops Q rest (a.put o.dst (.tuple #[.bool false])) w)
  (h2: ∀k p w',l[k]?=some p→k∉seen→Hp w0 w' K (M.set i (iter r b l.length (seen.push k)))→wpList P ops Q rest (a.put o.dst (.tuple #[.bool true,p.1,p.2])) w'):wpList P ops Q (o::rest) a w:=by
 refine wpList_plain hgd fun _ hK=>?_;have hr:w.heap[r]?=some (.mapIter (some b) l.length seen l.length):=H.ok _ (Qaf hi)
 have hold: ∀x∈(y2w l).toArray.toList,x.born<l.length:=fun x hx=>by
  obtain ⟨p,hp,_⟩:=z9z (show x∈y2w l from hx);exact (Qac.1 hp).1
 rcases run_next_at (P:=P) w o.type r b l.length l.length seen (y2w l).toArray l.length hr hb hold (Qab _) with ⟨h0,hrun⟩|⟨e,he,w1,hw1,hrun⟩
 ·unfold Oper.wp execOp;simp only [ho,hx,Sem.run_bind,hrun,Result.andThen_ok,Sem.run_pure];refine hK _ _ (h1 fun k hk=>?_);refine Qbl fun hn=>?_;have hlen:(leftOf (y2w l).toArray seen)= #[]:=Array.eq_empty_of_size_eq_zero h0;unfold leftOf at hlen;rw [Array.filter_eq_empty_iff] at hlen;obtain ⟨p,hp⟩: ∃p,l[k]?=some p:=⟨_,Qad hk⟩
  have:=hlen {key:=p.1,val:=p.2,born:=k} (by
   simp only [List.mem_toArray,y2w,Qbe]
   exact ⟨(p,k),Qb1.2 hp,rfl⟩)
  simp at this;exact hn this
 ·obtain ⟨hm,hc⟩:=mem_left he;obtain ⟨p,hp,hk,hv⟩:=z9z (show e∈y2w l from hm);unfold Oper.wp execOp;simp only [ho,hx,Sem.run_bind,hrun,Result.andThen_ok,Sem.run_pure,hk,hv];refine hK _ _ (h2 e.born p _ hp (fun hin=>?_) ?_)
  ·have:=Array.contains_iff_mem.2 hin;rw [this] at hc;cases hc
  ·rcases hw1 with rfl|rfl
   ·exact H.objSet hi _
   ·exact H.drew1.objSet hi _
theorem q32 (hgd:o.guard=none) (x:Operand) (ho:o.op= .entry x) (hx:a.eval x= .pointer (some ⟨r,0,none⟩)) (H:Hp w0 w K M) (i:Nat) (b:Nat) (l:List (Value×Value)) (seen:Array Nat) (k:Nat) (p:Value×Value) (hi:M[i]?=some (iter r b l.length (seen.push k))) (hb:w.heap[b]?=some (mobj l)) (hp:l[k]?=some p)
  (h:wpList P ops Q rest (a.put o.dst (.tuple #[p.1,p.2])) w):wpList P ops Q (o::rest) a w:=by
 refine wpList_plain hgd fun _ hK=>?_;have hr:w.heap[r]?=some (.mapIter (some b) l.length (seen.push k) l.length):=H.ok _ (Qaf hi)
 have hrun:=run_entry_at (P:=P) w r b l.length seen (y2w l).toArray l.length {key:=p.1,val:=p.2,born:=k} hr hb (by
  simp only [y2w,Qbe]
  exact ⟨(p,k),Qb1.2 hp,rfl⟩) (by
  show ((y2w l).map (·.born)).Nodup
  rw [x6n];exact List.nodup_range)
 unfold Oper.wp execOp;simp only [ho,hx,Sem.run_bind,hrun,Result.andThen_ok,Sem.run_pure];exact hK _ _ h
end
open ty
set_option maxRecDepth 100000
attribute [local go_sem ↓] Go.wp_at_zero Go.wp_at_succ
theorem z7s: ∀(n:Nat) (l:List Nat),l.Nodup→(∀x∈l,x<n)→l.length≤n
 |0,l,_,h=>by
  cases l with
  |nil=>exact Qab _
  |cons a r=>exact absurd (h a (Qaz ..)) (Nat.not_lt_zero _)
 |n+1,l,hn,h=>by
  have h1:(l.erase n).length≤n:=z7s n (l.erase n) (hn.erase n) (fun x hx=>by
   have hm:=(List.Nodup.mem_erase_iff hn).1 hx;have:=h x hm.2;have:=hm.1
   omega)
  have h2:l.length≤(l.erase n).length+1:=by
   rw [List.length_erase];split<;>omega
  omega
def q6r (w:World) (r:Nat):Nat:=match w.heap[r]? with|some (.mapIter _ _ s _)=>s.size|_=>0
theorem z90 {w0 w K:World} {M:List Ent} {r b n:Nat} {s:Array Nat} (H:Hp w0 w K (iter r b n s::M)):q6r w r=s.size:=by
 have h:w.heap[r]?=some (.mapIter (some b) n s n):=H.ok _ (Qaz ..);unfold q6r;rw [h]
def SeenOk (n:Nat) (s:Array Nat):Prop:=s.toList.Nodup∧ ∀k∈s.toList,k<n
theorem SeenOk.push {n:Nat} {s:Array Nat} {k:Nat} (h:SeenOk n s) (hk:k<n) (hn:k∉s):SeenOk n (s.push k):=by
 refine ⟨?_,?_⟩
 ·rw [Array.toList_push,Qbr];refine ⟨h.1,by simp,fun a ha b hb he=>?_⟩;obtain rfl:=Qax.1 hb;subst he;exact hn (by simpa using ha)
 ·intro x hx;rw [Array.toList_push] at hx;rcases Qbf.1 hx with hx|hx
  ·exact h.2 x hx
  ·obtain rfl:=Qax.1 hx;exact hk
theorem SeenOk.le {n:Nat} {s:Array Nat} (h:SeenOk n s):s.size≤n:=by
 have:=z7s n s.toList h.1 h.2;simpa using this
theorem z1r {P:Program} {w:World} {ops:Array Oper} {rest:List Oper} {o:Oper} {a:Act} {Q:Exit→Act→World→Prop} (hgd:o.guard=none) (m x:Operand) (t:TypeId) (c:Bool) (ho:o.op= .lookup t m x c) {mv xv r:Value} (hm:a.eval m=mv) (hx:a.eval x=xv) (hrun:(Instr.lookup t mv xv c).run P w= .ok r w)
  (h:wpList P ops Q rest (a.put o.dst r) w):wpList P ops Q (o::rest) a w:=by
 refine wpList_plain hgd fun _ hK=>?_;unfold Oper.wp execOp;simp only [ho,hm,hx,Sem.run_bind,hrun,Result.andThen_ok,Sem.run_pure];exact hK _ _ h
theorem q33 {κ:Type} {kv:κ→Value} {l:List (κ×Value)} {k:Nat} {p:Value×Value} (h:(y00 kv l)[k]?=some p): ∃q,l[k]?=some q∧p=(kv q.1,q.2):=by
 unfold y00 at h;rw [Qb0] at h
 cases hq:l[k]? with
 |none=>rw [hq] at h;cases h
 |some q=>rw [hq] at h;injection h with h;exact ⟨q,rfl,h.symm⟩
end Go.Proofs.YtbpgkkoeehopjaaGreat.hp
namespace Go.Proofs
open Go.Shelf
def Tryz.laysSlF6_f67_ren:Go.Shelf.Ren:=⟨fun|6=>67|15=>118|14=>117|28=>163|29=>164|20=>155|21=>156|22=>157|23=>158|24=>159|25=>160|26=>161|27=>162|46=>181|47=>182|48=>183|49=>184|50=>185|57=>199|n=>n,fun|22=>27|24=>9|25=>104|3=>3|39=>168|0=>0|53=>216|55=>218|4=>4|46=>210|45=>209|50=>93|5=>5|9=>9|66=>236|70=>240|76=>249|77=>250|n=>n,fun|n=>n⟩
theorem Tryz.laysSlF6_f67:Go.Proofs.SlLaysF.n6 Tryz.prog Tryz.laysSlF6_f67_ren:={
 mixed:=by kernel_rfl
 f6:=⟨Tryz.f67.name,by decide,Tryz.func67.trans (congrArg some (by kernel_rfl))⟩
 f14:=⟨Tryz.f117.name,by decide,Tryz.func117.trans (congrArg some (by kernel_rfl))⟩
 f15:=Tryz.func118.trans (congrArg some (by kernel_rfl))
 f20:=⟨Tryz.f155.name,by decide,Tryz.func155.trans (congrArg some (by kernel_rfl))⟩
 f21:=⟨Tryz.f156.name,by decide,Tryz.func156.trans (congrArg some (by kernel_rfl))⟩
 f22:=⟨Tryz.f157.name,by decide,Tryz.func157.trans (congrArg some (by kernel_rfl))⟩
 f23:=⟨Tryz.f158.name,by decide,Tryz.func158.trans (congrArg some (by kernel_rfl))⟩
 f24:=⟨Tryz.f159.name,by decide,Tryz.func159.trans (congrArg some (by kernel_rfl))⟩
 f25:=⟨Tryz.f160.name,by decide,Tryz.func160.trans (congrArg some (by kernel_rfl))⟩
 f26:=⟨Tryz.f161.name,by decide,Tryz.func161.trans (congrArg some (by kernel_rfl))⟩
 f27:=⟨Tryz.f162.name,by decide,Tryz.func162.trans (congrArg some (by kernel_rfl))⟩
 f28:=Tryz.func163.trans (congrArg some (by kernel_rfl))
 f29:=Tryz.func164.trans (congrArg some (by kernel_rfl))
 f46:=⟨Tryz.f181.name,by decide,Tryz.func181.trans (congrArg some (by kernel_rfl))⟩
 f47:=Tryz.func182.trans (congrArg some (by kernel_rfl))
 f48:=Tryz.func183.trans (congrArg some (by kernel_rfl))
 f49:=⟨Tryz.f184.name,by decide,Tryz.func184.trans (congrArg some (by kernel_rfl))⟩
 f50:=⟨Tryz.f185.name,by decide,Tryz.func185.trans (congrArg some (by kernel_rfl))⟩
 f57:=⟨Tryz.f199.name,by decide,Tryz.func199.trans (congrArg some (by kernel_rfl))⟩
 t0:=Tryz.underlying0
 a0:=Tryz.isAgg0
 z0:=Tryz.sizeOf0
 v0:=Tryz.zeroValue0
 t3:=Tryz.underlying3
 a3:=Tryz.isAgg3
 z3:=Tryz.sizeOf3
 v3:=Tryz.zeroValue3
 t4:=Tryz.underlying4
 a4:=Tryz.isAgg4
 z4:=Tryz.sizeOf4
 v4:=Tryz.zeroValue4
 t5:=Tryz.underlying5
 a5:=Tryz.isAgg5
 z5:=Tryz.sizeOf5
 v5:=Tryz.zeroValue5
 t9:=Tryz.underlying9
 a9:=Tryz.isAgg9
 z9:=Tryz.sizeOf9
 v9:=Tryz.zeroValue9
 t22:=Tryz.underlying27
 a22:=Tryz.isAgg27
 z22:=Tryz.sizeOf27
 v22:=Tryz.zeroValue27
 a24:=Tryz.isAgg9
 z24:=Tryz.sizeOf9
 t25:=Tryz.underlying104
 a25:=Tryz.isAgg104
 z25:=Tryz.sizeOf104
 v25:=Tryz.zeroValue104
 t39:=Tryz.underlying168
 a39:=Tryz.isAgg168
 z39:=Tryz.sizeOf168
 v39:=Tryz.zeroValue168
 t45:=Tryz.underlying209
 a45:=Tryz.isAgg209
 z45:=Tryz.sizeOf209
 v45:=Tryz.zeroValue209
 t46:=Tryz.underlying210
 a46:=Tryz.isAgg210
 z46:=Tryz.sizeOf210
 v46:=Tryz.zeroValue210
 t50:=Tryz.underlying93
 a50:=Tryz.isAgg93
 z50:=Tryz.sizeOf93
 v50:=Tryz.zeroValue93
 t53:=Tryz.underlying216
 a53:=Tryz.isAgg216
 z53:=Tryz.sizeOf216
 v53:=Tryz.zeroValue216
 t55:=Tryz.underlying218
 a55:=Tryz.isAgg218
 z55:=Tryz.sizeOf218
 v55:=Tryz.zeroValue218
 t66:=Tryz.underlying236
 a66:=Tryz.isAgg236
 z66:=Tryz.sizeOf236
 v66:=Tryz.zeroValue236
 t70:=Tryz.underlying240
 a70:=Tryz.isAgg240
 z70:=Tryz.sizeOf240
 v70:=Tryz.zeroValue240
 t76:=Tryz.underlying249
 a76:=Tryz.isAgg249
 z76:=Tryz.sizeOf249
 v76:=Tryz.zeroValue249
 t77:=Tryz.underlying250
 a77:=Tryz.isAgg250
 z77:=Tryz.sizeOf250
 v77:=Tryz.zeroValue250}
open Go.RowKit Go.Lib Go.Sort in
theorem Tryz.slices_SortFunc {α:Type} [Inhabited α] (enc:α→Value) (h1:OneCell enc) (cf:α→α→Int) (hO:SWO (ltOf cf)) (g:Nat) (cb:Array Value) (blk off cap:Nat) (d:Array α) (w:World) (eg: ∀args w,(callFunc g args).run Tryz.prog w= .ok (.enter g args) w) (hcmp:CmpLays1 Tryz.prog g cb enc cf blk off d.size w) (hH:Holds enc w blk off d) (hblk:blk<w.heap.size) (hsz:d.size<4611686018427387904):
  Calls Tryz.prog 67 #[.slice (some ⟨blk,off,none⟩) d.size cap,.func (.func g) #[] cb] w fun e w'=>
   e= .returned (.tuple #[])∧ ∃d' n os,PermIn 0 d.size d d'∧SortedIn (ltOf cf) 0 d.size d'∧w'=sortWorld enc w blk off n d' os:=Any.slices_SortFunc Tryz.laysSlF6_f67 enc h1 cf hO g cb blk off cap d w eg hcmp hH hblk hsz
end Go.Proofs
namespace Go.Proofs.YtbpgkkoeehopjaaGreat.hp
open Go.RowKit words enc tree gram lex rd dec dat held ty
section
variable {w0 w K : World} {M : List Ent} {enc : Txt → Value}
theorem x30 (w:World) (os:Array Obj) {k:Nat} (h:k<w.heap.size):(Go.Sort.grow w os).heap[k]?=w.heap[k]?:=by
 show (w.heap++os)[k]?=_
 rw [Array.getElem?_append_left h]
theorem x31 (w:World) (blk off n:Nat) (d:Array Txt) (os:Array Obj) {k:Nat} (h:k<w.heap.size) (hb:k≠blk):(sortWorld enc w blk off n d os).heap[k]?=w.heap[k]?:=by
 unfold sortWorld;rw [x30 _ _ (by simpa using h)]
 show ((w.heap).modify blk _)[k]?=_
 rw [Array.getElem?_modify,if_neg (Ne.symm hb)]
theorem z91 (w:World) (blk off n:Nat) (d:Array Txt) (os:Array Obj):w.heap.size≤(sortWorld enc w blk off n d os).heap.size:=by
 unfold sortWorld
 show _≤((Go.Sort.putRow enc (Go.Sort.ahead w n) blk off d).heap++os).size
 rw [Array.size_append];have:=Go.Sort.size_putRow enc (Go.Sort.ahead w n) blk off d;have h2:(Go.Sort.ahead w n).heap.size=w.heap.size:=rfl;omega
theorem x6o (w:World) (blk off n:Nat) (d:Array Txt) (os:Array Obj):w.grownBy (sortWorld enc w blk off n d os) (some blk):=
 ⟨rfl,rfl,rfl,z91 w blk off n d os,fun k hk hne=>x31 w blk off n d os hk (fun e=>hne (by rw [e]))⟩
theorem q34 (d:Array Txt) (cur:Array Value) (h:d.size≤cur.size):(Go.Sort.putCells enc 0 d cur).toList.take d.size=d.toList.map enc:=by
 apply Qbz;intro j;rw [Qbb,Qb0,Array.getElem?_toList,Array.getElem?_toList];unfold Go.Sort.putCells;split
 ·rename_i hj;have hj:j<d.size:=hj
  have hj2:j<cur.size:=by omega
  rw [Array.getElem?_mapIdx,Qbq hj2,Qbq hj];simp only [Option.map_some,Qak,Nat.zero_add,hj,and_self,if_true,Nat.sub_zero];rw [getElem!_pos d j hj]
 ·rename_i hj;have hj: ¬j<d.size:=hj;rw [Array.getElem?_eq_none (by omega)];rfl
theorem Hp.sorted {m c blk:Nat} {vs:List Value} (H:Hp w0 w K (.row 9 1 (.slice (some ⟨blk,0,none⟩) m c) m vs::M)) (n:Nat) (d:Array Txt) (os:Array Obj) (hd:d.size=m):
  Hp w0 (sortWorld enc w blk 0 n d os) K (.row 9 1 (.slice (some ⟨blk,0,none⟩) m c) m (d.toList.map enc)::M):=by
 have ho:w.ownsRow 0 9 1 (.slice (some ⟨blk,0,none⟩) m c) m vs:=H.ok _ (Qaz ..);refine H.setAt (i:=0) rfl (x6o w blk 0 n d os) ?_ (.inl rfl);rcases ho.2 with ⟨h,_⟩|⟨g',c',cur,he,hb0,hb,h1,h2,h3,h4⟩
 ·cases h
 ·injection he with e1 _ e3;injection e1 with e1;injection e1 with e1;subst e1 e3;have hlt:=(Qan.1 hb).1;refine ⟨by rw [Qay,Array.length_toList,hd,Nat.mul_one],.inr ⟨blk,c,Go.Sort.putCells enc 0 d cur,rfl,hb0,?_,h1,h2,?_,?_⟩⟩
  ·unfold sortWorld;rw [x30 _ _ (by simpa using hlt)]
   show ((w.heap).modify blk _)[blk]?=_
   rw [Array.getElem?_modify,if_pos rfl,hb];rfl
  ·unfold Go.Sort.putCells;simpa using h3
  ·rw [Nat.mul_one,←hd];exact q34 d cur (by rw [h3];omega)
theorem q6s (f:Txt→Int):Go.Sort.SWO (ltOf fun x y=>f x - f y):=by
 refine ⟨fun x=>?_,fun x y z h1 h2=>?_,fun x y z h1 h2=>?_⟩
 ·simp [ltOf]
 ·simp only [ltOf,decide_eq_true_eq] at*;omega
 ·simp only [ltOf,decide_eq_false_iff_not] at*;omega
theorem q6t {m c blk g:Nat} {cb:Array Value} {l:List Txt} (f:Txt→Int) (H:Hp w0 w K (.row 9 1 (.slice (some ⟨blk,0,none⟩) m c) m (l.map ks)::M)) (hl:l.length=m) (hm:m≤20000000)
  (eg: ∀args w,(callFunc g args).run Tryz.prog w= .ok (.enter g args) w)
  (hcmp: ∀W,W.heap.size≥w.heap.size→(∀k,k<w.heap.size→k≠blk→W.heap[k]?=w.heap[k]?)→ ∀x y:Txt,Calls Tryz.prog g (#[ks x,ks y]++cb) W fun e w'=>e= .returned (.int .i64 (f x - f y))∧w'=W):
  Calls Tryz.prog 67 #[.slice (some ⟨blk,0,none⟩) m c,.func (.func g) #[] cb] w fun e w'=>e= .returned (.tuple #[])∧ ∃l':List Txt,l'.Perm l∧l'.Pairwise (fun a b=>f a≤f b)∧Hp w0 w' K (.row 9 1 (.slice (some ⟨blk,0,none⟩) m c) m (l'.map ks)::M):=by
 have hds:l.toArray.size=m:=by simpa using hl
 have hblk:blk<w.heap.size:=H.lt (i:=0) rfl rfl
 have hH:Go.Sort.Holds ks w blk 0 l.toArray:=by
  intro j hj;rw [hds] at hj
  have hjl:j<l.length:=by omega
  rw [Nat.zero_add];refine ⟨H.rowCell (i:=0) rfl ?_,H.rowFrozen (i:=0) rfl j⟩;rw [Qb0,Qad hjl,getElem!_pos l.toArray j (by simpa using hjl)];rfl
 have hc:CmpLays1 Tryz.prog g cb ks (fun x y=>f x - f y) blk 0 l.toArray.size w:=by
  intro n os dk hdk x y;refine (hcmp (sortWorld ks w blk 0 n dk os) (z91 ..) (fun k hk hb=>x31 w blk 0 n dk os hk hb) x y).mono ?_;rintro e w' ⟨he,rfl⟩;exact ⟨he,0, #[],by simp [Go.Sort.grow_empty,World.drewN]⟩
 have h:=Tryz.slices_SortFunc ks (fun _=>rfl) (fun x y=>f x - f y) (q6s f) g cb blk 0 c l.toArray w eg hc hH hblk (by rw [hds];omega);rw [hds] at h;refine h.mono ?_;rintro e w' ⟨he,d',n,os,hp,hs,rfl⟩;have hd':d'.size=m:=hp.1.trans hds
 have hperm:d'.toList.Perm l:=by
  have:=hp.2.2
  have e1:(d'.extract 0 m).toList=d'.toList:=by rw [←hd',Array.extract_size]
  have e2:(l.toArray.extract 0 m).toList=l:=by rw [←hds,Array.extract_size]
  rw [e1,e2] at this;exact this
 refine ⟨he,d'.toList,hperm,?_,H.sorted n d' os hd'⟩;rw [List.pairwise_iff_getElem];intro i j hi hj hij
 have hi':i<d'.size:=by simpa using hi
 have hj':j<d'.size:=by simpa using hj
 have:=hs i j (Qak _) hij (by omega);simp only [ltOf,decide_eq_false_iff_not] at this;rw [getElem!_pos d' j hj',getElem!_pos d' i hi'] at this;simp only [Array.getElem_toList];omega
theorem z92 (v:Value) (c:Nat) (p:Option Addr) (w:World):Calls Tryz.prog 67 #[.slice p 0 c,v] w fun e w'=>e= .returned (.tuple #[])∧w'=w:=
 AnyF.slices_SortFunc_none {Tryz.laysSlF6_f67 with} p c v w
end
end Go.Proofs.YtbpgkkoeehopjaaGreat.hp
