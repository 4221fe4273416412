/- Part 12 of a proof: see the text that holds the statement. -/
import Derived.Test.YtbpgkkoeehopjaaGreatP9
import Derived.Test.YtbpgkkoeehopjaaGreatP10
import Derived.Test.YtbpgkkoeehopjaaGreatP11
import Derived.Deep.QuietTactic
import Derived.BigQuiet
import Derived.Laws.ResultCell
import Derived.Maps.RangeRun
set_option linter.unusedVariables false
set_option linter.unusedSimpArgs false
namespace Go.Proofs.YtbpgkkoeehopjaaGreat.hp
open Go.RowKit words enc tree gram lex rd dec dat held ty
set_option maxRecDepth 100000
attribute [local go_sem ↓] Go.wp_at_zero Go.wp_at_succ
def BldP (D:TysD) (w0 K:World) (M:List Ent) (e:Ending) (w':World):Prop:=
 ∃K' g,e= .returned (.pointer (some ⟨g,0,none⟩))∧Sat K' K∧Hp w0 w' K' M∧TysK K' g D
set_option maxHeartbeats 64000000 in
theorem y7p (defs:List DefD) (n c:Nat) (A:Option Addr) (w0 w K:World) (M:List Ent) (H:Hp w0 w K M) (hn:defs.length=n) (hd:RD K (.list n (y0s defs)) (.slice A n c)) (hm:y0k defs≤3000000):
  Calls Tryz.prog 14 #[.slice A n c] w (BldP (y0w defs) w0 K M):=by
 have hnl:n≤3000000:=by have:=y0x y3m defs;unfold y0k at hm;omega
 have HN:=hide hn;clear hn;have hsz:(Tryz.prog.info? 43).map (·.size)=some 17:=y4u;have hgl:=hide x3s;have hrl:=hide z5u;go_enter Tryz.func14,Tryz.ntmps14;have hK:=Sat.refl K
 go_upto_region 2 with (first
  |(refine y3i (by rfl) 87 (by rfl) (some 28) (by rfl) H ?_;clear H;intro w1 b28 H;replace H:Hp _ _ _ (.map b28 (y0o ks [])::_):=H)
  |(refine y3i (by rfl) 87 (by rfl) (some 29) (by rfl) H ?_;clear H;intro w2 b29 H;replace H:Hp _ _ _ (.map b29 (y0o ks [])::_):=H)
  |(refine y3i (by rfl) 88 (by rfl) (some 30) (by rfl) H ?_;clear H;intro w3 b30 H;replace H:Hp _ _ _ (.map b30 (y0o ks [])::_):=H)
  |(refine y3i (by rfl) 89 (by rfl) (some 31) (by rfl) H ?_;clear H;intro w4 b31 H;replace H:Hp _ _ _ (.map b31 (y0o ks [])::_):=H)
  |(refine z0y (by rfl) 91 (.tmp 32) (by rfl) [.int .i64 0,.bool false,.bool false,.bool false,.string ⟨#[]⟩,.string ⟨#[]⟩,.slice none 0 0,.slice none 0 0,.slice none 0 0,.slice none 0 0,.slice none 0 0,.slice none 0 0,.slice none 0 0,.bool false,.slice none 0 0,.int .i64 0,.int .i64 0,.slice none 0 0,.map (some b28),.slice none 0 0,.map (some b29),.map (some b30),.map (some b31)] _ (by rfl) (by rfl) (some 33) (by rfl) H ?_;clear H;intro w5 g33 H hg6;clear hg6))
 go_upto_region 3 with (first
  |(go_at_call 56;refine (q63 _ _ _ _ H).mono ?_;clear H;rintro e w5 ⟨K5,Ag,cg,rfl,hle,H,hgv⟩;replace hd:=hd.sat hle;replace hK:=hle.trans hK)
  |(go_at_call 57;refine (q64 _ _ _ _ H).mono ?_;clear H;rintro e w6 ⟨K6,Ad,cd,rfl,hle,H,hdv⟩;replace hd:=hd.sat hle;replace hgv:=hgv.sat hle;replace hK:=hle.trans hK))
 obtain ⟨M1,hM1⟩: ∃x,((.box g33 [.int .i64 0,.bool false,.bool false,.bool false,.string ⟨#[]⟩,.string ⟨#[]⟩,.slice none 0 0,.slice none 0 0,.slice none 0 0,.slice none 0 0,.slice none 0 0,.slice none 0 0,.slice none 0 0,.bool false,.slice none 0 0,.int .i64 0,.int .i64 0,.slice none 0 0,.map (some b28),.slice none 0 0,.map (some b29),.map (some b30),.map (some b31)] 91:: .map b31 (y0o ks []):: .map b30 (y0o ks []):: .map b29 (y0o ks []):: .map b28 (y0o ks [])::M))=x:=⟨_,rfl⟩;rw [hM1] at H
 go_upto_region 5 with (first
  |(refine y3i (by rfl) 87 (by rfl) (some 36) (by rfl) H ?_;clear H;intro w9 b36 H;replace H:Hp _ _ _ (.map b36 (y0o ks [])::_):=H)
  |(refine y3i (by rfl) 87 (by rfl) (some 37) (by rfl) H ?_;clear H;intro w10 b37 H;replace H:Hp _ _ _ (.map b37 (y0o ks [])::_):=H))
 go_wp2_with fail
 go_loopw [40] (fun i wr=>∃(k:Nat),k≤13∧i= .int .i64 k∧Hp w0 wr K6 (.map b37 []:: .map b36 (y0o ks (nmap ((y0a givenT).take k)))::M1)) (fun i _=>13 - (intOf i).toNat)
 case atStart=>exact ⟨0,Qak _,rfl,H⟩
 case round=>
  clear H;obtain ⟨k,hk,rfl,H⟩:=hrel;by_cases hlt:k<13
  ·have hkI:(k:Int)<(13:Int):=by omega
   as_aux_lemma=>
    obtain ⟨x,hx⟩: ∃x,givenT[k]?=some x:=⟨_,Qad (by rw [hgl.out];exact hlt)⟩;obtain ⟨ad,xs,had,hxd,hxl,hatK⟩:=y3d (m:=17) (f:=defL) y05 hgv hx (by omega);subst had;obtain ⟨A6,c6,A7,c7,A8,c8,A9,c9,A10,c10,A11,c11,A12,c12,A14,c14,hxs,-,-,-,-,-,-,-,-⟩:=y0c hxd;have hown:=x1b z7n hx;clear hx hxd;subst hxs
    go_upto_region 8 with (first
     |((with_reducible show wpList _ _ _ (_::_) _ _);refine y0d (by rfl) 43 (.tmp 43) (by rfl) (ad.add (k*17)) (by simp [Act.eval,Act.put]) _ _ (At.sat hatK H.sat) Tryz.underlying43 rfl hsz ?_)
     |((with_reducible refine isL ?_);first
      |(refine al z43 9 H ?_;clear H;intro w11 g9 H)
      |(refine sA 9 0 H ?_;clear H;intro w13 H)))
    have:=H.c 0 5
    go_upto_region 9 with (first
     |(refine y7k (by rfl) (.tmp 45) (.tmp 47) (.tmp 48) 87 (by rfl) Tryz.underlying87 (y07 Tryz.underlying9) H 2 b36 (nmap ((y0a givenT).take k)) (by rfl) (by first|rfl|simp [Act.eval,Act.put]) (x.name) (by first|rfl|simp [Act.eval,Act.put]) (.int .i64 (k:Int)) (by first|rfl|simp [Act.eval,Act.put]) (nmap ((y0a givenT).take (k+1))) (hown) ?_;clear H;intro w14 H;replace H:Hp _ _ _ (_::_::_::M1):=H;have:=H.c 0 5))
    replace H:=H.sub (Qai _ (Qaa _ (Qaa _ (Qam _))))
    go_wp2_with fail
    go_roundw
    case rel=>exact ⟨k+1,by omega,by go_num,H⟩
    case measure=>simp [intOf];omega
  ·have hk13:k=13:=by omega
   have hkI: ¬(k:Int)<13:=by omega
   rw [hk13] at H;clear hk13 hlt;have htk:(y0a givenT).take 13=y0a givenT:=Qaj (by rw [Qay,hgl.out];exact Qab _);rw [htk] at H;clear htk
   go_wp2_with fail
   go_loopw [52] (fun i wr=>∃(k:Nat),k≤4∧i= .int .i64 k∧Hp w0 wr K6 (.map b37 (y0o ks (nmap ((y0a givenDirsD).take k))):: .map b36 (y0o ks (nmap (y0a givenT)))::M1)) (fun i _=>4 - (intOf i).toNat)
   case atStart=>exact ⟨0,Qak _,rfl,H⟩
   case round=>
    clear H;obtain ⟨k,hk,rfl,H⟩:=hrel;by_cases hlt:k<4
    ·have hkI:(k:Int)<(4:Int):=by omega
     as_aux_lemma=>
      obtain ⟨x,hx⟩: ∃x,givenDirsD[k]?=some x:=⟨_,Qad (by rw [hrl.out];exact hlt)⟩;obtain ⟨ad,xs,had,hxd,hxl,hatK⟩:=y3d (m:=17) (f:=defL) y05 hdv hx (by omega);subst had;obtain ⟨A6,c6,A7,c7,A8,c8,A9,c9,A10,c10,A11,c11,A12,c12,A14,c14,hxs,-,-,-,-,-,-,-,-⟩:=y0c hxd;have hown:=x1b z2o hx;clear hx hxd;subst hxs
      go_upto_region 13 with (first
       |((with_reducible show wpList _ _ _ (_::_) _ _);refine y0d (by rfl) 43 (.tmp 55) (by rfl) (ad.add (k*17)) (by simp [Act.eval,Act.put]) _ _ (At.sat hatK H.sat) Tryz.underlying43 rfl hsz ?_)
       |((with_reducible refine isL ?_);first
        |(refine al z43 11 H ?_;clear H;intro w15 g11 H)
        |(refine sA 11 0 H ?_;clear H;intro w17 H)))
      have:=H.c 0 5
      go_upto_region 14 with (first
       |(refine y7k (by rfl) (.tmp 57) (.tmp 59) (.tmp 60) 87 (by rfl) Tryz.underlying87 (y07 Tryz.underlying9) H 1 b37 (nmap ((y0a givenDirsD).take k)) (by rfl) (by first|rfl|simp [Act.eval,Act.put]) (x.name) (by first|rfl|simp [Act.eval,Act.put]) (.int .i64 (k:Int)) (by first|rfl|simp [Act.eval,Act.put]) (nmap ((y0a givenDirsD).take (k+1))) (hown) ?_;clear H;intro w18 H;replace H:Hp _ _ _ (_::_::_::M1):=H;have:=H.c 0 5))
      replace H:=H.sub (Qai _ (Qaa _ (Qaa _ (Qam _))))
      go_wp2_with fail
      go_roundw
      case rel=>exact ⟨k+1,by omega,by go_num,H⟩
      case measure=>simp [intOf];omega
    ·have hk4:k=4:=by omega
     have hkJ: ¬(k:Int)<4:=by omega
     rw [hk4] at H;clear hk4 hlt;have htk:(y0a givenDirsD).take 4=y0a givenDirsD:=Qaj (by rw [Qay,hrl.out];exact Qab _);rw [htk] at H;clear htk;obtain ⟨K7,s7,H,hod⟩:=H.freezeKm;obtain ⟨K8,s8,H,how⟩:=H.freezeKm;have hB:BK K8 defs n (.slice A n c) (.slice Ag 13 cg) (.slice Ad 4 cd) b36 b37:=⟨(hd.sat s7).sat s8,(hgv.sat s7).sat s8,(hdv.sat s7).sat s8,how,hod.sat s8⟩;replace hK:=(s8.trans s7).trans hK;clear s7 s8 hod how hd hgv hdv;subst hM1;obtain ⟨M2,hM2⟩: ∃x,(.map b30 []:: .map b31 []::M)=x:=⟨_,rfl⟩;have H1:=Hp.rotAt [tbox g33 b28 b29 b30 b31 (.slice none 0 0) (.slice none 0 0)] [.map b31 [],.map b30 [],.map b29 []] [.map b28 []] (M:=M) H;have H2:=Hp.rotAt [tbox g33 b28 b29 b30 b31 (.slice none 0 0) (.slice none 0 0),.map b28 []] [.map b31 [],.map b30 []] [.map b29 []] (M:=M) H1;have H3:=Hp.rotAt [tbox g33 b28 b29 b30 b31 (.slice none 0 0) (.slice none 0 0),.map b28 [],.map b29 []] [.map b31 []] [.map b30 []] (M:=M) H2;have H4:=(H3.nilRow 43 17).nilRow 43 17;have H5:=Hp.rotAt [] [.row 43 17 (.slice none 0 0) 0 [],.row 43 17 (.slice none 0 0) 0 []] [tbox g33 b28 b29 b30 b31 (.slice none 0 0) (.slice none 0 0),.map b28 []] (M:=.map b29 []:: .map b30 []:: .map b31 []::M) H4;have H6:=Hp.rotAt [tbox g33 b28 b29 b30 b31 (.slice none 0 0) (.slice none 0 0),.map b28 [],.row 43 17 (.slice none 0 0) 0 []] [.row 43 17 (.slice none 0 0) 0 []] [.map b29 []] (M:=.map b30 []:: .map b31 []::M) H5
     have hS:Bst g33 b28 b29 b30 b31 [] [] w0 wr K8 M2:=by
      rw [←hM2];exact ⟨[],.slice none 0 0,.slice none 0 0,[],rfl,(fun p hp=>by cases hp),RL.z,H6⟩
     clear H H1 H2 H3 H4 H5 H6
     go_wp2_with fail
     go_loopw [64] (fun i wr=>∃(k:Nat) (K7:World),k≤n∧i= .int .i64 k∧Sat K7 K∧BK K7 defs n (.slice A n c) (.slice Ag 13 cg) (.slice Ad 4 cd) b36 b37∧Bst g33 b28 b29 b30 b31 ((defs.take k).foldl step1 ([],[])).1 ((defs.take k).foldl step1 ([],[])).2 w0 wr K7 M2) (fun i _=>n - (intOf i).toNat)
     case atStart=>exact ⟨0,K8,Qak _,rfl,hK,hB,hS⟩
     case round=>
      clear hS hB hK;obtain ⟨k,K7,hk,rfl,hK,hB,hS⟩:=hrel;by_cases hlt:k<n
      ·have hkI:(k:Int)<(n:Int):=by omega
       as_aux_lemma=>
        obtain ⟨x,hx⟩: ∃x,defs[k]?=some x:=⟨_,Qad (by rw [HN.out];exact hlt)⟩;obtain ⟨ad,xs,had,hxd,hxl,hatK⟩:=y3d (m:=17) (f:=defL) y05 hB.d hx (by omega);subst had;obtain ⟨A6,c6,A7,c7,A8,c8,A9,c9,A10,c10,A11,c11,A12,c12,A14,c14,hxs,-,-,-,-,-,-,-,-⟩:=y0c hxd;have hxN:=y24 hx
        have hxm:defN x≤9000000:=by omega
        have hpl:=x7i defs k (by omega);have HE:=hide (y3z hx step1 ([],[]));clear hx;obtain ⟨⟨p1,p2⟩,hp⟩: ∃p,(defs.take k).foldl step1 ([],[])=p:=⟨_,rfl⟩;rw [hp] at HE hS hpl;clear hp;obtain ⟨TS,VT,VD,xD,hts,hok,hxD,H⟩:=Bst.to [] hS;clear hS;obtain ⟨kd,hkd⟩: ∃kd,x.kind=kd:=⟨_,rfl⟩;obtain ⟨ex,hex⟩: ∃ex,x.ext=ex:=⟨_,rfl⟩;rw [hkd,hex] at hxs;have HKD:=hide hkd;have HEX:=hide hex;clear hkd hex;subst hxs;have hqr:=y13 givenDirsD x.name;have hqg:=y13 givenT x.name;replace H:Hp _ _ _ (.box _ [_,_,_,_,_,_,_,_,_,_,_,_,_,_,_,_,_,_,_,_,_,_,_] _::_::_::_::_::(y09 TS++M2)):=H
        try dsimp only at H
        go_upto_region 18 with (first
         |((with_reducible show wpList _ _ _ (_::_) _ _);refine y0d (by rfl) 43 (.tmp 66) (by rfl) (ad.add (k*17)) (by simp [Act.eval,Act.put]) _ _ (At.sat hatK H.sat) Tryz.underlying43 rfl hsz ?_)
         |((with_reducible refine isL ?_);first
          |(refine al z43 13 H ?_;clear H;intro w19 g13 H)
          |(refine sA 13 0 H ?_;clear H;intro w21 H)))
        clear hatK;by_cases h8:kd=8
        ·subst h8
         cases hi:y1u givenDirsD x.name with
         |some i=>
          rw [hi] at hqr;have HST:=hide (x7h (p:=p1) (q:=p2) HKD.out (z2q hi));have:=H.c 0 0;have:=H.c 0 5
          go_wp2_with (first
           |(refine y08 (by rfl) (.tmp 73) (.tmp 75) 87 true (by rfl) Tryz.underlying87 (y07 Tryz.underlying9) (.int .i64 0) y0n b37 (nmap (y0a givenDirsD)) (H.kmap hB.p) (by first|rfl|simp [Act.eval,Act.put]) (x.name) (by first|rfl|simp [Act.eval,Act.put]) (.tuple #[.int .i64 (i:Int),.bool true]) (by rw [hqr];rfl) ?_))
          replace H:=H.sub (Qai _ (Qaa _ (Qaa _ (Qaa _ (Qaa _ (Qaa _ (Qam _)))))));go_roundw
          case rel=>exact ⟨k+1,K7,by omega,by go_num,hK,hB,by rw [HE.out,HST.out];exact Bst.of [] hts hok hxD H⟩
          case measure=>simp [intOf];omega
         |none=>
          rw [hi] at hqr;have HST:=hide (q3p (p:=p1) (q:=p2) HKD.out (y7m hi));have:=H.c 0 0;have:=H.c 0 5
          go_upto_region 21 with (first
           |(refine y08 (by rfl) (.tmp 73) (.tmp 75) 87 true (by rfl) Tryz.underlying87 (y07 Tryz.underlying9) (.int .i64 0) y0n b37 (nmap (y0a givenDirsD)) (H.kmap hB.p) (by first|rfl|simp [Act.eval,Act.put]) (x.name) (by first|rfl|simp [Act.eval,Act.put]) (.tuple #[.int .i64 0,.bool false]) (by rw [hqr];rfl) ?_))
          go_wp2_with (first
           |(go_at_call 58;refine (z7j [.box g13 [.int .i64 8,.bool ex,.bool x.note.has,.bool x.note.block,.string (str x.note.text),.string (str x.name),.slice A6 x.ifaces.length c6,.slice A7 x.dirs.length c7,.slice A8 x.fields.length c8,.slice A9 x.inputs.length c9,.slice A10 x.members.length c10,.slice A11 x.values.length c11,.slice A12 x.roots.length c12,.bool x.rep,.slice A14 x.places.length c14,.int .i64 x.line,.int .i64 x.col] 43] x _ g33 b28 b29 b30 b31 p1 p2 hts hok hxD H hxd hxm (by omega)).mono ?_;clear H;rintro e w9 ⟨K9,TS9,VT9,VD9,xD9,rfl,hle9,hts9,hok9,hxD9,H⟩)
           |((with_reducible refine isL ?_);first
            |(refine ld 13 0 17 Tryz.underlying43 H ?_)))
          replace H:=Hp.tail H;go_roundw
          case rel=>exact ⟨k+1,K9,by omega,by go_num,hle9.trans hK,hB.sat hle9,by rw [HE.out,HST.out];exact Bst.of [] hts9 hok9 hxD9 H⟩
          case measure=>simp [intOf];omega
        ·have HN8: ¬x.kind=8:=by rw [HKD.out];exact h8
         have HN8:=hide HN8;by_cases hty:2≤kd∧kd≤7∧ex=false
         ·obtain ⟨h2,h7,hx0⟩:=hty;subst hx0;have HTY:IsTy x:=⟨by rw [HKD.out];exact h2,by rw [HKD.out];exact h7,HEX.out⟩;have HTY:=hide HTY
          cases hi:y1u givenT x.name with
          |some i=>
           rw [hi] at hqg;have HST:=hide (q0y (p:=p1) (q:=p2) HTY.out (z2q hi));have cfK:(w21).cell? ⟨g13,0,none⟩=some (.int .i64 kd):=H.cell (i:=0) rfl rfl
           go_upto_region 22 with (fail)
           have:=H.c 0 0;have:=H.c 0 1;have:=H.c 0 5
           go_wp2_with (first
            |(refine y08 (by rfl) (.tmp 99) (.tmp 101) 87 true (by rfl) Tryz.underlying87 (y07 Tryz.underlying9) (.int .i64 0) y0n b36 (nmap (y0a givenT)) (H.kmap hB.o) (by first|rfl|simp [Act.eval,Act.put]) (x.name) (by first|rfl|simp [Act.eval,Act.put]) (.tuple #[.int .i64 (i:Int),.bool true]) (by rw [hqg];rfl) ?_))
           replace H:=H.sub (Qai _ (Qaa _ (Qaa _ (Qaa _ (Qaa _ (Qaa _ (Qam _)))))));go_roundw
           case rel=>exact ⟨k+1,K7,by omega,by go_num,hK,hB,by rw [HE.out,HST.out];exact Bst.of [] hts hok hxD H⟩
           case measure=>simp [intOf];omega
          |none=>
           rw [hi] at hqg;have HST:=hide (q0z (p:=p1) (q:=p2) HTY.out (y7m hi));have cfK:(w21).cell? ⟨g13,0,none⟩=some (.int .i64 kd):=H.cell (i:=0) rfl rfl
           go_upto_region 22 with (fail)
           have:=H.c 0 0;have:=H.c 0 1;have:=H.c 0 5
           go_upto_region 25 with (first
            |(refine y08 (by rfl) (.tmp 99) (.tmp 101) 87 true (by rfl) Tryz.underlying87 (y07 Tryz.underlying9) (.int .i64 0) y0n b36 (nmap (y0a givenT)) (H.kmap hB.o) (by first|rfl|simp [Act.eval,Act.put]) (x.name) (by first|rfl|simp [Act.eval,Act.put]) (.tuple #[.int .i64 0,.bool false]) (by rw [hqg];rfl) ?_))
           go_wp2_with (first
            |(go_at_call 59;refine (z4i [.box g13 [.int .i64 kd,.bool false,.bool x.note.has,.bool x.note.block,.string (str x.note.text),.string (str x.name),.slice A6 x.ifaces.length c6,.slice A7 x.dirs.length c7,.slice A8 x.fields.length c8,.slice A9 x.inputs.length c9,.slice A10 x.members.length c10,.slice A11 x.values.length c11,.slice A12 x.roots.length c12,.bool x.rep,.slice A14 x.places.length c14,.int .i64 x.line,.int .i64 x.col] 43] x _ g33 b28 b29 b30 b31 p1 p2 hts hok hxD H hxd hxm (by omega)).mono ?_;clear H;rintro e w9 ⟨K9,TS9,VT9,VD9,xD9,rfl,hle9,hts9,hok9,hxD9,H⟩)
            |((with_reducible refine isL ?_);first
             |(refine ld 13 0 17 Tryz.underlying43 H ?_)))
           replace H:=Hp.tail H;go_roundw
           case rel=>exact ⟨k+1,K9,by omega,by go_num,hle9.trans hK,hB.sat hle9,by rw [HE.out,HST.out];exact Bst.of [] hts9 hok9 hxD9 H⟩
           case measure=>simp [intOf];omega
         ·have HNT: ¬IsTy x:=fun h=>hty ⟨by rw [←HKD.out];exact h.1,by rw [←HKD.out];exact h.2.1,by rw [←HEX.out];exact h.2.2⟩;have HST:=hide (q0x (p:=p1) (q:=p2) HN8.out HNT);clear HNT;have cfK:(w21).cell? ⟨g13,0,none⟩=some (.int .i64 kd):=H.cell (i:=0) rfl rfl
          go_upto_region 22 with (fail)
          by_cases h2:2≤kd
          ·by_cases h7:kd≤7
           ·have hx1:ex=true:=by
             cases ex with
             |true=>rfl
             |false=>exact absurd ⟨h2,h7,rfl⟩ hty
            clear hty;subst hx1;have:=H.c 0 0;have:=H.c 0 1
            go_wp2_with fail
            replace H:=H.sub (Qai _ (Qaa _ (Qaa _ (Qaa _ (Qaa _ (Qaa _ (Qam _)))))));go_roundw
            case rel=>exact ⟨k+1,K7,by omega,by go_num,hK,hB,by rw [HE.out,HST.out];exact Bst.of [] hts hok hxD H⟩
            case measure=>simp [intOf];omega
           ·clear hty;have:=H.c 0 0;have:=H.c 0 1
            go_wp2_with fail
            replace H:=H.sub (Qai _ (Qaa _ (Qaa _ (Qaa _ (Qaa _ (Qaa _ (Qam _)))))));go_roundw
            case rel=>exact ⟨k+1,K7,by omega,by go_num,hK,hB,by rw [HE.out,HST.out];exact Bst.of [] hts hok hxD H⟩
            case measure=>simp [intOf];omega
          ·clear hty;have:=H.c 0 0;have:=H.c 0 1
           go_wp2_with fail
           replace H:=H.sub (Qai _ (Qaa _ (Qaa _ (Qaa _ (Qaa _ (Qaa _ (Qam _)))))));go_roundw
           case rel=>exact ⟨k+1,K7,by omega,by go_num,hK,hB,by rw [HE.out,HST.out];exact Bst.of [] hts hok hxD H⟩
           case measure=>simp [intOf];omega
      ·obtain rfl:n=k:=by omega
       have htk:defs.take n=defs:=by rw [←HN.out];exact List.take_length
       rw [htk] at hS;clear htk;have hb12:=q65 defs;have hgN:=z2p
       go_wp2_with fail
       go_loopw [113] (fun i wr=>∃(k:Nat) (K7:World),k≤13∧i= .int .i64 k∧Sat K7 K∧BK K7 defs n (.slice A n c) (.slice Ag 13 cg) (.slice Ad 4 cd) b36 b37∧Bst g33 b28 b29 b30 b31 ((givenT.take k).foldl addD (bare defs).1) (bare defs).2 w0 wr K7 M2) (fun i _=>13 - (intOf i).toNat)
       case atStart=>exact ⟨0,K7,Qak _,rfl,hK,hB,hS⟩
       case round=>
        clear hS hB hK;obtain ⟨k,K7,hk,rfl,hK,hB,hS⟩:=hrel;by_cases hlt:k<13
        ·have hkI:(k:Int)<(13:Int):=by omega
         as_aux_lemma=>
          obtain ⟨x,hx⟩: ∃x,givenT[k]?=some x:=⟨_,Qad (by rw [hgl.out];exact hlt)⟩;obtain ⟨ad,xs,had,hxd,hxl,hatK⟩:=y3d (m:=17) (f:=defL) y05 hB.g hx (by omega);subst had;obtain ⟨A6,c6,A7,c7,A8,c8,A9,c9,A10,c10,A11,c11,A12,c12,A14,c14,hxs,-,-,-,-,-,-,-,-⟩:=y0c hxd;have hxN:=y24 hx
          have hxm:defN x≤9000000:=by omega
          have hpl:=z7o givenT (bare defs).1 k;have HE:=hide (y3z hx addD (bare defs).1);clear hx;obtain ⟨p1,hp⟩: ∃p,(givenT.take k).foldl addD (bare defs).1=p:=⟨_,rfl⟩;rw [hp] at HE hS hpl;clear hp;obtain ⟨TS,VT,VD,xD,hts,hok,hxD,H⟩:=Bst.to [] hS;clear hS;subst hxs;replace H:Hp _ _ _ (.box _ [_,_,_,_,_,_,_,_,_,_,_,_,_,_,_,_,_,_,_,_,_,_,_] _::_::_::_::_::(y09 TS++M2)):=H
          try dsimp only at H
          go_upto_region 30 with (first
           |((with_reducible show wpList _ _ _ (_::_) _ _);refine y0d (by rfl) 43 (.tmp 115) (by rfl) (ad.add (k*17)) (by simp [Act.eval,Act.put]) _ _ (At.sat hatK H.sat) Tryz.underlying43 rfl hsz ?_)
           |((with_reducible refine isL ?_);first
            |(refine al z43 19 H ?_;clear H;intro w24 g19 H)
            |(refine sA 19 0 H ?_;clear H;intro w26 H)))
          clear hatK
          go_wp2_with (first
           |(go_at_call 59;refine (z4i [.box g19 [.int .i64 x.kind,.bool x.ext,.bool x.note.has,.bool x.note.block,.string (str x.note.text),.string (str x.name),.slice A6 x.ifaces.length c6,.slice A7 x.dirs.length c7,.slice A8 x.fields.length c8,.slice A9 x.inputs.length c9,.slice A10 x.members.length c10,.slice A11 x.values.length c11,.slice A12 x.roots.length c12,.bool x.rep,.slice A14 x.places.length c14,.int .i64 x.line,.int .i64 x.col] 43] x _ g33 b28 b29 b30 b31 p1 (bare defs).2 hts hok hxD H hxd hxm (by omega)).mono ?_;clear H;rintro e w9 ⟨K9,TS9,VT9,VD9,xD9,rfl,hle9,hts9,hok9,hxD9,H⟩)
           |((with_reducible refine isL ?_);first
            |(refine ld 19 0 17 Tryz.underlying43 H ?_)))
          replace H:=Hp.tail H;go_roundw
          case rel=>exact ⟨k+1,K9,by omega,by go_num,hle9.trans hK,hB.sat hle9,by rw [HE.out];exact Bst.of [] hts9 hok9 hxD9 H⟩
          case measure=>simp [intOf];omega
        ·have hk13:k=13:=by omega
         have hkI: ¬(k:Int)<13:=by omega
         rw [hk13] at hS;clear hk13 hlt;have htk:givenT.take 13=givenT:=Qaj (by rw [hgl.out];exact Qab _);rw [htk] at hS;clear htk
         go_wp2_with fail
         go_loopw [123] (fun i wr=>∃(k:Nat) (K7:World),k≤4∧i= .int .i64 k∧Sat K7 K∧BK K7 defs n (.slice A n c) (.slice Ag 13 cg) (.slice Ad 4 cd) b36 b37∧Bst g33 b28 b29 b30 b31 (y2j defs) ((givenDirsD.take k).foldl addD (bare defs).2) w0 wr K7 M2) (fun i _=>4 - (intOf i).toNat)
         case atStart=>exact ⟨0,K7,Qak _,rfl,hK,hB,hS⟩
         case round=>
          clear hS hB hK;obtain ⟨k,K7,hk,rfl,hK,hB,hS⟩:=hrel;by_cases hlt:k<4
          ·have hkI:(k:Int)<(4:Int):=by omega
           as_aux_lemma=>
            obtain ⟨x,hx⟩: ∃x,givenDirsD[k]?=some x:=⟨_,Qad (by rw [hrl.out];exact hlt)⟩;obtain ⟨ad,xs,had,hxd,hxl,hatK⟩:=y3d (m:=17) (f:=defL) y05 hB.r hx (by omega);subst had;obtain ⟨A6,c6,A7,c7,A8,c8,A9,c9,A10,c10,A11,c11,A12,c12,A14,c14,hxs,-,-,-,-,-,-,-,-⟩:=y0c hxd;have hxN:=y24 hx
            have hxm:defN x≤9000000:=by omega
            have hpl:=z7o givenDirsD (bare defs).2 k;have HE:=hide (y3z hx addD (bare defs).2);clear hx;obtain ⟨p1,hp⟩: ∃p,(givenDirsD.take k).foldl addD (bare defs).2=p:=⟨_,rfl⟩;rw [hp] at HE hS hpl;clear hp;obtain ⟨TS,VT,VD,xD,hts,hok,hxD,H⟩:=Bst.to [] hS;clear hS;subst hxs;replace H:Hp _ _ _ (.box _ [_,_,_,_,_,_,_,_,_,_,_,_,_,_,_,_,_,_,_,_,_,_,_] _::_::_::_::_::(y09 TS++M2)):=H
            try dsimp only at H
            go_upto_region 35 with (first
             |((with_reducible show wpList _ _ _ (_::_) _ _);refine y0d (by rfl) 43 (.tmp 125) (by rfl) (ad.add (k*17)) (by simp [Act.eval,Act.put]) _ _ (At.sat hatK H.sat) Tryz.underlying43 rfl hsz ?_)
             |((with_reducible refine isL ?_);first
              |(refine al z43 21 H ?_;clear H;intro w28 g21 H)
              |(refine sA 21 0 H ?_;clear H;intro w30 H)))
            clear hatK
            go_wp2_with (first
             |(go_at_call 58;refine (z7j [.box g21 [.int .i64 x.kind,.bool x.ext,.bool x.note.has,.bool x.note.block,.string (str x.note.text),.string (str x.name),.slice A6 x.ifaces.length c6,.slice A7 x.dirs.length c7,.slice A8 x.fields.length c8,.slice A9 x.inputs.length c9,.slice A10 x.members.length c10,.slice A11 x.values.length c11,.slice A12 x.roots.length c12,.bool x.rep,.slice A14 x.places.length c14,.int .i64 x.line,.int .i64 x.col] 43] x _ g33 b28 b29 b30 b31 (y2j defs) p1 hts hok hxD H hxd hxm (by omega)).mono ?_;clear H;rintro e w9 ⟨K9,TS9,VT9,VD9,xD9,rfl,hle9,hts9,hok9,hxD9,H⟩)
             |((with_reducible refine isL ?_);first
              |(refine ld 21 0 17 Tryz.underlying43 H ?_)))
            replace H:=Hp.tail H;go_roundw
            case rel=>exact ⟨k+1,K9,by omega,by go_num,hle9.trans hK,hB.sat hle9,by rw [HE.out];exact Bst.of [] hts9 hok9 hxD9 H⟩
            case measure=>simp [intOf];omega
          ·have hk4:k=4:=by omega
           have hkJ: ¬(k:Int)<4:=by omega
           rw [hk4] at hS;clear hk4 hlt;have htk:givenDirsD.take 4=givenDirsD:=Qaj (by rw [hrl.out];exact Qab _);rw [htk] at hS;clear htk;have hds:givenDirsD.foldl addD (bare defs).2=y21 defs:=rfl;rw [hds] at hS;clear hds
           go_wp2_with fail
           go_loopw [133] (fun i wr=>∃(k:Nat) (K7:World),k≤n∧i= .int .i64 k∧Sat K7 K∧BK K7 defs n (.slice A n c) (.slice Ag 13 cg) (.slice Ad 4 cd) b36 b37∧Bst g33 b28 b29 b30 b31 ((defs.take k).foldl ty.step2 (y2j defs)) (y21 defs) w0 wr K7 M2) (fun i _=>n - (intOf i).toNat)
           case atStart=>exact ⟨0,K7,Qak _,rfl,hK,hB,by rw [List.take_zero,List.foldl_nil];exact hS⟩
           case round=>
            clear hS hB hK;obtain ⟨k,K7,hk,rfl,hK,hB,hS⟩:=hrel;by_cases hlt:k<n
            ·have hkI:(k:Int)<(n:Int):=by omega
             obtain ⟨x,hx⟩: ∃x,defs[k]?=some x:=⟨_,Qad (by rw [HN.out];exact hlt)⟩;obtain ⟨ad,xs,had,hxd,hxl,hatK⟩:=y3d (m:=17) (f:=defL) y05 hB.d hx (by omega);subst had;obtain ⟨A6,c6,A7,c7,A8,c8,A9,c9,A10,c10,A11,c11,A12,c12,A14,c14,hxs,-,-,-,-,-,-,-,-⟩:=y0c hxd;have HST2:=hide (fun he=>q02 (l:=defs) (k:=k) (x:=x) hx he);have HE:=hide (y3z hx ty.step2 (y2j defs));clear hx;obtain ⟨p1,hp⟩: ∃p,(defs.take k).foldl ty.step2 (y2j defs)=p:=⟨_,rfl⟩;rw [hp] at HE hS HST2;clear hp;obtain ⟨TS,VT,VD,xD,hts,hok,hxD,H⟩:=Bst.to [] hS;clear hS;obtain ⟨kd,hkd⟩: ∃kd,x.kind=kd:=⟨_,rfl⟩;obtain ⟨ex,hex⟩: ∃ex,x.ext=ex:=⟨_,rfl⟩;rw [hkd,hex] at hxs;have HKD:=hide hkd;have HEX:=hide hex;clear hkd hex;subst hxs;have hq:=y13 p1 x.name;have hqg:=y13 givenT x.name
             cases hi:y1u p1 x.name with
             |none=>
              as_aux_lemma=>
               rw [hi] at hq;replace hq:y0r (nmap (y0a p1)) x.name=none:=hq;have HST:=hide (x3t hi);clear hi;replace H:Hp _ _ _ (.box _ [_,_,_,_,_,_,_,_,_,_,_,_,_,_,_,_,_,_,_,_,_,_,_] _::_::_::_::_::(y09 TS++M2)):=H
               try dsimp only at H
               go_upto_region 40 with (first
                |((with_reducible show wpList _ _ _ (_::_) _ _);refine y0d (by rfl) 43 (.tmp 135) (by rfl) (ad.add (k*17)) (by simp [Act.eval,Act.put]) _ _ (At.sat hatK H.sat) Tryz.underlying43 rfl hsz ?_)
                |((with_reducible refine isL ?_);first
                 |(refine al z43 23 H ?_;clear H;intro w32 g23 H)
                 |(refine sA 23 0 H ?_;clear H;intro w34 H)))
               clear hatK;have:=H.c 1 18;have:=H.c 0 5;have hrun:=fun k=>y01 (P:=Tryz.prog) (w:=(w34).drewN k) (t:=87) (kt:=9) (et:=3) (l:=nmap (y0a p1)) (b:=b28) Tryz.underlying87 (y07 Tryz.underlying9) (.int .i64 0) (y0n _) ((H.drew k).mapAt (i:=2) rfl) x.name true;simp only [hq,Option.getD_none,Option.isSome_none,Option.getD_some,Option.isSome_some,if_true] at hrun
               go_quiet (fail)
               replace H:=H.drew nq;obtain ⟨w35,hq36⟩: ∃x,(w34).drewN nq=x:=⟨_,rfl⟩;rw [hq36] at H ⊢;clear hq36;replace H:Hp _ _ _ (_::_::_::_::_::_::(y09 TS++M2)):=H;clear hrun
               go_upto_region 41 with (fail)
               go_quiet (fail)
               replace H:=H.drew nq;obtain ⟨w37,hq38⟩: ∃x,(w35).drewN nq=x:=⟨_,rfl⟩;rw [hq38] at H ⊢;clear hq38;replace H:Hp _ _ _ (_::_::_::_::_::_::(y09 TS++M2)):=H
               go_wp2_with fail
               replace H:=H.sub (Qai _ (Qaa _ (Qaa _ (Qaa _ (Qaa _ (Qaa _ (Qam _)))))));go_roundw
               case rel=>exact ⟨k+1,K7,by omega,by go_num,hK,hB,by rw [HE.out,HST.out];exact Bst.of [] hts hok hxD H⟩
               case measure=>simp [intOf];omega
             |some i=>
              rw [hi] at hq;replace hq:y0r (nmap (y0a p1)) x.name=some (.int .i64 (i:Int)):=hq;obtain ⟨e,he,-⟩:=y1o hi;have hil:=y5z hi
              have hiI:(i:Int)<(p1.length:Int):=by omega
              have HNO:=fun hc=>q00 (d:=x) hi he hc;have HYES:=fun hc=>x7j (d:=x) hi he hc;have HNO:=hide HNO;have HYES:=hide HYES;clear hi;obtain ⟨TA,V,TB,hTS,hTA⟩:=q01 (hts▸he);have HE2:=hide he;have HTA:=hide hTA;have HTS:=hide hts;clear he hts;subst hTS;obtain ⟨gr,cr,hVT,hc1,hc2,hvl⟩:=H.rowAt (i:=2) rfl (by omega);have hvl:=hide hvl;subst hVT;replace H:Hp _ _ _ (.box _ [_,_,_,_,_,_,_,_,_,_,_,_,_,_,_,_,_,_,_,_,_,_,_] _::_::_::_::_::(y09 (TA++(e,V)::TB)++M2)):=H
              try dsimp only at H
              go_upto_region 40 with (first
               |((with_reducible show wpList _ _ _ (_::_) _ _);refine y0d (by rfl) 43 (.tmp 135) (by rfl) (ad.add (k*17)) (by simp [Act.eval,Act.put]) _ _ (At.sat hatK H.sat) Tryz.underlying43 rfl hsz ?_)
               |((with_reducible refine isL ?_);first
                |(refine al z43 23 H ?_;clear H;intro w39 g23 H)
                |(refine sA 23 0 H ?_;clear H;intro w41 H)))
              clear hatK;have:=H.c 1 18;have:=H.c 0 5;have hrun:=fun k=>y01 (P:=Tryz.prog) (w:=(w41).drewN k) (t:=87) (kt:=9) (et:=3) (l:=nmap (y0a p1)) (b:=b28) Tryz.underlying87 (y07 Tryz.underlying9) (.int .i64 0) (y0n _) ((H.drew k).mapAt (i:=2) rfl) x.name true;simp only [hq,Option.getD_none,Option.isSome_none,Option.getD_some,Option.isSome_some,if_true] at hrun
              go_quiet (fail)
              replace H:=H.drew nq;obtain ⟨w42,hq43⟩: ∃x,(w41).drewN nq=x:=⟨_,rfl⟩;rw [hq43] at H ⊢;clear hq43;replace H:Hp _ _ _ (_::_::_::_::_::_::(y09 (TA++(e,V)::TB)++M2)):=H;clear hrun
              go_upto_region 41 with (fail)
              cases ex with
              |false=>
               as_aux_lemma=>
                have HST:=hide (HNO.out (fun h=>by rw [HEX.out] at h;exact Bool.false_ne_true h.1));have:=H.c 0 1
                go_quiet (fail)
                replace H:=H.drew nq;obtain ⟨w44,hq45⟩: ∃x,(w42).drewN nq=x:=⟨_,rfl⟩;rw [hq45] at H ⊢;clear hq45;replace H:Hp _ _ _ (_::_::_::_::_::_::(y09 (TA++(e,V)::TB)++M2)):=H
                go_wp2_with fail
                replace H:=H.sub (Qai _ (Qaa _ (Qaa _ (Qaa _ (Qaa _ (Qaa _ (Qam _)))))));go_roundw
                case rel=>exact ⟨k+1,K7,by omega,by go_num,hK,hB,by rw [HE.out,HST.out];exact Bst.of [] HTS.out hok hxD H⟩
                case measure=>simp [intOf];omega
              |true=>
               have hce:=(x1a H (i:=3) rfl HTA.out).1 _ rfl;rw [y2s] at hce;by_cases hkk:kd=e.kind
               ·rw [←hkk] at hce;by_cases h1:kd=1
                ·have HST:=hide (HNO.out (fun h=>h.2.2.1 (by rw [HKD.out];exact h1)))
                 as_aux_lemma=>
                  have hb1:(kd==1)=true:=by simp [h1]
                  have hb2:(kd !=1)=false:=by simp [h1]
                  clear h1 hkk;have:=H.c 0 1;have:=H.c 0 0;have:=H.c 1 17
                  go_quiet (fail)
                  replace H:=H.drew nq;obtain ⟨w46,hq47⟩: ∃x,(w42).drewN nq=x:=⟨_,rfl⟩;rw [hq47] at H ⊢;clear hq47;replace H:Hp _ _ _ (_::_::_::_::_::_::(y09 (TA++(e,V)::TB)++M2)):=H
                  go_wp2_with fail
                  replace H:=H.sub (Qai _ (Qaa _ (Qaa _ (Qaa _ (Qaa _ (Qaa _ (Qam _)))))));go_roundw
                  case rel=>exact ⟨k+1,K7,by omega,by go_num,hK,hB,by rw [HE.out,HST.out];exact Bst.of [] HTS.out hok hxD H⟩
                  case measure=>simp [intOf];omega
                ·have hb1:(kd==1)=false:=by simp [h1]
                 have hb2:(kd !=1)=true:=by simp [h1]
                 cases hj:y1u givenT x.name with
                 |some j=>
                  as_aux_lemma=>
                   rw [hj] at hqg;have HST:=hide (HNO.out (fun h=>h.2.2.2 (z2q hj)));clear h1 hkk hj;have:=H.c 0 1;have:=H.c 0 0;have:=H.c 1 17
                   go_quiet (fail)
                   replace H:=H.drew nq;obtain ⟨w48,hq49⟩: ∃x,(w42).drewN nq=x:=⟨_,rfl⟩;rw [hq49] at H ⊢;clear hq49;replace H:Hp _ _ _ (_::_::_::_::_::_::(y09 (TA++(e,V)::TB)++M2)):=H
                   go_upto_region 42 with (fail)
                   have:=H.c 0 5
                   go_wp2_with (first
                    |(refine y08 (by rfl) (.tmp 171) (.tmp 173) 87 true (by rfl) Tryz.underlying87 (y07 Tryz.underlying9) (.int .i64 0) y0n b36 (nmap (y0a givenT)) (H.kmap hB.o) (by first|rfl|simp [Act.eval,Act.put]) (x.name) (by first|rfl|simp [Act.eval,Act.put]) (.tuple #[.int .i64 (j:Int),.bool true]) (by rw [hqg];rfl) ?_))
                   replace H:=H.sub (Qai _ (Qaa _ (Qaa _ (Qaa _ (Qaa _ (Qaa _ (Qam _)))))));go_roundw
                   case rel=>exact ⟨k+1,K7,by omega,by go_num,hK,hB,by rw [HE.out,HST.out];exact Bst.of [] HTS.out hok hxD H⟩
                   case measure=>simp [intOf];omega
                 |none=>
                  rw [hj] at hqg;have HST:=hide (HYES.out ⟨HEX.out,by rw [HKD.out];exact hkk,by rw [HKD.out];exact h1,y7m hj⟩);have hmN:=HST2.out HEX.out;have hgN:=z2p.1;have heN:=y24 HE2.out
                  have hmN:defN e+defN x≤9000000:=by omega
                  clear h1 hkk hj hgN heN;have:=H.c 0 1;have:=H.c 0 0;have:=H.c 1 17
                  go_quiet (fail)
                  replace H:=H.drew nq;obtain ⟨w50,hq51⟩: ∃x,(w42).drewN nq=x:=⟨_,rfl⟩;rw [hq51] at H ⊢;clear hq51;replace H:Hp _ _ _ (_::_::_::_::_::_::(y09 (TA++(e,V)::TB)++M2)):=H
                  go_upto_region 42 with (fail)
                  have:=H.c 0 5
                  go_upto_region 44 with (first
                   |(refine y08 (by rfl) (.tmp 171) (.tmp 173) 87 true (by rfl) Tryz.underlying87 (y07 Tryz.underlying9) (.int .i64 0) y0n b36 (nmap (y0a givenT)) (H.kmap hB.o) (by first|rfl|simp [Act.eval,Act.put]) (x.name) (by first|rfl|simp [Act.eval,Act.put]) (.tuple #[.int .i64 0,.bool false]) (by rw [hqg];rfl) ?_))
                  refine held.begin_ (fun w'=>w'.cell? ⟨g33,17,none⟩=some (.slice (some ⟨gr,0,none⟩) p1.length cr)∧w'.cell? ⟨g23,0,none⟩=some (.int .i64 kd)∧w'.cell? ⟨g23,1,none⟩=some (.bool true)∧w'.cell? ⟨g23,2,none⟩=some (.bool x.note.has)∧w'.cell? ⟨g23,3,none⟩=some (.bool x.note.block)∧w'.cell? ⟨g23,4,none⟩=some (.string (str x.note.text))∧w'.cell? ⟨g23,5,none⟩=some (.string (str x.name))∧w'.cell? ⟨g23,6,none⟩=some (.slice A6 x.ifaces.length c6)∧w'.cell? ⟨g23,7,none⟩=some (.slice A7 x.dirs.length c7)∧w'.cell? ⟨g23,8,none⟩=some (.slice A8 x.fields.length c8)∧w'.cell? ⟨g23,9,none⟩=some (.slice A9 x.inputs.length c9)∧w'.cell? ⟨g23,10,none⟩=some (.slice A10 x.members.length c10)∧w'.cell? ⟨g23,11,none⟩=some (.slice A11 x.values.length c11)∧w'.cell? ⟨g23,12,none⟩=some (.slice A12 x.roots.length c12)∧w'.cell? ⟨g23,13,none⟩=some (.bool x.rep)∧w'.cell? ⟨g23,14,none⟩=some (.slice A14 x.places.length c14)∧w'.cell? ⟨g23,15,none⟩=some (.int .i64 x.line)∧w'.cell? ⟨g23,16,none⟩=some (.int .i64 x.col)∧w'.rangeAt gr (i*17) (DV.cells e V)) [15] (by kernel_rfl) ?_;replace H:=H.drew1;obtain ⟨w52,hq53⟩: ∃x,(w50).drew=x:=⟨_,rfl⟩;rw [hq53] at H ⊢;clear hq53;have hS54:w52.cell? ⟨g33,17,none⟩=some (.slice (some ⟨gr,0,none⟩) p1.length cr)∧w52.cell? ⟨g23,0,none⟩=some (.int .i64 kd)∧w52.cell? ⟨g23,1,none⟩=some (.bool true)∧w52.cell? ⟨g23,2,none⟩=some (.bool x.note.has)∧w52.cell? ⟨g23,3,none⟩=some (.bool x.note.block)∧w52.cell? ⟨g23,4,none⟩=some (.string (str x.note.text))∧w52.cell? ⟨g23,5,none⟩=some (.string (str x.name))∧w52.cell? ⟨g23,6,none⟩=some (.slice A6 x.ifaces.length c6)∧w52.cell? ⟨g23,7,none⟩=some (.slice A7 x.dirs.length c7)∧w52.cell? ⟨g23,8,none⟩=some (.slice A8 x.fields.length c8)∧w52.cell? ⟨g23,9,none⟩=some (.slice A9 x.inputs.length c9)∧w52.cell? ⟨g23,10,none⟩=some (.slice A10 x.members.length c10)∧w52.cell? ⟨g23,11,none⟩=some (.slice A11 x.values.length c11)∧w52.cell? ⟨g23,12,none⟩=some (.slice A12 x.roots.length c12)∧w52.cell? ⟨g23,13,none⟩=some (.bool x.rep)∧w52.cell? ⟨g23,14,none⟩=some (.slice A14 x.places.length c14)∧w52.cell? ⟨g23,15,none⟩=some (.int .i64 x.line)∧w52.cell? ⟨g23,16,none⟩=some (.int .i64 x.col)∧w52.rangeAt gr (i*17) (DV.cells e V):=⟨H.cell (i:=1) rfl rfl,H.cell (i:=0) rfl rfl,H.cell (i:=0) rfl rfl,H.cell (i:=0) rfl rfl,H.cell (i:=0) rfl rfl,H.cell (i:=0) rfl rfl,H.cell (i:=0) rfl rfl,H.cell (i:=0) rfl rfl,H.cell (i:=0) rfl rfl,H.cell (i:=0) rfl rfl,H.cell (i:=0) rfl rfl,H.cell (i:=0) rfl rfl,H.cell (i:=0) rfl rfl,H.cell (i:=0) rfl rfl,H.cell (i:=0) rfl rfl,H.cell (i:=0) rfl rfl,H.cell (i:=0) rfl rfl,H.cell (i:=0) rfl rfl,z7k H (i:=3) rfl HTA.out⟩;refine tk 0 hS54 ?_;refine tk 1 hS54 ?_;refine tk 2 hS54 ?_;refine tk 3 hS54 ?_;refine tk 4 hS54 ?_;refine tk 5 hS54 ?_;refine tk 6 hS54 ?_;refine tk 7 hS54 ?_;refine tk 8 hS54 ?_;refine tk 9 hS54 ?_;refine tk 10 hS54 ?_;refine held.take (i:=11) (v:=_) rfl (by kernel_rfl) (by kernel_rfl) (by kernel_rfl) (by kernel_rfl) (by kernel_rfl) (fun _ _ _ h=>h) (yieldsIf_load_mid (by rfl) 43 (.tmp 189) (by rfl) gr (i*17) (by first|rfl|simp [Act.eval,Act.put]) (DV.cells e V) _ (fun w h=>h.2.2.2.2.2.2.2.2.2.2.2.2.2.2.2.2.2.2) Tryz.underlying43 rfl hsz) hS54 ?_
                  try simp only [Act.put,List.getElem_toArray,List.getElem_cons_zero,List.getElem_cons_succ,List.setIfInBounds_toArray,List.set_cons_zero,List.set_cons_succ]
                  refine tk 12 hS54 ?_;refine held.step (i:=13) (by kernel_rfl) rfl (fun Kq hKq=>?_)
                  go_simp
                  refine (x7c [.box g23 [.int .i64 kd,.bool true,.bool x.note.has,.bool x.note.block,.string (str x.note.text),.string (str x.name),.slice A6 x.ifaces.length c6,.slice A7 x.dirs.length c7,.slice A8 x.fields.length c8,.slice A9 x.inputs.length c9,.slice A10 x.members.length c10,.slice A11 x.values.length c11,.slice A12 x.roots.length c12,.bool x.rep,.slice A14 x.places.length c14,.int .i64 x.line,.int .i64 x.col] 43,.box g33 [.int .i64 0,.bool false,.bool false,.bool false,.string ⟨#[]⟩,.string ⟨#[]⟩,.slice none 0 0,.slice none 0 0,.slice none 0 0,.slice none 0 0,.slice none 0 0,.slice none 0 0,.slice none 0 0,.bool false,.slice none 0 0,.int .i64 0,.int .i64 0,.slice (some ⟨gr,0,none⟩) p1.length cr,.map (some b28),VD,.map (some b29),.map (some b30),.map (some b31)] 91,.map b28 (y0z (nmap (y0a p1))),.row 43 17 (.slice (some ⟨gr,0,none⟩) p1.length cr) (p1.length) ((y03 (TA++(e,V)::TB))),.map b29 (y0z (nmap (y0a (y21 defs)))),.row 43 17 (VD) ((y21 defs).length) (xD)] e x V TA TB _ H hok hmN hxd).mono ?_;clear H;rintro e1 w9 ⟨K9,V9,rfl,hle9,H,hok9,hone9⟩;replace hK:=hle9.trans hK;replace H:Hp _ _ _ (_::_::_::_::_::_::(y09 (TA++(y1k e x,V9)::TB)++M2)):=H
                  try go_simp
                  have hS55:w9.cell? ⟨g33,17,none⟩=some (.slice (some ⟨gr,0,none⟩) p1.length cr)∧w9.cell? ⟨g23,0,none⟩=some (.int .i64 kd)∧w9.cell? ⟨g23,1,none⟩=some (.bool true)∧w9.cell? ⟨g23,2,none⟩=some (.bool x.note.has)∧w9.cell? ⟨g23,3,none⟩=some (.bool x.note.block)∧w9.cell? ⟨g23,4,none⟩=some (.string (str x.note.text))∧w9.cell? ⟨g23,5,none⟩=some (.string (str x.name))∧w9.cell? ⟨g23,6,none⟩=some (.slice A6 x.ifaces.length c6)∧w9.cell? ⟨g23,7,none⟩=some (.slice A7 x.dirs.length c7)∧w9.cell? ⟨g23,8,none⟩=some (.slice A8 x.fields.length c8)∧w9.cell? ⟨g23,9,none⟩=some (.slice A9 x.inputs.length c9)∧w9.cell? ⟨g23,10,none⟩=some (.slice A10 x.members.length c10)∧w9.cell? ⟨g23,11,none⟩=some (.slice A11 x.values.length c11)∧w9.cell? ⟨g23,12,none⟩=some (.slice A12 x.roots.length c12)∧w9.cell? ⟨g23,13,none⟩=some (.bool x.rep)∧w9.cell? ⟨g23,14,none⟩=some (.slice A14 x.places.length c14)∧w9.cell? ⟨g23,15,none⟩=some (.int .i64 x.line)∧w9.cell? ⟨g23,16,none⟩=some (.int .i64 x.col)∧w9.rangeAt gr (i*17) (DV.cells e V):=⟨H.cell (i:=1) rfl rfl,H.cell (i:=0) rfl rfl,H.cell (i:=0) rfl rfl,H.cell (i:=0) rfl rfl,H.cell (i:=0) rfl rfl,H.cell (i:=0) rfl rfl,H.cell (i:=0) rfl rfl,H.cell (i:=0) rfl rfl,H.cell (i:=0) rfl rfl,H.cell (i:=0) rfl rfl,H.cell (i:=0) rfl rfl,H.cell (i:=0) rfl rfl,H.cell (i:=0) rfl rfl,H.cell (i:=0) rfl rfl,H.cell (i:=0) rfl rfl,H.cell (i:=0) rfl rfl,H.cell (i:=0) rfl rfl,H.cell (i:=0) rfl rfl,z7k H (i:=3) rfl HTA.out⟩;refine hKq.out _ _ (fun _=>hS55) (fun _=>?_);clear hKq Kq;refine tk 14 hS55 ?_;refine held.step (i:=15) (by kernel_rfl) rfl (fun Kq hKq=>?_);refine y98 (by rfl) 43 (.tmp 193) (.tmp 192) (by rfl) gr (i*17) (by first|rfl|simp [Act.eval,Act.put]) (.agg (DV.cells (y1k e x) V9).toArray) (by first|rfl|simp [Act.eval,Act.put]) (DV.cells (y1k e x) V9) (by rfl) (hone9) (hsz) H 3 43 17 (p1.length) cr ((y03 (TA++(e,V)::TB))) (y03 (TA++(y1k e x,V9)::TB)) (by rfl) (by rw [hvl.out];show i*17+17≤p1.length*17;omega) (q3o HTA.out) ?_;clear H;intro w56 H;refine hKq.out _ _ (fun h=>absurd (Qax.2 rfl) h) (fun _=>?_);clear hKq Kq;refine held.done (by kernel_rfl) ?_ _;simp only [Act.put,List.getElem_toArray,List.getElem_cons_zero,List.getElem_cons_succ,List.setIfInBounds_toArray,List.set_cons_zero,List.set_cons_succ];replace H:Hp _ _ _ (_::_::_::_::_::_::(y09 (TA++(y1k e x,V9)::TB)++M2)):=H
                  go_upto_region 45 with (fail)
                  replace H:=H.sub (Qai _ (Qaa _ (Qaa _ (Qaa _ (Qaa _ (Qaa _ (Qam _)))))))
                  have HTS9:p1.set i (y1k e x)=(TA++(y1k e x,V9)::TB).map (·.1):=by rw [HTS.out];exact q56 HTA.out
                  have H9:Hp w0 w56 K9 ([]++(z0d g33 b28 b29 b30 b31 (p1.set i (y1k e x)) (y21 defs) (.slice (some ⟨gr,0,none⟩) p1.length cr) VD (TA++(y1k e x,V9)::TB) xD++(y09 (TA++(y1k e x,V9)::TB)++M2))):=by
                   unfold z0d;rw [List.length_set,z4e (e':=y1k e x) HE2.out rfl];exact H
                  go_wp2_with fail
                  go_roundw
                  case rel=>exact ⟨k+1,K9,by omega,by go_num,hK,hB.sat hle9,by rw [HE.out,HST.out];exact Bst.of [] HTS9 hok9 (hxD.sat hle9) H9⟩
                  case measure=>simp [intOf];omega
               ·have hkb:(kd==e.kind)=false:=by simp [hkk]
                as_aux_lemma=>
                 have HST:=hide (HNO.out (fun h=>hkk (by rw [←HKD.out];exact h.2.1)));clear hkk;have:=H.c 0 1;have:=H.c 0 0;have:=H.c 1 17
                 go_quiet (fail)
                 replace H:=H.drew nq;obtain ⟨w57,hq58⟩: ∃x,(w42).drewN nq=x:=⟨_,rfl⟩;rw [hq58] at H ⊢;clear hq58;replace H:Hp _ _ _ (_::_::_::_::_::_::(y09 (TA++(e,V)::TB)++M2)):=H
                 go_wp2_with fail
                 replace H:=H.sub (Qai _ (Qaa _ (Qaa _ (Qaa _ (Qaa _ (Qaa _ (Qam _)))))));go_roundw
                 case rel=>exact ⟨k+1,K7,by omega,by go_num,hK,hB,by rw [HE.out,HST.out];exact Bst.of [] HTS.out hok hxD H⟩
                 case measure=>simp [intOf];omega
            ·obtain rfl:n=k:=by omega
             have htk:defs.take n=defs:=by rw [←HN.out];exact List.take_length
             rw [htk] at hS;clear htk;have hto:defs.foldl ty.step2 (y2j defs)=y0i defs:=rfl;rw [hto] at hS;clear hto;obtain ⟨TS,VT,VD,xD,hts,hok,hxD,H⟩:=Bst.to [] hS;clear hS;obtain ⟨nt,hnt⟩: ∃x,(y0i defs).length=x:=⟨_,rfl⟩;have HNT:=hide hnt;have htN:=q3k defs;have hgN:=z2p.1;have hntl:=x7k (y0i defs);have H2:=Hp.rot (z0d g33 b28 b29 b30 b31 (y0i defs) (y21 defs) VT VD TS xD) (y09 TS) (M:=M2) H;clear H;obtain ⟨K1,s1,H,hT⟩:=Hp.freezeDefs H2 hok;rw [←hts] at hT;replace hxD:=hxD.sat s1;have H3:=Hp.rotAt [] [tbox g33 b28 b29 b30 b31 VT VD] [.map b28 (y0z (nmap (y0a (y0i defs)))),.row 43 17 VT (y0i defs).length (y03 TS),.map b29 (y0z (nmap (y0a (y21 defs)))),.row 43 17 VD (y21 defs).length xD] (M:=M2) H;clear H H2;obtain ⟨K2,s2,H,hA⟩:=Hp.freezeKm H3;obtain ⟨K3,s3,H,hTy⟩:=Hp.freezeRow H (hT.sat s2);obtain ⟨K4,s4,H,hDA⟩:=Hp.freezeKm H;obtain ⟨K5,s5,H,hDi⟩:=Hp.freezeRow H (((hxD.sat s2).sat s3).sat s4);clear H3 hT hxD hok hts;replace hK:=s5.trans (s4.trans (s3.trans (s2.trans (s1.trans hK))));replace hA:=((hA.sat s3).sat s4).sat s5;replace hTy:=(hTy.sat s4).sat s5;replace hDA:=hDA.sat s5;replace hB:=((((hB.sat s1).sat s2).sat s3).sat s4).sat s5;clear s1 s2 s3 s4 s5;obtain ⟨Aty,ct,hVT,-,-⟩:=y25 hTy;subst hVT;rw [hnt] at H hTy;clear hnt;replace H:Hp _ _ _ (.box _ [_,_,_,_,_,_,_,_,_,_,_,_,_,_,_,_,_,_,_,_,_,_,_] _::M2):=H
             try dsimp only at H
             go_upto_region 46 with (fail)
             go_upto_region 47 with (first
              |(go_at_call 61;refine (q55 defs (y0i defs) n c nt ct A Aty g33 b28 b29 b30 b31 VD _ _ _ M2 H HN.out hB.d hm HNT.out hTy hA).mono ?_;clear H;rintro e1 w9 ⟨K9,cs9,rfl,hle9,H,hsch⟩;replace hA:=hA.sat hle9;replace hTy:=hTy.sat hle9;replace hDA:=hDA.sat hle9;replace hB:=hB.sat hle9;replace hDi:=hDi.sat hle9;replace hK:=hle9.trans hK;obtain ⟨s,hs⟩: ∃s,y2b defs (y0i defs)=s:=⟨_,rfl⟩;rw [hs] at hsch;obtain ⟨A6,c6,A7,c7,A8,c8,A9,c9,A10,c10,A11,c11,A12,c12,A14,c14,hcs,-,-,-,-,-,-,-,-⟩:=y0c hsch;obtain rfl:=Qal.1 (hcs.trans (List.toList_toArray ..).symm))
              |((with_reducible refine isL ?_);first
               |(refine sA 200 0 H ?_;clear H;intro w60 H)))
             obtain ⟨K10,s10,H,hbox⟩:=H.freezeKb;have T:TyA K10 g33 b28 b29 b30 b31 _ (.slice Aty nt ct) VD s (y0i defs) (y21 defs):=⟨hbox,hsch.sat s10,by rw [HNT.out];exact hTy.sat s10,hDi.sat s10,hA.sat s10,hDA.sat s10⟩;replace hK:=s10.trans hK;clear hbox hsch hTy hDi hA hDA hB s10;subst hM2
             go_wp2_with (first
              |(go_at_call 62;refine (q0w g33 b28 b29 b30 b31 _ _ VD s (y0i defs) (y21 defs) nt _ _ _ M H T HNT.out (by omega)).mono ?_;clear H;rintro e1 w11 ⟨rfl,OB,hOB,H⟩))
             obtain ⟨K11,s11,H,hf⟩:=H.freezeKm;obtain ⟨K12,s12,H,ho⟩:=H.freezeKm;obtain ⟨K13,s13,H,hsets⟩:=Hp.freezeMaps H;go_ret;have HF:=H;subst hs;exact ⟨K13,g33,rfl,s13.trans (s12.trans (s11.trans hK)),HF,b28,b29,b30,b31,_,_,VD,OB,⟨((T.sat s11).sat s12).sat s13,(hf.sat s12).sat s13,ho.sat s13,hOB,hsets⟩⟩
end Go.Proofs.YtbpgkkoeehopjaaGreat.hp
namespace Go.Proofs.YtbpgkkoeehopjaaGreat.hp
open Go.RowKit lex gram dat ty
theorem q57 (l:List DefD):y0k (y0i l)≤y0k l+1000:=by
 have h1:=z9l l (y2j l);have h2:=y8q z01 givenT (bare l).1;have h3:=z9k l ([],[]);have h4:=g12 l;have h5:=z2p.1;have h7:y0k ([]:List DefD)=0:=rfl;simp only [h7] at h3;unfold y0i y2j bare at*;unfold y0k at*;omega
theorem q66 (l:List DefD):y0k (y21 l)≤y0k l+1000:=by
 have h1:=q54 l;have h5:=z2p.2;omega
theorem q3q (l:List DefD) (ts:List DefD):defN (y2b l ts)≤2*y0k l+10:=by
 unfold y2b;split
 ·have hr:(y8p ts).length≤3:=by
   unfold y8p;rw [Qay];exact Qah (Qb3 _ _) (by rw [List.length_zipIdx];exact Qab _)
  unfold defN y5f;simp only [List.length_nil,sumN];omega
 ·rename_i d hd;have h1:=z2l l d;obtain ⟨i,hi⟩:=Qbp.1 (List.mem_of_find?_eq_some hd);have h2:=y24 hi;omega
structure TyW (D:TysD):Prop where
 nd:(y0a D.types).Nodup
 ndd:(y0a D.dirs).Nodup
 nT:y0k D.types≤3002000
 nD:y0k D.dirs≤3002000
 nS:defN D.schema≤9000000
 f:FOk D.types D.fields
 o:OOk D.types D.objects
theorem z5v (l:List DefD) (h:y0k l≤2900000):TyW (y0w l):=by
 have h1:=q57 l;have h2:=q66 l;have h3:=q3q l (y0i l);exact ⟨y3k l,x3j l,by show y0k (y0i l)≤_;omega,by show y0k (y21 l)≤_;omega,by show defN (y2b l (y0i l))≤_;omega,z9i _,y6y (y3k l)⟩
def Tp (K:World) (v:Value) (D:TysD):Prop:=(v= .pointer none∧D=y0w [])∨ ∃g,v= .pointer (some ⟨g,0,none⟩)∧TysK K g D
theorem Tp.sat {K K':World} {v:Value} {D:TysD} (h:Tp K v D) (hs:Sat K' K):Tp K' v D:=by
 rcases h with h|⟨g,h1,h2⟩
 ·exact .inl h
 ·exact .inr ⟨g,h1,h2.sat hs⟩
theorem TysK.tp {K:World} {g:Nat} {D:TysD} (h:TysK K g D):Tp K (.pointer (some ⟨g,0,none⟩)) D:=.inr ⟨g,rfl,h⟩
open words enc tree rd dec held
set_option maxRecDepth 100000
attribute [local go_sem ↓] Go.wp_at_zero Go.wp_at_succ
theorem z0e (v:Value) (D:TysD) (w0 w K:World) (M:List Ent) (H:Hp w0 w K M) (T:Tp K v D):
  Calls Tryz.prog 64 #[v] w fun e w'=>∃K' g,e= .returned (.pointer (some ⟨g,0,none⟩))∧Sat K' K∧Hp w0 w' K' M∧TysK K' g D:=by
 rcases T with ⟨rfl,rfl⟩|⟨g,rfl,T⟩
 ·have hz:RD K (.list 0 (y0s [])) (.slice none 0 0):=RD.z;go_enter Tryz.func64,Tryz.ntmps64
  go_wp2_with (first
   |(go_at_call 14;refine (y7p [] 0 0 none w0 _ K M H rfl hz (by simp [y0k,sumN])).mono ?_;clear H;rintro e w1 ⟨K1,g,rfl,hle,H,hT⟩))
  go_ret;exact ⟨K1,g,rfl,hle,H,hT⟩
 ·skip
  go_enter Tryz.func64,Tryz.ntmps64
  go_wp2_with fail
  go_ret;exact ⟨K,g,rfl,Sat.refl K,H,T⟩
def DefR (d:DefD) (K:World) (v:Value):Prop:=∃cs,v= .agg cs∧RL K (defL d) cs.toList
theorem Kb.range {w:World} {g:Nat} {cs us:List Value} {t:TypeId} (h:Kb w g (us++cs) t):w.rangeAt g 0 us:=fun k u hu=>by
 rw [Nat.zero_add];exact h.cell (by rw [Qa9 (Qac.1 hu).1];exact hu)
theorem q03 (v:Value) (D:TysD) (d:DefD) (w0 w K:World) (M:List Ent) (H:Hp w0 w K M) (hv:Tp K v D) (hW:TyW D) (hD:D.schema=d):
  Calls Tryz.prog 18 #[v] w (Post w0 K M (DefR d)):=by
 have hN:defN d≤9000000:=hD▸hW.nS;have hsz:(Tryz.prog.info? 43).map (·.size)=some 17:=y4u;go_enter Tryz.func18,Tryz.ntmps18;have hK:=Sat.refl K
 go_upto_region 1 with (first
  |((with_reducible refine isL ?_);first
   |(refine al z43 2 H ?_;clear H;intro w5 g2 H)))
 go_wp2_with (first
  |(go_at_call 64;refine (z0e _ D _ _ K _ H hv).mono ?_;clear H;rintro e w5 ⟨K5,g5,rfl,hle,H,hT5⟩;replace hK:=hle.trans hK;obtain ⟨ga,gd,gf,go,sch,VT,VD,OB,T⟩:=hT5;have hs:=T.a.sch;rw [hD] at hs;have hlen:=T.a.len)
  |(go_at_call 65;refine (y4g d sch.toArray H hN hs).mono ?_;clear H;rintro e w6 ⟨K6,cs5,rfl,hle6,H,hd5⟩;replace hK:=hle6.trans hK;obtain ⟨B6,e6,B7,e7,B8,e8,B9,e9,B10,e10,B11,e11,B12,e12,B14,e14,hcs5,-,-,-,-,-,-,-,-⟩:=y0c hd5;obtain rfl:cs5= #[.int .i64 d.kind,.bool d.ext,.bool d.note.has,.bool d.note.block,.string (str d.note.text),.string (str d.name),.slice B6 d.ifaces.length e6,.slice B7 d.dirs.length e7,.slice B8 d.fields.length e8,.slice B9 d.inputs.length e9,.slice B10 d.members.length e10,.slice B11 d.values.length e11,.slice B12 d.roots.length e12,.bool d.rep,.slice B14 d.places.length e14,.int .i64 d.line,.int .i64 d.col]:=Qal.1 hcs5;clear hcs5)
  |((with_reducible show wpList _ _ _ (_::_) _ _);refine wpList_load_mid (by rfl) 43 (.tmp 6) (by rfl) g5 0 (by first|rfl|simp [Act.eval,Act.put]) sch _ (Kb.range (T.a.box.sat H.sat)) Tryz.underlying43 rfl (by rw [hlen];exact hsz) ?_)
  |((with_reducible refine isL ?_);first
   |(refine sA 2 0 H ?_;clear H;intro w9 H)))
 refine bodyPost_ret (v:=.agg #[.int .i64 d.kind,.bool d.ext,.bool d.note.has,.bool d.note.block,.string (str d.note.text),.string (str d.name),.slice B6 d.ifaces.length e6,.slice B7 d.dirs.length e7,.slice B8 d.fields.length e8,.slice B9 d.inputs.length e9,.slice B10 d.members.length e10,.slice B11 d.values.length e11,.slice B12 d.roots.length e12,.bool d.rep,.slice B14 d.places.length e14,.int .i64 d.line,.int .i64 d.col]) (results_cell_row rfl _ _ g2 43 _ (0,0) _ (by rfl) (H.blkAt (i:=0) rfl) Tryz.underlying43 rfl (by kernel_rfl)) rfl ?_;replace H:=H.sub (Qai _ (Qam _));exact ⟨K6,_,rfl,hK,H,_,rfl,hd5⟩
def y2t (l:List DefD) (x:Txt):Option DefD:=(y1u l x).bind fun i=>l[i]?
def z1a:DefD:={y5f with kind:=0}
def DefO (o:Option DefD) (K:World) (v:Value):Prop:=∃cs,v= .tuple #[.agg cs,.bool o.isSome]∧RL K (defL (o.getD z1a)) cs.toList
theorem x1c {K:World}:RL K (defL z1a) [.int .i64 0,.bool false,.bool false,.bool false,.string ⟨#[]⟩,.string ⟨#[]⟩,.slice none 0 0,.slice none 0 0,.slice none 0 0,.slice none 0 0,.slice none 0 0,.slice none 0 0,.slice none 0 0,.bool false,.slice none 0 0,.int .i64 0,.int .i64 0]:=.lit (.lit (.lit (.lit (.lit (.lit (.cons RD.z (.cons RD.z (.cons RD.z (.cons RD.z (.cons RD.z (.cons RD.z (.cons RD.z (.lit (.cons RD.z (.lit (.lit RL.z))))))))))))))))
theorem z4k {l:List DefD} {x:Txt} (h:y1u l x=none):y2t l x=none:=by unfold y2t;rw [h];rfl
theorem y7q {l:List DefD} {x:Txt} {i:Nat} {d:DefD} (h:y1u l x=some i) (hd:l[i]?=some d):y2t l x=some d:=by unfold y2t;rw [h];exact hd
theorem x7l (v:Value) (x:Txt) (D:TysD) (w0 w K:World) (M:List Ent) (H:Hp w0 w K M) (hv:Tp K v D) (hW:TyW D):
  Calls Tryz.prog 19 #[v,.string (str x)] w (Post w0 K M (DefO (y2t D.types x))):=by
 have hq:=y13 D.types x;have hN:=hW.nT;have hsz:(Tryz.prog.info? 43).map (·.size)=some 17:=y4u
 cases hi:y1u D.types x with
 |none=>
  rw [hi] at hq;replace hq:y0r (nmap (y0a D.types)) x=none:=hq;rw [z4k hi];clear hi;go_enter Tryz.func19,Tryz.ntmps19;have hK:=Sat.refl K
  go_upto_region 1 with (first
   |((with_reducible refine isL ?_);first
    |(refine al z43 4 H ?_;clear H;intro w10 g4 H)))
  go_upto_region 2 with (first
   |(go_at_call 64;refine (z0e _ D _ _ K _ H hv).mono ?_;clear H;rintro e w5 ⟨K5,g5,rfl,hle,H,hT5⟩;replace hK:=hle.trans hK))
  obtain ⟨ga,gd,gf,go,sch,VT,VD,OB,T⟩:=hT5;have hcA:=H.kcell T.a.box T.a.c18
  go_wp2_with (first
   |(refine y08 (by rfl) (.tmp 14) (.tmp 15) 87 true (by rfl) Tryz.underlying87 (y07 Tryz.underlying9) (.int .i64 0) y0n ga (nmap (y0a D.types)) (H.kmap T.a.at_) (by first|rfl|simp [Act.eval,Act.put]) (x) (by first|rfl|simp [Act.eval,Act.put]) (.tuple #[.int .i64 0,.bool false]) (by rw [hq];rfl) ?_)
   |((with_reducible refine isL ?_);first
    |(refine sA 4 0 H ?_;clear H;intro w13 H)))
  refine bodyPost_ret (y4w rfl _ _ g4 43 _ (0,0) _ (by rfl) (H.blkAt (i:=0) rfl) Tryz.underlying43 rfl (by kernel_rfl)) rfl ?_;replace H:=H.sub (Qai _ (Qam _));exact ⟨K5,_,rfl,hK,H,_,rfl,x1c⟩
 |some i=>
  rw [hi] at hq;replace hq:y0r (nmap (y0a D.types)) x=some (.int .i64 (i:Int)):=hq;obtain ⟨d,hd,-⟩:=y1o hi;rw [y7q hi hd];have hlt:=y5z hi
  have hltI:(i:Int)<(D.types.length:Int):=by omega
  have hdn:=y24 hd
  have hdm:defN d≤9000000:=by omega
  clear hi;go_enter Tryz.func19,Tryz.ntmps19;have hK:=Sat.refl K
  go_upto_region 1 with (first
   |((with_reducible refine isL ?_);first
    |(refine al z43 4 H ?_;clear H;intro w14 g4 H)))
  go_upto_region 2 with (first
   |(go_at_call 64;refine (z0e _ D _ _ K _ H hv).mono ?_;clear H;rintro e w5 ⟨K5,g5,rfl,hle,H,hT5⟩;replace hK:=hle.trans hK))
  obtain ⟨ga,gd,gf,go,sch,VT,VD,OB,T⟩:=hT5;have hcA:=H.kcell T.a.box T.a.c18;have hcT:=H.kcell T.a.box T.a.c17;have hTy:=T.a.types;obtain ⟨A,c,hVT,hc1,hc2⟩:=y25 hTy;rw [hVT] at hTy hcT;obtain ⟨ad,xs,hA,hxd,hxl,hatK⟩:=y3d (m:=17) (f:=defL) y05 hTy hd (by omega);subst hA
  go_upto_region 3 with (first
   |(refine y08 (by rfl) (.tmp 14) (.tmp 15) 87 true (by rfl) Tryz.underlying87 (y07 Tryz.underlying9) (.int .i64 0) y0n ga (nmap (y0a D.types)) (H.kmap T.a.at_) (by first|rfl|simp [Act.eval,Act.put]) (x) (by first|rfl|simp [Act.eval,Act.put]) (.tuple #[.int .i64 (i:Int),.bool true]) (by rw [hq];rfl) ?_))
  go_upto_region 5 with (fail)
  go_wp2_with (first
   |(go_at_call 65;refine (y4g d xs.toArray H hdm hxd).mono ?_;clear H;rintro e w6 ⟨K6,cs5,rfl,hle6,H,hd5⟩;replace hK:=hle6.trans hK;obtain ⟨B6,e6,B7,e7,B8,e8,B9,e9,B10,e10,B11,e11,B12,e12,B14,e14,hcs5,-,-,-,-,-,-,-,-⟩:=y0c hd5;obtain rfl:cs5= #[.int .i64 d.kind,.bool d.ext,.bool d.note.has,.bool d.note.block,.string (str d.note.text),.string (str d.name),.slice B6 d.ifaces.length e6,.slice B7 d.dirs.length e7,.slice B8 d.fields.length e8,.slice B9 d.inputs.length e9,.slice B10 d.members.length e10,.slice B11 d.values.length e11,.slice B12 d.roots.length e12,.bool d.rep,.slice B14 d.places.length e14,.int .i64 d.line,.int .i64 d.col]:=Qal.1 hcs5;clear hcs5)
   |((with_reducible show wpList _ _ _ (_::_) _ _);refine y0d (by rfl) 43 (.tmp 27) (by rfl) (ad.add (i*17)) (by simp [Act.eval,Act.put]) _ _ (At.sat hatK H.sat) Tryz.underlying43 rfl (by rw [hxl];exact hsz) ?_)
   |((with_reducible refine isL ?_);first
    |(refine sA 4 0 H ?_;clear H;intro w18 H)))
  refine bodyPost_ret (y4w rfl _ _ g4 43 _ (0,0) _ (by rfl) (H.blkAt (i:=0) rfl) Tryz.underlying43 rfl (by kernel_rfl)) rfl ?_;replace H:=H.sub (Qai _ (Qam _));exact ⟨K6,_,rfl,hK,H,_,rfl,hd5⟩
theorem z9m (v:Value) (x:Txt) (D:TysD) (w0 w K:World) (M:List Ent) (H:Hp w0 w K M) (hv:Tp K v D) (hW:TyW D):
  Calls Tryz.prog 22 #[v,.string (str x)] w (Post w0 K M (DefO (y2t D.dirs x))):=by
 have hq:=y13 D.dirs x;have hN:=hW.nD;have hsz:(Tryz.prog.info? 43).map (·.size)=some 17:=y4u
 cases hi:y1u D.dirs x with
 |none=>
  rw [hi] at hq;replace hq:y0r (nmap (y0a D.dirs)) x=none:=hq;rw [z4k hi];clear hi;go_enter Tryz.func22,Tryz.ntmps22;have hK:=Sat.refl K
  go_upto_region 1 with (first
   |((with_reducible refine isL ?_);first
    |(refine al z43 4 H ?_;clear H;intro w19 g4 H)))
  go_upto_region 2 with (first
   |(go_at_call 64;refine (z0e _ D _ _ K _ H hv).mono ?_;clear H;rintro e w5 ⟨K5,g5,rfl,hle,H,hT5⟩;replace hK:=hle.trans hK))
  obtain ⟨ga,gd,gf,go,sch,VT,VD,OB,T⟩:=hT5;have hcA:=H.kcell T.a.box T.a.c20
  go_wp2_with (first
   |(refine y08 (by rfl) (.tmp 14) (.tmp 15) 87 true (by rfl) Tryz.underlying87 (y07 Tryz.underlying9) (.int .i64 0) y0n gd (nmap (y0a D.dirs)) (H.kmap T.a.dirAt) (by first|rfl|simp [Act.eval,Act.put]) (x) (by first|rfl|simp [Act.eval,Act.put]) (.tuple #[.int .i64 0,.bool false]) (by rw [hq];rfl) ?_)
   |((with_reducible refine isL ?_);first
    |(refine sA 4 0 H ?_;clear H;intro w22 H)))
  refine bodyPost_ret (y4w rfl _ _ g4 43 _ (0,0) _ (by rfl) (H.blkAt (i:=0) rfl) Tryz.underlying43 rfl (by kernel_rfl)) rfl ?_;replace H:=H.sub (Qai _ (Qam _));exact ⟨K5,_,rfl,hK,H,_,rfl,x1c⟩
 |some i=>
  rw [hi] at hq;replace hq:y0r (nmap (y0a D.dirs)) x=some (.int .i64 (i:Int)):=hq;obtain ⟨d,hd,-⟩:=y1o hi;rw [y7q hi hd];have hlt:=y5z hi
  have hltI:(i:Int)<(D.dirs.length:Int):=by omega
  have hdn:=y24 hd
  have hdm:defN d≤9000000:=by omega
  clear hi;go_enter Tryz.func22,Tryz.ntmps22;have hK:=Sat.refl K
  go_upto_region 1 with (first
   |((with_reducible refine isL ?_);first
    |(refine al z43 4 H ?_;clear H;intro w23 g4 H)))
  go_upto_region 2 with (first
   |(go_at_call 64;refine (z0e _ D _ _ K _ H hv).mono ?_;clear H;rintro e w5 ⟨K5,g5,rfl,hle,H,hT5⟩;replace hK:=hle.trans hK))
  obtain ⟨ga,gd,gf,go,sch,VT,VD,OB,T⟩:=hT5;have hcA:=H.kcell T.a.box T.a.c20;have hcT:=H.kcell T.a.box T.a.c19;have hTy:=T.a.dirs;obtain ⟨A,c,hVT,hc1,hc2⟩:=y25 hTy;rw [hVT] at hTy hcT;obtain ⟨ad,xs,hA,hxd,hxl,hatK⟩:=y3d (m:=17) (f:=defL) y05 hTy hd (by omega);subst hA
  go_upto_region 3 with (first
   |(refine y08 (by rfl) (.tmp 14) (.tmp 15) 87 true (by rfl) Tryz.underlying87 (y07 Tryz.underlying9) (.int .i64 0) y0n gd (nmap (y0a D.dirs)) (H.kmap T.a.dirAt) (by first|rfl|simp [Act.eval,Act.put]) (x) (by first|rfl|simp [Act.eval,Act.put]) (.tuple #[.int .i64 (i:Int),.bool true]) (by rw [hq];rfl) ?_))
  go_upto_region 5 with (fail)
  go_wp2_with (first
   |(go_at_call 65;refine (y4g d xs.toArray H hdm hxd).mono ?_;clear H;rintro e w6 ⟨K6,cs5,rfl,hle6,H,hd5⟩;replace hK:=hle6.trans hK;obtain ⟨B6,e6,B7,e7,B8,e8,B9,e9,B10,e10,B11,e11,B12,e12,B14,e14,hcs5,-,-,-,-,-,-,-,-⟩:=y0c hd5;obtain rfl:cs5= #[.int .i64 d.kind,.bool d.ext,.bool d.note.has,.bool d.note.block,.string (str d.note.text),.string (str d.name),.slice B6 d.ifaces.length e6,.slice B7 d.dirs.length e7,.slice B8 d.fields.length e8,.slice B9 d.inputs.length e9,.slice B10 d.members.length e10,.slice B11 d.values.length e11,.slice B12 d.roots.length e12,.bool d.rep,.slice B14 d.places.length e14,.int .i64 d.line,.int .i64 d.col]:=Qal.1 hcs5;clear hcs5)
   |((with_reducible show wpList _ _ _ (_::_) _ _);refine y0d (by rfl) 43 (.tmp 27) (by rfl) (ad.add (i*17)) (by simp [Act.eval,Act.put]) _ _ (At.sat hatK H.sat) Tryz.underlying43 rfl (by rw [hxl];exact hsz) ?_)
   |((with_reducible refine isL ?_);first
    |(refine sA 4 0 H ?_;clear H;intro w27 H)))
  refine bodyPost_ret (y4w rfl _ _ g4 43 _ (0,0) _ (by rfl) (H.blkAt (i:=0) rfl) Tryz.underlying43 rfl (by kernel_rfl)) rfl ?_;replace H:=H.sub (Qai _ (Qam _));exact ⟨K6,_,rfl,hK,H,_,rfl,hd5⟩
theorem z9n {w:World} {a T:Nat} {d:RootD} {vs:List Value} (h:DatL w a T (z08 d) vs):vs=[.int .i64 d.op,.string (str d.type),.int .i64 d.line,.int .i64 d.col]:=by
 obtain ⟨r0,rfl,h0⟩:=h.lit_inv;obtain ⟨r1,rfl,h1⟩:=h0.lit_inv;obtain ⟨r2,rfl,h2⟩:=h1.lit_inv;obtain ⟨r3,rfl,h3⟩:=h2.lit_inv;rw [h3.nil_inv]
theorem x7m {α:Type} {p:α→Bool}: ∀{l:List α} {k:Nat} {x:α},(∀y∈l.take k,p y=false)→l[k]?=some x→p x=true→l.find? p=some x
 |[],k,x,_,h,_=>by simp at h
 |a::r,0,x,_,h,hp=>by
  simp only [List.getElem?_cons_zero,Option.some.injEq] at h;subst h;simp [List.find?_cons,hp]
 |a::r,k+1,x,h0,h,hp=>by
  have ha:p a=false:=h0 a (by simp);have:=x7m (l:=r) (k:=k) (fun y hy=>h0 y (by rw [List.take_succ_cons];exact Qa2 _ hy)) (by simpa using h) hp;simp [List.find?_cons,ha,this]
theorem q3r {α:Type} {p:α→Bool} {l:List α} (h: ∀y∈l,p y=false):l.find? p=none:=by
 rw [List.find?_eq_none];intro y hy;rw [h y hy];exact Bool.false_ne_true
theorem x1d {α:Type} {p:α→Bool} {l:List α} {k:Nat} {x:α} (h: ∀y∈l.take k,p y=false) (hx:l[k]?=some x) (hp:p x=false): ∀y∈l.take (k+1),p y=false:=by
 intro y hy;rw [y1j hx] at hy;rcases Qbf.1 hy with hy|hy
 ·exact h y hy
 ·obtain rfl:=Qax.1 hy;exact hp
theorem x7n:(Tryz.prog.info? 100).map (·.size)=some 4:=by kernel_rfl
def z7p (rs:List RootD) (op:Int):Txt:=((rs.find? fun r=>r.op==op).map (·.type)).getD []
set_option maxHeartbeats 4000000 in
theorem q2e (v:Value) (op:Int) (D:TysD) (w0 w K:World) (M:List Ent) (H:Hp w0 w K M) (hv:Tp K v D) (hW:TyW D):
  Calls Tryz.prog 17 #[v,.int .i64 op] w fun e w'=>∃K',e= .returned (.string (str (z7p D.schema.roots op)))∧Sat K' K∧Hp w0 w' K' M:=by
 have hsz:=x7n
 have hrl:D.schema.roots.length≤9000000:=by have:=hW.nS;unfold defN at this;omega
 obtain ⟨rs,hrs⟩: ∃rs,D.schema.roots=rs:=⟨_,rfl⟩;obtain ⟨n,hn⟩: ∃n,rs.length=n:=⟨_,rfl⟩;rw [hrs] at hrl ⊢;rw [hn] at hrl;have HN:=hide hn;go_enter Tryz.func17,Tryz.ntmps17;have hK:=Sat.refl K
 go_wp2_with (first
  |(go_at_call 64;refine (z0e _ D _ _ K _ H hv).mono ?_;clear H;rintro e w5 ⟨K5,g5,rfl,hle,H,hT5⟩;replace hK:=hle.trans hK;obtain ⟨ga,gd,gf,go,sch,VT,VD,OB,T⟩:=hT5;obtain ⟨A6,c6,A7,c7,A8,c8,A9,c9,A10,c10,A11,c11,A12,c12,A14,c14,hcs,-,-,-,-,-,-,hr,-⟩:=y0c T.a.sch;subst hcs;have h12:=H.kcell (j:=12) T.a.box rfl;rw [hrs,hn] at hr;rw [hrs,hn] at h12))
 clear hn hrs h12 T
 go_loopw [14] (fun i wr=>∃k:Nat,k≤n∧i= .int .i64 k∧Hp w0 wr K5 M∧ ∀y∈rs.take k,(y.op==op)=false) (fun i _=>n - (intOf i).toNat)
 case atStart=>exact ⟨0,Qak _,rfl,H,by simp⟩
 case round=>
  clear H;obtain ⟨k,hk,rfl,H,hno⟩:=hrel;by_cases hlt:k<n
  ·have hkI:(k:Int)<(n:Int):=by omega
   obtain ⟨x,hx⟩: ∃x,rs[k]?=some x:=⟨_,Qad (by rw [HN.out];exact hlt)⟩;have HX:=hide hx;obtain ⟨ad,xs,hA,hxd,_,hatK⟩:=y3d (m:=4) (f:=z08) (fun _=>rfl) hr hx (by omega);subst hA;clear hx;obtain rfl:=z9n hxd;clear hxd;have hno:=hide hno;obtain ⟨xo,hxo⟩: ∃xo,x.op=xo:=⟨_,rfl⟩;rw [hxo] at hatK;by_cases hop:xo=op
   ·subst hop
    go_wp2_with (first
     |((with_reducible show wpList _ _ _ (_::_) _ _);refine y0d (by rfl) 100 (.tmp 16) (by rfl) (ad.add (k*4)) (by simp [Act.eval,Act.put]) _ _ (At.sat hatK H.sat) Tryz.underlying100 rfl hsz ?_)
     |((with_reducible refine isL ?_);first
      |(refine al z100 6 H ?_;clear H;intro w1 g6 H;have:=H.c 0 0;have:=H.c 0 1)
      |(refine sA 6 0 H ?_;clear H;intro w3 H;have:=H.c 0 0;have:=H.c 0 1)))
    replace H:=H.sub (Qai _ (Qam _));go_ret;exact ⟨K5,by unfold z7p;rw [x7m hno.out HX.out (by simp [hxo])];rfl,hK,H⟩
   ·have hb:(x.op==op)=false:=by simp [hxo,hop]
    go_wp2_with (first
     |((with_reducible show wpList _ _ _ (_::_) _ _);refine y0d (by rfl) 100 (.tmp 16) (by rfl) (ad.add (k*4)) (by simp [Act.eval,Act.put]) _ _ (At.sat hatK H.sat) Tryz.underlying100 rfl hsz ?_)
     |((with_reducible refine isL ?_);first
      |(refine al z100 6 H ?_;clear H;intro w4 g6 H;have:=H.c 0 0)
      |(refine sA 6 0 H ?_;clear H;intro w6 H;have:=H.c 0 0)))
    replace H:=H.sub (Qai _ (Qam _));go_roundw
    case rel=>exact ⟨k+1,by omega,by go_num,H,x1d hno.out HX.out hb⟩
    case measure=>simp [intOf];omega
  ·obtain rfl:n=k:=by omega
   have htk:rs.take n=rs:=by rw [←HN.out];exact List.take_length
   rw [htk] at hno;have hno:=hide hno
   go_wp2_with fail
   go_ret;exact ⟨K5,by unfold z7p;rw [q3r hno.out];rfl,hK,H⟩
def inK (k:Int):Bool:=k==2||k==6||k==7
def outK (k:Int):Bool:=k==2||k==6||k==3||k==4||k==5
theorem q3s (v:Value) (x:Txt) (D:TysD) (w0 w K:World) (M:List Ent) (H:Hp w0 w K M) (hv:Tp K v D):
  Calls Tryz.prog 31 #[v,.string (str x)] w fun e w'=>∃K',e= .returned (.bool (inK (y0e D.types x)))∧Sat K' K∧Hp w0 w' K' M:=by
 obtain ⟨kk,hkk⟩: ∃kk,y0e D.types x=kk:=⟨_,rfl⟩
 have hg: ∀(b:Bool),inK kk=b→Calls Tryz.prog 31 #[v,.string (str x)] w fun e w'=>∃K',e= .returned (.bool b)∧Sat K' K∧Hp w0 w' K' M:=by
  intro b hb;have hK:=Sat.refl K;go_enter Tryz.func31,Tryz.ntmps31
  go_upto_region 2 with (first
   |(go_at_call 64;refine (z0e _ D _ _ K _ H hv).mono ?_;clear H;rintro e w5 ⟨K5,g5,rfl,hle,H,hT5⟩;replace hK:=hle.trans hK;obtain ⟨ga,gd,gf,go,sch,VT,VD,OB,T⟩:=hT5)
   |(go_at_call 79;refine (y1n x kk g5 ga gd gf go sch VT VD D.schema D.types D.dirs _ _ _ _ H T.a hkk).mono ?_;clear H;rintro e w6 ⟨rfl,H⟩))
  clear T
  rcases (show kk=2∨kk=6∨kk=7∨(kk≠2∧kk≠6∧kk≠7) by omega) with rfl|rfl|rfl|⟨h1,h2,h3⟩<;>(go_wp2_with fail;go_ret;exact ⟨K5,by subst hb;simp [inK,outK, *],hK,H⟩)
 rw [hkk];exact hg _ rfl
theorem q04 (v:Value) (x:Txt) (D:TysD) (w0 w K:World) (M:List Ent) (H:Hp w0 w K M) (hv:Tp K v D):
  Calls Tryz.prog 33 #[v,.string (str x)] w fun e w'=>∃K',e= .returned (.bool (outK (y0e D.types x)))∧Sat K' K∧Hp w0 w' K' M:=by
 obtain ⟨kk,hkk⟩: ∃kk,y0e D.types x=kk:=⟨_,rfl⟩
 have hg: ∀(b:Bool),outK kk=b→Calls Tryz.prog 33 #[v,.string (str x)] w fun e w'=>∃K',e= .returned (.bool b)∧Sat K' K∧Hp w0 w' K' M:=by
  intro b hb;have hK:=Sat.refl K;go_enter Tryz.func33,Tryz.ntmps33
  go_upto_region 2 with (first
   |(go_at_call 64;refine (z0e _ D _ _ K _ H hv).mono ?_;clear H;rintro e w5 ⟨K5,g5,rfl,hle,H,hT5⟩;replace hK:=hle.trans hK;obtain ⟨ga,gd,gf,go,sch,VT,VD,OB,T⟩:=hT5)
   |(go_at_call 79;refine (y1n x kk g5 ga gd gf go sch VT VD D.schema D.types D.dirs _ _ _ _ H T.a hkk).mono ?_;clear H;rintro e w6 ⟨rfl,H⟩))
  clear T
  rcases (show kk=2∨kk=6∨kk=3∨kk=4∨kk=5∨(kk≠2∧kk≠6∧kk≠3∧kk≠4∧kk≠5) by omega) with rfl|rfl|rfl|rfl|rfl|⟨h1,h2,h3,h4,h5⟩<;>(go_wp2_with fail;go_ret;exact ⟨K5,by subst hb;simp [inK,outK, *],hK,H⟩)
 rw [hkk];exact hg _ rfl
theorem x7o {w:World} {p:Addr} {v:Value} (h:w.cell? p=some v): ∃B O,p=⟨B,O,none⟩:=by
 obtain ⟨b,o,sp⟩:=p
 cases sp with
 |none=>exact ⟨b,o,rfl⟩
 |some x=>
  unfold World.cell? at h;split at h
  ·simp at h
  ·cases h
theorem y50 {K:World} {α:Type} {f:α→List Leaf} {m n c:Nat} {ad:Addr} {l:List α} (hf: ∀x,(f x).length=m) (h:RD K (.list n (l.flatMap f)) (.slice (some ad) n c)) (hl:0<l.length) (hm:0<m): ∃B O,ad=⟨B,O,none⟩:=by
 obtain ⟨ad',vs,h1,_,h3,h4⟩:=y3d hf h (Qad hl) hm;injection h1 with h1;subst h1
 have h0:ad.add (0*m)=ad:=by unfold Addr.add;simp
 rw [h0] at h4
 cases vs with
 |nil=>simp at h3;omega
 |cons v r=>exact x7o (h4.1 v rfl)
theorem y9n (B O k:Nat):(⟨B,O,none⟩:Addr).add k=⟨B,O+k,none⟩:=by unfold Addr.add;split<;>simp_all
theorem q2f (x:NamedD) (b:Txt) (gb i:Nat) (w0 w K:World) (M:List Ent) (H:Hp w0 w K M) (hb:M[i]?=some (.box gb [.string (str b)] 9)):
  Calls Tryz.prog 82 #[.agg #[.string (str x.name),.int .i64 x.line,.int .i64 x.col],.pointer (some ⟨gb,0,none⟩)] w fun e w'=>e= .returned (.bool (decide (x.name=b)))∧Hp w0 w' K M:=by
 have hs:=y5e x.name b;go_enter Tryz.func82,Tryz.ntmps82
 go_wp2_with (first
  |((with_reducible show wpList _ _ _ (_::_) _ _);refine z0y (by rfl) 113 (.tmp 0) (by rfl) [.string (str x.name),.int .i64 x.line,.int .i64 x.col] _ (by rfl) (by rfl) (some 2) (by rfl) H ?_;clear H;intro w1 g2 H hg1;clear hg1;have c1:(w1).cell? ⟨g2,0,none⟩=some (.string (str x.name)):=H.cell (i:=0) rfl rfl;have c2:(w1).cell? ⟨gb,0,none⟩=some (.string (str b)):=H.cell (i:=i+1) (by simpa using hb) rfl))
 replace H:=Hp.tail H;go_ret;exact ⟨by rw [←hs];rfl,H⟩
set_option maxHeartbeats 4000000 in
theorem q05 (l:List NamedD) (b:Txt) (gb i n c:Nat) (A:Option Addr) (w0 w K:World) (M:List Ent) (H:Hp w0 w K M) (hb:M[i]?=some (.box gb [.string (str b)] 9)) (hn:l.length=n) (hd:RD K (.list n (y0v l)) (.slice A n c)) (hm:n≤20000000):
  Calls Tryz.prog 127 #[.slice A n c,.func (.func 82) #[] #[.pointer (some ⟨gb,0,none⟩)]] w fun e w'=>e= .returned (.int .i64 (idxI (l.findIdx? fun d=>decide (d.name=b))))∧Hp w0 w' K M:=by
 have HN:=hide hn;clear hn;go_enter Tryz.func127,Tryz.ntmps127
 go_wp2_with fail
 go_loopw [8] (fun i wr=>∃k:Nat,k≤n∧i= .int .i64 k∧Hp w0 wr K M∧ ∀y∈l.take k,decide (y.name=b)=false) (fun i _=>n - (intOf i).toNat)
 case atStart=>exact ⟨0,Qak _,rfl,H,by simp⟩
 case round=>
  clear H;obtain ⟨k,hk,rfl,H,hno⟩:=hrel;by_cases hlt:k<n
  ·have hkI:(k:Int)<(n:Int):=by omega
   obtain ⟨x,hx⟩: ∃x,l[k]?=some x:=⟨_,Qad (by rw [HN.out];exact hlt)⟩;have HX:=hide hx;obtain ⟨ad,xs,hA,hxd,_,hatK⟩:=y3d (m:=3) (f:=y74) (fun _=>rfl) hd hx (by omega);subst hA;clear hx;have hsz:=z4j;obtain rfl:=y60 hxd;clear hxd;have hno:=hide hno
   cases hq:decide (x.name=b) with
   |true=>
    go_wp2_with (first
     |((with_reducible show wpList _ _ _ (_::_) _ _);refine y0d (by rfl) 113 (.tmp 14) (by rfl) (ad.add (k*3)) (by simp [Act.eval,Act.put]) _ _ (At.sat hatK H.sat) Tryz.underlying113 rfl hsz ?_)
     |(go_at_call 82;refine (q2f x b gb i _ _ _ _ H hb).mono ?_;clear H;rintro e w1 ⟨rfl,H⟩;rw [hq]))
    go_ret;exact ⟨by rw [z0c hno.out HX.out hq];rfl,H⟩
   |false=>
    go_wp2_with (first
     |((with_reducible show wpList _ _ _ (_::_) _ _);refine y0d (by rfl) 113 (.tmp 14) (by rfl) (ad.add (k*3)) (by simp [Act.eval,Act.put]) _ _ (At.sat hatK H.sat) Tryz.underlying113 rfl hsz ?_)
     |(go_at_call 82;refine (q2f x b gb i _ _ _ _ H hb).mono ?_;clear H;rintro e w1 ⟨rfl,H⟩;rw [hq]))
    go_roundw
    case rel=>exact ⟨k+1,by omega,by go_num,H,x1d hno.out HX.out hq⟩
    case measure=>simp [intOf];omega
  ·obtain rfl:n=k:=by omega
   have htk:l.take n=l:=by rw [←HN.out];exact List.take_length
   rw [htk] at hno;have hno:=hide hno
   go_wp2_with fail
   go_ret;exact ⟨by rw [z4h hno.out];rfl,H⟩
theorem q3t {α:Type} (p:α→Bool) (l:List α):decide (0≤idxI (l.findIdx? p))=l.any p:=by
 cases h:l.findIdx? p with
 |none=>
  rw [List.findIdx?_eq_none_iff] at h
  have:l.any p=false:=by rw [List.any_eq_false];intro x hx;rw [h x hx];exact Bool.false_ne_true
  rw [this];rfl
 |some i=>
  obtain ⟨hi,h1,_⟩:=Qbs.1 h;have:l.any p=true:=Qbh.2 ⟨l[i],List.getElem_mem hi,h1⟩;rw [this];simp [idxI]
theorem x1e (l:List NamedD) (b:Txt) (gb i n c:Nat) (A:Option Addr) (w0 w K:World) (M:List Ent) (H:Hp w0 w K M) (hb:M[i]?=some (.box gb [.string (str b)] 9)) (hn:l.length=n) (hd:RD K (.list n (y0v l)) (.slice A n c)) (hm:n≤20000000):
  Calls Tryz.prog 81 #[.slice A n c,.func (.func 82) #[] #[.pointer (some ⟨gb,0,none⟩)]] w fun e w'=>e= .returned (.bool (l.any fun d=>decide (d.name=b)))∧Hp w0 w' K M:=by
 have hi:=q3t (fun d:NamedD=>decide (d.name=b)) l;obtain ⟨q,hq⟩: ∃q,idxI (l.findIdx? fun d=>decide (d.name=b))=q:=⟨_,rfl⟩;rw [←hi,hq];clear hi;go_enter Tryz.func81,Tryz.ntmps81
 go_wp2_with (first
  |(go_at_call 127;refine (q05 l b gb i n c A _ _ _ M H hb hn hd hm).mono ?_;clear H;rintro e w1 ⟨rfl,H⟩;rw [hq]))
 go_ret;exact ⟨by first|rfl|simp,H⟩
theorem oset (x:Txt): ∀OB:List (Txt×Nat×List (Txt×Value)),(y0r (y1m OB) x=none∧y1g (omap OB) x=[])∨ ∃p∈OB,y0r (y1m OB) x=some (.map (some p.2.1))∧y1g (omap OB) x=p.2.2
 |[]=>.inl ⟨rfl,rfl⟩
 |p::r=>by
  by_cases h:p.1=x
  ·exact .inr ⟨p,Qaz ..,by simp [y0r,y1m,h],by simp [y1g,omap,h]⟩
  ·have h1:y0r (y1m (p::r)) x=y0r (y1m r) x:=by simp [y0r,y1m,h]
   have h2:y1g (omap (p::r)) x=y1g (omap r) x:=by simp [y1g,omap,h]
   rw [h1,h2];rcases oset x r with h|⟨q,hq,h⟩
   ·exact .inl h
   ·exact .inr ⟨q,Qa2 _ hq,h⟩
theorem z0f {P:Program} {t kt et:Nat} {w:World} {z:Value} (ht:P.underlying t=some (.map kt et)) (hk:P.underlying kt=some .string) (hz:(zeroValue et).run P w= .ok z w) (x:Txt) (ok:Bool):
  (Instr.lookup t (.map none) (.string (str x)) ok).run P w= .ok (if ok then .tuple #[z,.bool false] else z) w:=by
 have hf:(Instr.findKey kt (.string (str x)) []).run P w= .ok none w:=y9k (P:=P) (w:=w) (l:=[]) hk x;unfold Instr.lookup
 cases ok<;>simp [Sem.run_bind,run_underlying ht w,Result.andThen_ok,y7j hk,hf,hz,Sem.run_pure]
theorem z4l (OB:List (Txt×Nat×List (Txt×Value))) (go:Nat) (x y:Txt):
  ∃mv,∀w,Km w go (y0o ks (y1m OB))→(∀p∈OB,Km w p.2.1 (y0o ks p.2.2))→(Instr.lookup 89 (.map (some go)) (.string (str x)) false).run Tryz.prog w= .ok mv w∧(Instr.lookup 87 mv (.string (str y)) true).run Tryz.prog w= .ok (.tuple #[(y0r (y1g (omap OB) x) y).getD (.int .i64 0),.bool (y0r (y1g (omap OB) x) y).isSome]) w:=by
 have h1:=fun w ho=>y01 (P:=Tryz.prog) (w:=w) (t:=89) (kt:=9) (et:=87) (l:=y1m OB) (b:=go) Tryz.underlying89 (y07 Tryz.underlying9) (.map none) (y4x w) ho x false;rcases oset x OB with ⟨hf,hS⟩|⟨p,hp,hf,hS⟩
 ·rw [hf] at h1;refine ⟨.map none,fun w ho hs=>⟨h1 w ho,?_⟩⟩;rw [hS];exact z0f Tryz.underlying87 Tryz.underlying9 (y0n w) y true
 ·rw [hf] at h1;refine ⟨.map (some p.2.1),fun w ho hs=>⟨h1 w ho,?_⟩⟩;rw [hS];exact y01 (P:=Tryz.prog) (w:=w) (t:=87) (kt:=9) (et:=3) (l:=p.2.2) (b:=p.2.1) Tryz.underlying87 (y07 Tryz.underlying9) (.int .i64 0) (y0n w) (hs p hp) y true
def y26 (D:TysD) (a b:Txt):Bool:=
 if y0e D.types a=0∨y0e D.types b=0 then false
 else if a=b then true
 else if y0e D.types b=5 then (y0r (y1g D.objects b) a).isSome
 else if y0e D.types b≠4∨(y0e D.types a≠3∧y0e D.types a≠4) then false
 else (((y2t D.types a).map (·.ifaces)).getD []).any fun n=>decide (n.name=b)
theorem z7q {ts:List DefD} {x:Txt} (h:y0e ts x≠0): ∃i d,y1u ts x=some i∧ts[i]?=some d∧d.kind=y0e ts x:=by
 cases hi:y1u ts x with
 |none=>exact absurd (y4p hi) h
 |some i=>
  obtain ⟨d,hd,_⟩:=y1o hi;exact ⟨i,d,rfl,hd,(y8r hi hd).symm⟩
set_option maxHeartbeats 16000000 in
theorem z5w (v:Value) (a b:Txt) (D:TysD) (w0 w K:World) (M:List Ent) (H:Hp w0 w K M) (hv:Tp K v D) (hW:TyW D):
  Calls Tryz.prog 37 #[v,.string (str a),.string (str b)] w fun e w'=>∃K',e= .returned (.bool (y26 D a b))∧Sat K' K∧Hp w0 w' K' M:=by
 have hwd:y26 D a b=y26 D a b:=rfl
 conv at hwd=>rhs;unfold y26
 obtain ⟨ka,hka⟩: ∃kk,y0e D.types a=kk:=⟨_,rfl⟩;obtain ⟨kb,hkb⟩: ∃kk,y0e D.types b=kk:=⟨_,rfl⟩;rw [hka,hkb] at hwd;have hst:=y5e a b;have HW:=hide hwd;clear hwd;go_enter Tryz.func37,Tryz.ntmps37;have hK:=Sat.refl K
 go_upto_region 1 with (first
  |(refine z0y (by rfl) 9 (.tmp 2) (by rfl) [.string (str b)] _ (by rfl) (by rfl) (some 5) (by rfl) H ?_;clear H;intro w1 g5 H hg2;clear hg2))
 go_upto_region 2 with (first
  |(go_at_call 64;refine (z0e _ D _ _ K _ H hv).mono ?_;clear H;rintro e w5 ⟨K5,g5_1,rfl,hle,H,hT5⟩;replace hK:=hle.trans hK))
 obtain ⟨ga,gd,gf,go,sch,VT,VD,OB,T⟩:=hT5;by_cases ha0:ka=0
 ·subst ha0;have HR:=hide (HW.out.trans (if_pos (.inl rfl)));have:=H.c 0 0
  go_wp2_with (first
   |(go_at_call 79;refine (y1n a _ g5_1 ga gd gf go sch VT VD D.schema D.types D.dirs _ _ _ _ H T.a hka).mono ?_;clear H;rintro e wa ⟨rfl,H⟩;have:=H.c 0 0))
  replace H:=H.sub (Qai _ (Qam _));go_ret;exact ⟨K5,by rw [HR.out];rfl,hK,H⟩
 ·have ha0':(ka==0)=false:=by simp [ha0]
  by_cases hb0:kb=0
  ·subst hb0;have HR:=hide (HW.out.trans (if_pos (.inr rfl)));have:=H.c 0 0;have tk5:True:=trivial
   go_wp2_with (first
    |(go_at_call 79;have tk_:=tk5;clear tk_ tk5;have tk6:True:=trivial;refine (y1n a _ g5_1 ga gd gf go sch VT VD D.schema D.types D.dirs _ _ _ _ H T.a hka).mono ?_;clear H;rintro e wa ⟨rfl,H⟩;have:=H.c 0 0)
    |(go_at_call 79;have tk_:=tk6;clear tk_ tk6;refine (y1n b _ g5_1 ga gd gf go sch VT VD D.schema D.types D.dirs _ _ _ _ H T.a hkb).mono ?_;clear H;rintro e wb ⟨rfl,H⟩;have:=H.c 0 0))
   replace H:=H.sub (Qai _ (Qam _));go_ret;exact ⟨K5,by rw [HR.out];rfl,hK,H⟩
  ·have hb0':(kb==0)=false:=by simp [hb0]
   have HW2:=hide (HW.out.trans (if_neg (fun h=>h.elim ha0 hb0)));clear HW;have:=H.c 0 0;have tk7:True:=trivial
   go_upto_region 4 with (first
    |(go_at_call 79;have tk_:=tk7;clear tk_ tk7;have tk8:True:=trivial;refine (y1n a _ g5_1 ga gd gf go sch VT VD D.schema D.types D.dirs _ _ _ _ H T.a hka).mono ?_;clear H;rintro e wa ⟨rfl,H⟩;have:=H.c 0 0)
    |(go_at_call 79;have tk_:=tk8;clear tk_ tk8;refine (y1n b _ g5_1 ga gd gf go sch VT VD D.schema D.types D.dirs _ _ _ _ H T.a hkb).mono ?_;clear H;rintro e wb ⟨rfl,H⟩;have:=H.c 0 0))
   by_cases hab:a=b
   ·have HR:=hide (HW2.out.trans (if_pos hab))
    have hab':((str a).toList==(str b).toList)=true:=by rw [hst];exact Qa5 hab
    clear hst;have:=H.c 0 0
    go_wp2_with fail
    replace H:=H.sub (Qai _ (Qam _));go_ret;exact ⟨K5,by rw [HR.out];rfl,hK,H⟩
   ·have HW3:=hide (HW2.out.trans (if_neg hab))
    have hab':((str a).toList==(str b).toList)=false:=by rw [hst];exact Qa4 hab
    clear hst HW2;have cb:(wb).cell? ⟨g5,0,none⟩=some (.string (str b)):=H.cell (i:=0) rfl rfl
    go_upto_region 6 with (fail)
    by_cases h5:kb=5
    ·subst h5;have HR:=hide (HW3.out.trans (if_pos rfl));obtain ⟨mv,hmv⟩:=z4l OB go b a;have:=H.c 0 0
     go_upto_region 7 with (first
      |(go_at_call 79;refine (y1n b _ g5_1 ga gd gf go sch VT VD D.schema D.types D.dirs _ _ _ _ H T.a hkb).mono ?_;clear H;rintro e wb ⟨rfl,H⟩;have:=H.c 0 0))
     have h22:=H.kcell T.a.box T.a.c22;have:=H.c 0 0;have hr1:=fun k=>(hmv ((wb).drewN k) (T.objects.sat (H.drew k).sat) (fun p hp=>(T.sets p hp).sat (H.drew k).sat)).1;have hr2:=fun k=>(hmv ((wb).drewN k) (T.objects.sat (H.drew k).sat) (fun p hp=>(T.sets p hp).sat (H.drew k).sat)).2
     go_quiet (fail)
     replace H:=H.drew nq;obtain ⟨w10,hq11⟩: ∃x,(wb).drewN nq=x:=⟨_,rfl⟩;rw [hq11] at H ⊢;clear hq11;replace H:Hp _ _ _ (_::M):=H
     go_wp2_with fail
     replace H:=H.sub (Qai _ (Qam _));go_ret;exact ⟨K5,by rw [HR.out,T.om];rfl,hK,H⟩
    ·have HW4:=hide (HW3.out.trans (if_neg h5));clear HW3
     have h5':(kb==5)=false:=by simp [h5]
     have cb1:(wb).cell? ⟨g5,0,none⟩=some (.string (str b)):=H.cell (i:=0) rfl rfl;have:=H.c 0 0
     go_upto_region 9 with (first
      |(go_at_call 79;refine (y1n b _ g5_1 ga gd gf go sch VT VD D.schema D.types D.dirs _ _ _ _ H T.a hkb).mono ?_;clear H;rintro e wb ⟨rfl,H⟩;have:=H.c 0 0))
     by_cases h4:kb=4
     ·subst h4;by_cases ha3:ka=3
      ·subst ha3;have HR:=hide (HW4.out.trans (if_neg (by simp)));have:=H.c 0 0;have tk13:True:=trivial
       go_upto_region 11 with (first
        |(go_at_call 79;have tk_:=tk13;clear tk_ tk13;have tk14:True:=trivial;refine (y1n b _ g5_1 ga gd gf go sch VT VD D.schema D.types D.dirs _ _ _ _ H T.a hkb).mono ?_;clear H;rintro e wb ⟨rfl,H⟩;have:=H.c 0 0)
        |(go_at_call 79;have tk_:=tk14;clear tk_ tk14;refine (y1n a _ g5_1 ga gd gf go sch VT VD D.schema D.types D.dirs _ _ _ _ H T.a hka).mono ?_;clear H;rintro e wa ⟨rfl,H⟩;have:=H.c 0 0))
       obtain ⟨i,d,hi,hd,hdk⟩:=z7q (ts:=D.types) (x:=a) (by rw [hka];omega);have hN:=hW.nT;have hdn:=y24 hd;have hif:=z2m d;have hlt:=y5z hi
       have hltI:(i:Int)<(D.types.length:Int):=by omega
       have hlk:=y7q hi hd;have hq:=y13 D.types a;rw [hi] at hq;replace hq:y0r (nmap (y0a D.types)) a=some (.int .i64 (i:Int)):=hq;have hTy:=T.a.types;obtain ⟨A,c,hVT,hc1,hc2⟩:=y25 hTy;have hcT:=T.a.c17;rw [hVT] at hTy;obtain ⟨ad,xs,hA,hxd,hxl,hatK⟩:=y3d (m:=17) (f:=defL) y05 hTy hd (by omega);subst hA;obtain ⟨B,O,hBO⟩:=y50 (m:=17) (f:=defL) y05 hTy (by omega) (by omega);subst hBO;obtain ⟨A6,c6,A7,c7,A8,c8,A9,c9,A10,c10,A11,c11,A12,c12,A14,c14,hcs,hfa,-,-,-,-,-,-,-⟩:=y0c hxd;subst hcs;subst hVT;rw [y9n] at hatK;have hcI:=hatK.2 5 _ rfl;refine held.begin_ (fun w'=>w'.cell? ⟨g5_1,17,none⟩=some (.slice (some ⟨B,O,none⟩) D.types.length c)∧w'.cell? ⟨g5_1,18,none⟩=some (.map (some ga))∧w'.cell? ⟨B,O+i*17+(5+1),none⟩=some (.slice A6 d.ifaces.length c6)∧(Instr.lookup 87 (.map (some ga)) (.string (str a)) false).run Tryz.prog w'= .ok (.int .i64 (i:Int)) w') [] (by kernel_rfl) ?_;replace H:=H.drew1;obtain ⟨w15,hq16⟩: ∃x,(wa).drew=x:=⟨_,rfl⟩;rw [hq16] at H ⊢;clear hq16;have hS17:w15.cell? ⟨g5_1,17,none⟩=some (.slice (some ⟨B,O,none⟩) D.types.length c)∧w15.cell? ⟨g5_1,18,none⟩=some (.map (some ga))∧w15.cell? ⟨B,O+i*17+(5+1),none⟩=some (.slice A6 d.ifaces.length c6)∧(Instr.lookup 87 (.map (some ga)) (.string (str a)) false).run Tryz.prog w15= .ok (.int .i64 (i:Int)) w15:=⟨H.kcell T.a.box T.a.c17,H.kcell T.a.box T.a.c18,H.sat.cell hcI,(y01 Tryz.underlying87 (y07 Tryz.underlying9) (.int .i64 0) (y0n _) (H.kmap T.a.at_) a false).trans (by rw [hq];rfl)⟩;refine tk 0 hS17 ?_;refine tk 1 hS17 ?_;refine tk 2 hS17 ?_;refine tk 3 hS17 ?_;refine tk 4 hS17 ?_;refine tk 5 hS17 ?_;refine tk 6 hS17 ?_;refine tk 7 hS17 ?_;refine tk 8 hS17 ?_;refine tk 9 hS17 ?_;refine tk 10 hS17 ?_;refine tk 11 hS17 ?_;refine tk 12 hS17 ?_;refine tk 13 hS17 ?_;refine held.step (i:=14) (by kernel_rfl) rfl (fun Kq hKq=>?_)
       go_simp
       refine (x1e d.ifaces b g5 0 d.ifaces.length c6 A6 _ _ _ _ H rfl rfl hfa (by omega)).mono ?_;clear H;rintro e wz ⟨rfl,H⟩;replace H:Hp _ _ _ (_::M):=H
       try go_simp
       have hS18:wz.cell? ⟨g5_1,17,none⟩=some (.slice (some ⟨B,O,none⟩) D.types.length c)∧wz.cell? ⟨g5_1,18,none⟩=some (.map (some ga))∧wz.cell? ⟨B,O+i*17+(5+1),none⟩=some (.slice A6 d.ifaces.length c6)∧(Instr.lookup 87 (.map (some ga)) (.string (str a)) false).run Tryz.prog wz= .ok (.int .i64 (i:Int)) wz:=⟨H.kcell T.a.box T.a.c17,H.kcell T.a.box T.a.c18,H.sat.cell hcI,(y01 Tryz.underlying87 (y07 Tryz.underlying9) (.int .i64 0) (y0n _) (H.kmap T.a.at_) a false).trans (by rw [hq];rfl)⟩;refine hKq.out _ _ (fun _=>hS18) (fun _=>?_);clear hKq Kq;refine tk 15 hS18 ?_;refine held.done (by kernel_rfl) ?_ _
       go_wp2_with fail
       replace H:=H.sub (Qai _ (Qam _));go_ret;exact ⟨by rw [HR.out,hlk];rfl,K5,hK,H⟩
      ·have ha3':(ka !=3)=true:=by simp [ha3]
       have ha3'':(ka==3)=false:=by simp [ha3]
       by_cases ha4:ka=4
       ·subst ha4;have HR:=hide (HW4.out.trans (if_neg (by simp)));have:=H.c 0 0;have tk19:True:=trivial
        go_upto_region 11 with (first
         |(go_at_call 79;have tk_:=tk19;clear tk_ tk19;have tk20:True:=trivial;refine (y1n b _ g5_1 ga gd gf go sch VT VD D.schema D.types D.dirs _ _ _ _ H T.a hkb).mono ?_;clear H;rintro e wb ⟨rfl,H⟩;have:=H.c 0 0)
         |(go_at_call 79;have tk_:=tk20;clear tk_ tk20;have tk21:True:=trivial;refine (y1n a _ g5_1 ga gd gf go sch VT VD D.schema D.types D.dirs _ _ _ _ H T.a hka).mono ?_;clear H;rintro e wa ⟨rfl,H⟩;have:=H.c 0 0)
         |(go_at_call 79;have tk_:=tk21;clear tk_ tk21;refine (y1n a _ g5_1 ga gd gf go sch VT VD D.schema D.types D.dirs _ _ _ _ H T.a hka).mono ?_;clear H;rintro e wa ⟨rfl,H⟩;have:=H.c 0 0))
        obtain ⟨i,d,hi,hd,hdk⟩:=z7q (ts:=D.types) (x:=a) (by rw [hka];omega);have hN:=hW.nT;have hdn:=y24 hd;have hif:=z2m d;have hlt:=y5z hi
        have hltI:(i:Int)<(D.types.length:Int):=by omega
        have hlk:=y7q hi hd;have hq:=y13 D.types a;rw [hi] at hq;replace hq:y0r (nmap (y0a D.types)) a=some (.int .i64 (i:Int)):=hq;have hTy:=T.a.types;obtain ⟨A,c,hVT,hc1,hc2⟩:=y25 hTy;have hcT:=T.a.c17;rw [hVT] at hTy;obtain ⟨ad,xs,hA,hxd,hxl,hatK⟩:=y3d (m:=17) (f:=defL) y05 hTy hd (by omega);subst hA;obtain ⟨B,O,hBO⟩:=y50 (m:=17) (f:=defL) y05 hTy (by omega) (by omega);subst hBO;obtain ⟨A6,c6,A7,c7,A8,c8,A9,c9,A10,c10,A11,c11,A12,c12,A14,c14,hcs,hfa,-,-,-,-,-,-,-⟩:=y0c hxd;subst hcs;subst hVT;rw [y9n] at hatK;have hcI:=hatK.2 5 _ rfl;refine held.begin_ (fun w'=>w'.cell? ⟨g5_1,17,none⟩=some (.slice (some ⟨B,O,none⟩) D.types.length c)∧w'.cell? ⟨g5_1,18,none⟩=some (.map (some ga))∧w'.cell? ⟨B,O+i*17+(5+1),none⟩=some (.slice A6 d.ifaces.length c6)∧(Instr.lookup 87 (.map (some ga)) (.string (str a)) false).run Tryz.prog w'= .ok (.int .i64 (i:Int)) w') [] (by kernel_rfl) ?_;replace H:=H.drew1;obtain ⟨w22,hq23⟩: ∃x,(wa).drew=x:=⟨_,rfl⟩;rw [hq23] at H ⊢;clear hq23;have hS24:w22.cell? ⟨g5_1,17,none⟩=some (.slice (some ⟨B,O,none⟩) D.types.length c)∧w22.cell? ⟨g5_1,18,none⟩=some (.map (some ga))∧w22.cell? ⟨B,O+i*17+(5+1),none⟩=some (.slice A6 d.ifaces.length c6)∧(Instr.lookup 87 (.map (some ga)) (.string (str a)) false).run Tryz.prog w22= .ok (.int .i64 (i:Int)) w22:=⟨H.kcell T.a.box T.a.c17,H.kcell T.a.box T.a.c18,H.sat.cell hcI,(y01 Tryz.underlying87 (y07 Tryz.underlying9) (.int .i64 0) (y0n _) (H.kmap T.a.at_) a false).trans (by rw [hq];rfl)⟩;refine tk 0 hS24 ?_;refine tk 1 hS24 ?_;refine tk 2 hS24 ?_;refine tk 3 hS24 ?_;refine tk 4 hS24 ?_;refine tk 5 hS24 ?_;refine tk 6 hS24 ?_;refine tk 7 hS24 ?_;refine tk 8 hS24 ?_;refine tk 9 hS24 ?_;refine tk 10 hS24 ?_;refine tk 11 hS24 ?_;refine tk 12 hS24 ?_;refine tk 13 hS24 ?_;refine held.step (i:=14) (by kernel_rfl) rfl (fun Kq hKq=>?_)
        go_simp
        refine (x1e d.ifaces b g5 0 d.ifaces.length c6 A6 _ _ _ _ H rfl rfl hfa (by omega)).mono ?_;clear H;rintro e wz ⟨rfl,H⟩;replace H:Hp _ _ _ (_::M):=H
        try go_simp
        have hS25:wz.cell? ⟨g5_1,17,none⟩=some (.slice (some ⟨B,O,none⟩) D.types.length c)∧wz.cell? ⟨g5_1,18,none⟩=some (.map (some ga))∧wz.cell? ⟨B,O+i*17+(5+1),none⟩=some (.slice A6 d.ifaces.length c6)∧(Instr.lookup 87 (.map (some ga)) (.string (str a)) false).run Tryz.prog wz= .ok (.int .i64 (i:Int)) wz:=⟨H.kcell T.a.box T.a.c17,H.kcell T.a.box T.a.c18,H.sat.cell hcI,(y01 Tryz.underlying87 (y07 Tryz.underlying9) (.int .i64 0) (y0n _) (H.kmap T.a.at_) a false).trans (by rw [hq];rfl)⟩;refine hKq.out _ _ (fun _=>hS25) (fun _=>?_);clear hKq Kq;refine tk 15 hS25 ?_;refine held.done (by kernel_rfl) ?_ _
        go_wp2_with fail
        replace H:=H.sub (Qai _ (Qam _));go_ret;exact ⟨by rw [HR.out,hlk];rfl,K5,hK,H⟩
       ·have ha4':(ka !=4)=true:=by simp [ha4]
        have ha4'':(ka==4)=false:=by simp [ha4]
        have HR:=hide (HW4.out.trans (if_pos (.inr ⟨ha3,ha4⟩)));have:=H.c 0 0;have tk26:True:=trivial
        go_wp2_with (first
         |(go_at_call 79;have tk_:=tk26;clear tk_ tk26;have tk27:True:=trivial;refine (y1n b _ g5_1 ga gd gf go sch VT VD D.schema D.types D.dirs _ _ _ _ H T.a hkb).mono ?_;clear H;rintro e wb ⟨rfl,H⟩;have:=H.c 0 0)
         |(go_at_call 79;have tk_:=tk27;clear tk_ tk27;have tk28:True:=trivial;refine (y1n a _ g5_1 ga gd gf go sch VT VD D.schema D.types D.dirs _ _ _ _ H T.a hka).mono ?_;clear H;rintro e wa ⟨rfl,H⟩;have:=H.c 0 0)
         |(go_at_call 79;have tk_:=tk28;clear tk_ tk28;refine (y1n a _ g5_1 ga gd gf go sch VT VD D.schema D.types D.dirs _ _ _ _ H T.a hka).mono ?_;clear H;rintro e wa ⟨rfl,H⟩;have:=H.c 0 0))
        replace H:=H.sub (Qai _ (Qam _));go_ret;exact ⟨K5,by rw [HR.out];rfl,hK,H⟩
     ·have h4':(kb !=4)=true:=by simp [h4]
      have h4'':(kb==4)=false:=by simp [h4]
      have HR:=hide (HW4.out.trans (if_pos (.inl h4)));have:=H.c 0 0
      go_wp2_with (first
       |(go_at_call 79;refine (y1n b _ g5_1 ga gd gf go sch VT VD D.schema D.types D.dirs _ _ _ _ H T.a hkb).mono ?_;clear H;rintro e wb ⟨rfl,H⟩;have:=H.c 0 0))
      replace H:=H.sub (Qai _ (Qam _));go_ret;exact ⟨K5,by rw [HR.out];rfl,hK,H⟩
end Go.Proofs.YtbpgkkoeehopjaaGreat.hp
namespace Go.Proofs.YtbpgkkoeehopjaaGreat.hp
open Go.RowKit words enc tree gram lex rd dec dat held
section
variable {P : Program} {w0 w K K' : World} {M : List Ent} {ops : Array Oper} {rest : List Oper} {o : Oper} {a : Act} {Q : Exit → Act → World → Prop} {i b r t kt et : Nat}
theorem Hp.objSet (H:Hp w0 w K M) {o:Obj} (hi:M[i]?=some (.obj b o)) (o':Obj):Hp w0 (ChangeMaps.setBlock w b o') K (M.set i (.obj b o')):=by
 have hb:w.heap[b]?=some o:=H.ok _ (Qaf hi);have hlt:=(Qan.1 hb).1;refine H.setAt hi ⟨rfl,rfl,rfl,by simp [ChangeMaps.setBlock],fun k hk hne=>?_⟩ ?_ (.inl rfl)
 ·have hkb:b≠k:=fun e=>hne (by subst e;rfl);simp [ChangeMaps.setBlock,hkb]
 ·simp [Ent.ok,ChangeMaps.setBlock,hlt]
theorem Hp.allocObj (H:Hp w0 w K M) (o:Obj):Hp w0 (w.alloc o) K (.obj w.heap.size o::M):=
 H.cons (y36 ((Below.refl _ _).alloc (Qab _) _) none) (heap_alloc_new w _) (fun g h=>by simp only [Ent.blk,Option.some.injEq] at h;omega)
abbrev iter (r:Nat) (b:Nat) (n:Nat) (seen:Array Nat):Ent:=.obj r (.mapIter (some b) n seen n)
abbrev q06 (r:Nat):Ent:=.obj r (.mapIter none 0 #[] 0)
theorem x1f (hgd:o.guard=none) (t:TypeId) (x:Operand) (ho:o.op= .range t x) (ht:P.underlying t=some (.map kt et)) (b:Nat) (l:List (Value×Value)) (hb:w.heap[b]?=some (mobj l)) (hx:a.eval x= .map (some b)) (dst:Option Tmp) (hdst:o.dst=dst) (H:Hp w0 w K M)
  (h: ∀w' r,Hp w0 w' K (iter r b l.length #[]::M)→wpList P ops Q rest (a.put dst (.pointer (some ⟨r,0,none⟩))) w'):wpList P ops Q (o::rest) a w:=by
 subst hdst;refine wpList_plain hgd fun _ hK=>?_;have hrun:=run_range_map (P:=P) w t kt et b _ _ ht hb;unfold Oper.wp execOp;simp only [ho,hx,Sem.run_bind,hrun,Result.andThen_ok,Sem.run_pure];exact hK _ _ (h _ _ (H.allocObj _))
theorem z02 (hgd:o.guard=none) (t:TypeId) (x:Operand) (ho:o.op= .range t x) (ht:P.underlying t=some (.map kt et)) (hx:a.eval x= .map none) (dst:Option Tmp) (hdst:o.dst=dst) (H:Hp w0 w K M)
  (h: ∀w' r,Hp w0 w' K (q06 r::M)→wpList P ops Q rest (a.put dst (.pointer (some ⟨r,0,none⟩))) w'):wpList P ops Q (o::rest) a w:=by
 subst hdst;refine wpList_plain hgd fun _ hK=>?_;have hrun:=run_range_nilMap (P:=P) w t kt et ht;unfold Oper.wp execOp;simp only [ho,hx,Sem.run_bind,hrun,Result.andThen_ok,Sem.run_pure];exact hK _ _ (h _ _ (H.allocObj _))
theorem z2r (hgd:o.guard=none) (x:Operand) (ho:o.op= .next x false) (hx:a.eval x= .pointer (some ⟨r,0,none⟩)) (H:Hp w0 w K M) (i:Nat) (hi:M[i]?=some (q06 r))
  (h:wpList P ops Q rest (a.put o.dst (.tuple #[.bool false])) w):wpList P ops Q (o::rest) a w:=by
 refine wpList_plain hgd fun _ hK=>?_;have hr:w.heap[r]?=some (.mapIter none 0 #[] 0):=H.ok _ (Qaf hi)
 have hrun:(Instr.next (.pointer (some ⟨r,0,none⟩)) false o.type).run P w= .ok (.tuple #[.bool false]) w:=by
  simp only [Instr.next,getObj,Sem.run_bind,Sem.run,hr,Result.andThen];rfl
 unfold Oper.wp execOp;simp only [ho,hx,Sem.run_bind,hrun,Result.andThen_ok,Sem.run_pure];exact hK _ _ h
theorem x3u (l:List (Value×Value)):(y2c l).map (·.born)=List.range l.length:=by
 unfold y2c;rw [List.map_map];apply Qby;intro j;rcases Qbm j l.length with h|h
 ·simp [h,List.getElem?_range,Qad]
 ·simp [h]
theorem z7r {l:List (Value×Value)} {e:MapEntry} (h:e∈y2c l): ∃p,l[e.born]?=some p∧e.key=p.1∧e.val=p.2:=by
 unfold y2c at h;rw [Qbe] at h;obtain ⟨⟨p,k⟩,hp,rfl⟩:=h;rw [Qb0] at hp;exact ⟨p,hp,rfl,rfl⟩
theorem x7p (hgd:o.guard=none) (x:Operand) (ho:o.op= .next x false) (hx:a.eval x= .pointer (some ⟨r,0,none⟩)) (H:Hp w0 w K M) (i:Nat) (b:Nat) (l:List (Value×Value)) (seen:Array Nat) (hi:M[i]?=some (iter r b l.length seen)) (hb:w.heap[b]?=some (mobj l))
  (h1:(∀k,k<l.length→k∈seen)→wpList P ops Q rest (a.put o.dst (.tuple #[.bool false])) w)
  (h2: ∀k p w',l[k]?=some p→k∉seen→Hp w0 w' K (M.set i (iter r b l.length (seen.push k)))→wpList P ops Q rest (a.put o.dst (.tuple #[.bool true,p.1,p.2])) w'):wpList P ops Q (o::rest) a w:=by
 refine wpList_plain hgd fun _ hK=>?_;have hr:w.heap[r]?=some (.mapIter (some b) l.length seen l.length):=H.ok _ (Qaf hi)
 have hold: ∀x∈(y2c l).toArray.toList,x.born<l.length:=fun x hx=>by
  obtain ⟨p,hp,_⟩:=z7r (show x∈y2c l from hx);exact (Qac.1 hp).1
 rcases run_next_at (P:=P) w o.type r b l.length l.length seen (y2c l).toArray l.length hr hb hold (Qab _) with ⟨h0,hrun⟩|⟨e,he,w1,hw1,hrun⟩
 ·unfold Oper.wp execOp;simp only [ho,hx,Sem.run_bind,hrun,Result.andThen_ok,Sem.run_pure];refine hK _ _ (h1 fun k hk=>?_);refine Qbl fun hn=>?_;have hlen:(leftOf (y2c l).toArray seen)= #[]:=Array.eq_empty_of_size_eq_zero h0;unfold leftOf at hlen;rw [Array.filter_eq_empty_iff] at hlen;obtain ⟨p,hp⟩: ∃p,l[k]?=some p:=⟨_,Qad hk⟩
  have:=hlen {key:=p.1,val:=p.2,born:=k} (by
   simp only [List.mem_toArray,y2c,Qbe]
   exact ⟨(p,k),Qb0.2 hp,rfl⟩)
  simp at this;exact hn this
 ·obtain ⟨hm,hc⟩:=mem_left he;obtain ⟨p,hp,hk,hv⟩:=z7r (show e∈y2c l from hm);unfold Oper.wp execOp;simp only [ho,hx,Sem.run_bind,hrun,Result.andThen_ok,Sem.run_pure,hk,hv];refine hK _ _ (h2 e.born p _ hp (fun hin=>?_) ?_)
  ·have:=Array.contains_iff_mem.2 hin;rw [this] at hc;cases hc
  ·rcases hw1 with rfl|rfl
   ·exact H.objSet hi _
   ·exact H.drew1.objSet hi _
theorem z5x (hgd:o.guard=none) (x:Operand) (ho:o.op= .entry x) (hx:a.eval x= .pointer (some ⟨r,0,none⟩)) (H:Hp w0 w K M) (i:Nat) (b:Nat) (l:List (Value×Value)) (seen:Array Nat) (k:Nat) (p:Value×Value) (hi:M[i]?=some (iter r b l.length (seen.push k))) (hb:w.heap[b]?=some (mobj l)) (hp:l[k]?=some p)
  (h:wpList P ops Q rest (a.put o.dst (.tuple #[p.1,p.2])) w):wpList P ops Q (o::rest) a w:=by
 refine wpList_plain hgd fun _ hK=>?_;have hr:w.heap[r]?=some (.mapIter (some b) l.length (seen.push k) l.length):=H.ok _ (Qaf hi)
 have hrun:=run_entry_at (P:=P) w r b l.length seen (y2c l).toArray l.length {key:=p.1,val:=p.2,born:=k} hr hb (by
  simp only [y2c,Qbe]
  exact ⟨(p,k),Qb0.2 hp,rfl⟩) (by
  show ((y2c l).map (·.born)).Nodup
  rw [x3u];exact List.nodup_range)
 unfold Oper.wp execOp;simp only [ho,hx,Sem.run_bind,hrun,Result.andThen_ok,Sem.run_pure];exact hK _ _ h
end
end Go.Proofs.YtbpgkkoeehopjaaGreat.hp
