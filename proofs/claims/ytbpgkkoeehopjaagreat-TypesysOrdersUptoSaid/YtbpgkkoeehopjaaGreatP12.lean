/- Part 12 of a proof: see the text that holds the statement. -/
import Derived.Test.YtbpgkkoeehopjaaGreatP7
import Derived.Test.YtbpgkkoeehopjaaGreatP10
import Derived.Test.YtbpgkkoeehopjaaGreatP11
import Derived.Deep.QuietTactic
import Derived.BigQuiet
set_option linter.unusedVariables false
set_option linter.unusedSimpArgs false
namespace Go.Proofs.YtbpgkkoeehopjaaGreat.hp
open Go.RowKit words enc tree gram lex rd dec dat held
set_option maxRecDepth 100000
attribute [local go_sem ↓] Go.wp_at_zero Go.wp_at_succ
set_option maxHeartbeats 16000000 in
theorem q0w (d more:DefD) (V:DV) (cs2:Array Value) (w0 w K:World) (M:List Ent) (H:Hp w0 w K (DV.rows d V++M)) (hV:V.ok K d) (hm:defN d+defN more≤9000000) (hd2:RL K (defL more) cs2.toList):
  Calls Tryz.prog 60 #[.agg (DV.cells d V).toArray,.agg cs2] w fun e w'=>∃K' V',e= .returned (.agg (DV.cells (y1h d more) V').toArray)∧Sat K' K∧Hp w0 w' K' (DV.rows (y1h d more) V'++M)∧V'.ok K' (y1h d more):=by
 obtain ⟨V8,V11,V6,V10,V14,V12,V9,V7,x8,x11,x6,x10,x14,x12,x9,x7⟩:=V;obtain ⟨C6,e6,C7,e7,C8,e8,C9,e9,C10,e10,C11,e11,C12,e12,C14,e14,hcs,-,-,-,-,-,-,-,-⟩:=y0h hd2;obtain ⟨k0,hk0,k0z,k0s,k0b⟩:=info_parts Go.Proofs.YtbpgkkoeehopjaaGreat.dat.named_info;obtain ⟨k1,hk1,k1z,k1s,k1b⟩:=info_parts x3t;obtain ⟨k2,hk2,k2z,k2s,k2b⟩:=info_parts x6b;obtain ⟨k3,hk3,k3z,k3s,k3b⟩:=info_parts x6a;obtain ⟨k5,hk5,k5z,k5s,k5b⟩:=info_parts z5s;obtain ⟨k6,hk6,k6z,k6s,k6b⟩:=info_parts z3o
 have hmc:defN more≤9000000:=by omega
 simp only [defN] at hm;have hld7:=y0w y63 d.dirs;have hld8:=y0w y5b d.fields;have hld9:=y0w y5a d.inputs;have hld11:=y0w y8k d.values;have hlmore7:=y0w y63 more.dirs;have hlmore8:=y0w y5b more.fields;have hlmore9:=y0w y5a more.inputs;have hlmore11:=y0w y8k more.values;obtain rfl:cs2= #[.int .i64 more.kind,.bool more.ext,.bool more.note.has,.bool more.note.block,.string (str more.note.text),.string (str more.name),.slice C6 more.ifaces.length e6,.slice C7 more.dirs.length e7,.slice C8 more.fields.length e8,.slice C9 more.inputs.length e9,.slice C10 more.members.length e10,.slice C11 more.values.length e11,.slice C12 more.roots.length e12,.bool more.rep,.slice C14 more.places.length e14,.int .i64 more.line,.int .i64 more.col]:=Qal.1 hcs;go_enter Tryz.func60,Tryz.ntmps60;replace H:Hp _ _ _ (_::_::_::_::_::_::_::_::M):=H
 try dsimp only at H
 obtain ⟨V14A,V14c,rfl,_,_⟩:=H.slice (i:=4) rfl;have hK:=Sat.refl K
 go_upto_region 2 with (first
  |(refine z16 (by rfl) 43 (.tmp 0) (by rfl) [.int .i64 d.kind,.bool d.ext,.bool d.note.has,.bool d.note.block,.string (str d.note.text),.string (str d.name),V6,V7,V8,V9,V10,V11,V12,.bool d.rep,.slice V14A d.places.length V14c,.int .i64 d.line,.int .i64 d.col] _ (by rfl) (by rfl) (some 2) (by rfl) H ?_;clear H;intro w1 g2 H hg2;clear hg2)
  |(refine z16 (by rfl) 43 (.tmp 1) (by rfl) [.int .i64 more.kind,.bool more.ext,.bool more.note.has,.bool more.note.block,.string (str more.note.text),.string (str more.name),.slice C6 more.ifaces.length e6,.slice C7 more.dirs.length e7,.slice C8 more.fields.length e8,.slice C9 more.inputs.length e9,.slice C10 more.members.length e10,.slice C11 more.values.length e11,.slice C12 more.roots.length e12,.bool more.rep,.slice C14 more.places.length e14,.int .i64 more.line,.int .i64 more.col] _ (by rfl) (by rfl) (some 3) (by rfl) H ?_;clear H;intro w3 g3 H hg4;clear hg4)
  |(go_at_call 65;refine (y6f more _ H hmc hd2).mono ?_;clear H;rintro e w5 ⟨K5,cs5,rfl,hle,H,hd5⟩;replace hd2:=hd2.sat hle;replace hV:=hV.sat hle;replace hK:=hle.trans hK;obtain ⟨D6,f6,D7,f7,D8,f8,D9,f9,D10,f10,D11,f11,D12,f12,D14,f14,hcs5,h6,h7,h8,h9,h10,h11,h12,h14⟩:=y0h hd5;obtain rfl:cs5= #[.int .i64 more.kind,.bool more.ext,.bool more.note.has,.bool more.note.block,.string (str more.note.text),.string (str more.name),.slice D6 more.ifaces.length f6,.slice D7 more.dirs.length f7,.slice D8 more.fields.length f8,.slice D9 more.inputs.length f9,.slice D10 more.members.length f10,.slice D11 more.values.length f11,.slice D12 more.roots.length f12,.bool more.rep,.slice D14 more.places.length f14,.int .i64 more.line,.int .i64 more.col]:=Qal.1 hcs5;clear hcs5 hd5)
  |((with_reducible refine isL ?_);first
   |(refine al z43 4 H ?_;clear H;intro w5 g4 H)
   |(refine ld 3 1 17 Tryz.underlying43 H ?_)
   |(refine sA 3 1 H ?_;clear H;intro w8 H)))
 have:=H.c 2 6;have:=H.c 1 6
 go_upto_region 3 with (first
  |(at_builtin;refine ap 5 e34 h6 (y5k more.ifaces) H ?_;clear H;intro us9 U6A U6c u6 hus9 lus9 _ _ H;dsimp only [List.set] at H;have:=H.c 2 6;have:=H.c 1 6)
  |((with_reducible refine isL ?_);first
   |(refine s1 12 2 (.slice U6A (d.ifaces.length+more.ifaces.length) U6c) H ?_;clear H;intro w10 H;have:=H.c 2 6;have:=H.c 1 6)))
 have:=H.c 2 7;have:=H.c 1 7
 go_upto_region 4 with (first
  |(at_builtin;refine ap 10 e35 h7 (z3s more.dirs) H ?_;clear H;intro us11 U7A U7c u7 hus11 lus11 _ _ H;dsimp only [List.set] at H;have:=H.c 2 7;have:=H.c 1 7)
  |((with_reducible refine isL ?_);first
   |(refine s1 18 2 (.slice U7A (d.dirs.length+more.dirs.length) U7c) H ?_;clear H;intro w12 H;have:=H.c 2 7;have:=H.c 1 7)))
 have:=H.c 2 8;have:=H.c 1 8
 go_upto_region 5 with (first
  |(at_builtin;refine ap 3 e36 h8 (z3r more.fields) H ?_;clear H;intro us13 U8A U8c u8 hus13 lus13 _ _ H;dsimp only [List.set] at H;have:=H.c 2 8;have:=H.c 1 8)
  |((with_reducible refine isL ?_);first
   |(refine s1 24 2 (.slice U8A (d.fields.length+more.fields.length) U8c) H ?_;clear H;intro w14 H;have:=H.c 2 8;have:=H.c 1 8)))
 have:=H.c 2 9;have:=H.c 1 9
 go_upto_region 6 with (first
  |(at_builtin;refine ap 9 e37 h9 (z3t more.inputs) H ?_;clear H;intro us15 U9A U9c u9 hus15 lus15 _ _ H;dsimp only [List.set] at H;have:=H.c 2 9;have:=H.c 1 9)
  |((with_reducible refine isL ?_);first
   |(refine s1 30 2 (.slice U9A (d.inputs.length+more.inputs.length) U9c) H ?_;clear H;intro w16 H;have:=H.c 2 9;have:=H.c 1 9)))
 have:=H.c 2 10;have:=H.c 1 10
 go_upto_region 7 with (first
  |(at_builtin;refine ap 6 e34 h10 (y5k more.members) H ?_;clear H;intro us17 U10A U10c u10 hus17 lus17 _ _ H;dsimp only [List.set] at H;have:=H.c 2 10;have:=H.c 1 10)
  |((with_reducible refine isL ?_);first
   |(refine s1 36 2 (.slice U10A (d.members.length+more.members.length) U10c) H ?_;clear H;intro w18 H;have:=H.c 2 10;have:=H.c 1 10)))
 have:=H.c 2 11;have:=H.c 1 11
 go_upto_region 8 with (first
  |(at_builtin;refine ap 4 e38 h11 (z3u more.values) H ?_;clear H;intro us19 U11A U11c u11 hus19 lus19 _ _ H;dsimp only [List.set] at H;have:=H.c 2 11;have:=H.c 1 11)
  |((with_reducible refine isL ?_);first
   |(refine s1 42 2 (.slice U11A (d.values.length+more.values.length) U11c) H ?_;clear H;intro w20 H;have:=H.c 2 11;have:=H.c 1 11)))
 have:=H.c 2 12;have:=H.c 1 12
 go_upto_region 9 with (first
  |(at_builtin;refine ap 8 e39 h12 (y6c more.roots) H ?_;clear H;intro us21 U12A U12c u12 hus21 lus21 _ _ H;dsimp only [List.set] at H;have:=H.c 2 12;have:=H.c 1 12)
  |((with_reducible refine isL ?_);first
   |(refine s1 48 2 (.slice U12A (d.roots.length+more.roots.length) U12c) H ?_;clear H;intro w22 H;have:=H.c 2 12;have:=H.c 1 12)))
 go_wp2_with (first
  |((with_reducible refine isL ?_);first
   |(refine ld 2 2 17 Tryz.underlying43 H ?_)
   |(refine sA 4 0 H ?_;clear H;intro w23 H)))
 refine bodyPost_ret (v:=.agg #[.int .i64 d.kind,.bool d.ext,.bool d.note.has,.bool d.note.block,.string (str d.note.text),.string (str d.name),.slice U6A (d.ifaces.length+more.ifaces.length) U6c,.slice U7A (d.dirs.length+more.dirs.length) U7c,.slice U8A (d.fields.length+more.fields.length) U8c,.slice U9A (d.inputs.length+more.inputs.length) U9c,.slice U10A (d.members.length+more.members.length) U10c,.slice U11A (d.values.length+more.values.length) U11c,.slice U12A (d.roots.length+more.roots.length) U12c,.bool d.rep,.slice V14A d.places.length V14c,.int .i64 d.line,.int .i64 d.col]) (results_cell_row rfl _ _ g4 43 _ (0,0) _ (by rfl) (H.blkAt (i:=0) rfl) Tryz.underlying43 rfl (by kernel_rfl)) rfl ?_;replace H:=H.sub (Qai _ (Qai _ (Qai _ (Qaa _ (Qaa _ (Qaa _ (Qaa _ (Qaa _ (Qaa _ (Qaa _ (Qaa _ (Qam _))))))))))));simp only [←Qae] at H ⊢;refine ⟨K5,⟨_,_,_,_,_,_,_,_,_,_,_,_,_,_,_,_⟩,rfl,hK,H,?_⟩;exact ⟨by dsimp only [y1h];rw [y9j];exact hV.r8.app (by assumption),by dsimp only [y1h];rw [y6z];exact hV.r11.app (by assumption),by dsimp only [y1h];rw [y64];exact hV.r6.app (by assumption),by dsimp only [y1h];rw [y64];exact hV.r10.app (by assumption),hV.r14,by dsimp only [y1h];rw [y49];exact hV.r12.app (by assumption),by dsimp only [y1h];rw [y6x];exact hV.r9.app (by assumption),by dsimp only [y1h];rw [y70];exact hV.r7.app (by assumption)⟩
end Go.Proofs.YtbpgkkoeehopjaaGreat.hp
namespace Go.Proofs.YtbpgkkoeehopjaaGreat.hp
open Go.RowKit words enc tree gram lex rd dec dat held ty
section
variable {w0 w w' K K' : World} {M : List Ent}
abbrev z1p (g ga gd gf go:Nat) (ts ds:List DefD) (VT VD:Value) (TS:List (DefD×DV)) (xD:List Value):List Ent:=
 [tbox g ga gd gf go VT VD,.map ga (y0y (nmap (y0a ts))),.row 43 17 VT ts.length (y02 TS),.map gd (y0y (nmap (y0a ds))),.row 43 17 VD ds.length xD]
theorem Bst.of (E:List Ent) {g ga gd gf go:Nat} {ts ds:List DefD} {VT VD:Value} {TS:List (DefD×DV)} {xD:List Value} (hts:ts=TS.map (·.1)) (hok:tok K TS) (hxD:RL K (y0r ds) xD) (H:Hp w0 w K (E++(z1p g ga gd gf go ts ds VT VD TS xD++(y1a TS++M)))):Bst g ga gd gf go ts ds w0 w K (E++M):=by
 refine ⟨TS,VT,VD,xD,hts,hok,hxD,?_⟩
 have h:Hp w0 w K (E++((z1p g ga gd gf go ts ds VT VD TS xD++y1a TS)++M)):=by rw [Qat];exact H
 have h2:=Hp.rot E (z1p g ga gd gf go ts ds VT VD TS xD++y1a TS) (M:=M) h;rw [Qat] at h2;exact h2
theorem Bst.to (E:List Ent) {g ga gd gf go:Nat} {ts ds:List DefD} (H:Bst g ga gd gf go ts ds w0 w K (E++M)): ∃TS VT VD xD,ts=TS.map (·.1)∧tok K TS∧RL K (y0r ds) xD∧Hp w0 w K (E++(z1p g ga gd gf go ts ds VT VD TS xD++(y1a TS++M))):=by
 obtain ⟨TS,VT,VD,xD,hts,hok,hxD,H⟩:=H;refine ⟨TS,VT,VD,xD,hts,hok,hxD,?_⟩
 have h2:Hp w0 w K ((z1p g ga gd gf go ts ds VT VD TS xD++y1a TS)++(E++M)):=by rw [Qat];exact H
 have h3:=Hp.rot (z1p g ga gd gf go ts ds VT VD TS xD++y1a TS) E (M:=M) h2;rw [Qat] at h3;exact h3
theorem z6a (E:List Ent) (d:DefD) (cs:Array Value) (g ga gd gf go:Nat) (ts ds:List DefD) {VT VD:Value} {TS:List (DefD×DV)} {xD:List Value} (hts:ts=TS.map (·.1)) (hok:tok K TS) (hxD:RL K (y0r ds) xD)
  (H:Hp w0 w K (E++(z1p g ga gd gf go ts ds VT VD TS xD++(y1a TS++M)))) (hd:RL K (defL d) cs.toList) (hm:defN d≤9000000) (hk:ts.length≤9000000):
  Calls Tryz.prog 59 #[.pointer (some ⟨g,0,none⟩),.agg cs] w fun e w'=>∃K' TS' VT' VD' xD',e= .returned (.tuple #[])∧Sat K' K∧addD ts d=TS'.map (·.1)∧tok K' TS'∧RL K' (y0r ds) xD'∧Hp w0 w' K' (E++(z1p g ga gd gf go (addD ts d) ds VT' VD' TS' xD'++(y1a TS'++M))):=
 (x1y d cs g ga gd gf go ts ds (Bst.of E hts hok hxD H) hd hm hk).mono fun e w' ⟨K',he,hle,H⟩=>by
   obtain ⟨TS',VT',VD',xD',h1,h2,h3,h4⟩:=Bst.to E H;exact ⟨K',TS',VT',VD',xD',he,hle,h1,h2,h3,h4⟩
theorem z9r (E:List Ent) (d:DefD) (cs:Array Value) (g ga gd gf go:Nat) (ts ds:List DefD) {VT VD:Value} {TS:List (DefD×DV)} {xD:List Value} (hts:ts=TS.map (·.1)) (hok:tok K TS) (hxD:RL K (y0r ds) xD)
  (H:Hp w0 w K (E++(z1p g ga gd gf go ts ds VT VD TS xD++(y1a TS++M)))) (hd:RL K (defL d) cs.toList) (hm:defN d≤9000000) (hk:ds.length≤9000000):
  Calls Tryz.prog 58 #[.pointer (some ⟨g,0,none⟩),.agg cs] w fun e w'=>∃K' TS' VT' VD' xD',e= .returned (.tuple #[])∧Sat K' K∧ts=TS'.map (·.1)∧tok K' TS'∧RL K' (y0r (addD ds d)) xD'∧Hp w0 w' K' (E++(z1p g ga gd gf go ts (addD ds d) VT' VD' TS' xD'++(y1a TS'++M))):=
 (x6x d cs g ga gd gf go ts ds (Bst.of E hts hok hxD H) hd hm hk).mono fun e w' ⟨K',he,hle,H⟩=>by
   obtain ⟨TS',VT',VD',xD',h1,h2,h3,h4⟩:=Bst.to E H;exact ⟨K',TS',VT',VD',xD',he,hle,h1,h2,h3,h4⟩
theorem q0x (E:List Ent) (d more:DefD) (V:DV) (A B:List (DefD×DV)) (cs2:Array Value) (H:Hp w0 w K (E++(y1a (A++(d,V)::B)++M))) (hok:tok K (A++(d,V)::B)) (hm:defN d+defN more≤9000000) (hd2:RL K (defL more) cs2.toList):
  Calls Tryz.prog 60 #[.agg (DV.cells d V).toArray,.agg cs2] w fun e w'=>∃K' V',e= .returned (.agg (DV.cells (y1h d more) V').toArray)∧Sat K' K∧Hp w0 w' K' (E++(y1a (A++(y1h d more,V')::B)++M))∧tok K' (A++(y1h d more,V')::B)∧ ∀u∈DV.cells (y1h d more) V',u.oneCell'=true:=by
 have split: ∀(e:DefD) (U:DV),y1a (A++(e,U)::B)=y1a A++(DV.rows e U++y1a B):=fun e U=>by rw [z9l];simp [y1a]
 have H1:Hp w0 w K ((E++y1a A)++(DV.rows d V++(y1a B++M))):=by
  rw [split] at H;simpa only [Qat] using H
 have H2:=Hp.rot (E++y1a A) (DV.rows d V) (M:=y1a B++M) H1;refine (q0w d more V cs2 w0 w K _ H2 (hok (d,V) (by simp)) hm hd2).mono ?_;rintro e w' ⟨K',V',rfl,hle,H3,hV'⟩;refine ⟨K',V',rfl,hle,?_,?_,x3x H3⟩
 ·have H4:=Hp.rot (DV.rows (y1h d more) V') (E++y1a A) (M:=y1a B++M) H3;rw [split];simpa only [Qat] using H4
 ·intro p hp;rcases Qbf.1 hp with hp|hp
  ·exact (hok p (Qbw _ hp)).sat hle
  ·rcases Qbd.1 hp with rfl|hp
   ·exact hV'
   ·exact (hok p (Qbx _ (Qa2 _ hp))).sat hle
theorem x4d {g n c i:Nat} {A B:List (DefD×DV)} {d:DefD} {V:DV} {k:Nat} (H:Hp w0 w K M) (hi:M[i]?=some (.row 43 17 (.slice (some ⟨g,0,none⟩) n c) n (y02 (A++(d,V)::B)))) (hk:A.length=k):At w ((⟨g,0,none⟩:Addr).add (k*17)) (DV.cells d V):=by
 have hc: ∀j u,(DV.cells d V)[j]?=some u→(y02 (A++(d,V)::B))[k*17+j]?=some u:=fun j u hu=>by
  have h1:y02 (A++(d,V)::B)=y02 A++(DV.cells d V++y02 B):=by rw [z1l];simp [y02]
  have h2:(y02 A).length=k*17:=by rw [z1k,hk]
  rw [h1,Qba (by omega),h2,Nat.add_sub_cancel_left,Qa9 (Qac.1 hu).1];exact hu
 refine ⟨fun u hu=>?_,fun j u hu=>?_⟩
 ·rw [y3i];exact H.rowCell hi (hc 0 u hu)
 ·rw [y3i];exact H.rowCell hi (hc (j+1) u hu)
theorem q47 {g n c i:Nat} {A B:List (DefD×DV)} {d:DefD} {V:DV} {k j:Nat} {u:Value} (H:Hp w0 w K M) (hi:M[i]?=some (.row 43 17 (.slice (some ⟨g,0,none⟩) n c) n (y02 (A++(d,V)::B)))) (hk:A.length=k) (hu:(DV.cells d V)[j]?=some u):w.cell? ⟨g,k*17+j,none⟩=some u:=by
 have h:=x4d H hi hk;rw [y3i] at h
 cases j with
 |zero=>exact h.1 u hu
 |succ j=>exact h.2 j u hu
theorem z9s {g n c i:Nat} {A B:List (DefD×DV)} {d:DefD} {V:DV} {k:Nat} (H:Hp w0 w K M) (hi:M[i]?=some (.row 43 17 (.slice (some ⟨g,0,none⟩) n c) n (y02 (A++(d,V)::B)))) (hk:A.length=k):w.rangeAt g (k*17) (DV.cells d V):=fun _ _ hu=>q47 H hi hk hu
theorem q8o {A B:List (DefD×DV)} {d e:DefD} {V U:DV} {k:Nat} (hk:A.length=k):(y02 (A++(d,V)::B)).take (k*17)++DV.cells e U++(y02 (A++(d,V)::B)).drop (k*17+(DV.cells e U).length)=y02 (A++(e,U)::B):=by
 have h1: ∀(x:DefD) (X:DV),y02 (A++(x,X)::B)=y02 A++(DV.cells x X++y02 B):=fun x X=>by rw [z1l];simp [y02]
 have h2:(y02 A).length=k*17:=by rw [z1k,hk]
 rw [h1,h1,List.take_left' h2,←List.drop_drop,List.drop_left' h2,List.drop_left' (by rfl),Qat]
end
set_option maxRecDepth 100000
attribute [local go_sem ↓] Go.wp_at_zero Go.wp_at_succ
theorem z0r (w:World):(zeroValue 87).run Tryz.prog w= .ok (.map none) w:=by kernel_rfl
theorem x62 (w:World) (r:Option Nat):(binOp .eql 87 (.map r) (.map none)).run Tryz.prog w= .ok (.bool r.isNone) w:=run_eql_map_nil w _ _ _ r Tryz.underlying87
set_option maxHeartbeats 4000000 in
theorem q0y (x n:Txt) (m:Nat) (om:OMap) (g go:Nat) (cs:List Value) (w0 w K:World) (M:List Ent) (H:Ost go om w0 w K M) (hT:Kb K g cs 91) (hgo:cs[22]?=some (.map (some go))):
  Calls Tryz.prog 108 #[.pointer (some ⟨g,0,none⟩),.string (str x),.string (str n),.int .i64 (m:Int)] w fun e w'=>e= .returned (.tuple #[])∧Ost go (addO om x n m) w0 w' K M:=by
 obtain ⟨OB,rfl,H⟩:=H;have hq:=x62;rcases z58 x OB with ⟨hf,ha⟩|⟨A,b,s,B,rfl,hf,ha⟩
 ·rw [ha];go_enter Tryz.func108,Tryz.ntmps108;replace H:Hp _ _ _ (_::(y1u OB++M)):=H
  try dsimp only at H
  have cf1:(w).cell? ⟨g,22,none⟩=some (.map (some go)):=H.kcell hT hgo
  go_upto_region 1 with (first
   |(refine y1p (by rfl) (.tmp 14) (.tmp 15) 89 false (by rfl) Tryz.underlying89 (y1i Tryz.underlying9) (.map none) z0r go (y16 OB) (H.mapAt (i:=0) rfl) (by first|rfl|simp [Act.eval,Act.put]) (x) (by first|rfl|simp [Act.eval,Act.put]) (.map none) (by rw [hf];rfl) ?_))
  go_upto_region 2 with (fail)
  go_upto_region 3 with (first
   |(refine y38 (by rfl) 87 (by rfl) (some 19) (by rfl) H ?_;clear H;intro w2 b19 H;replace H:Hp _ _ _ (.map b19 (y0s ks [])::_):=H))
  have cf3:(w2).cell? ⟨g,22,none⟩=some (.map (some go)):=H.kcell hT hgo
  go_upto_region 4 with (first
   |(refine y8q (by rfl) (.tmp 23) (.tmp 24) (.tmp 25) 89 (by rfl) Tryz.underlying89 (y1i Tryz.underlying9) H 1 go (y16 OB) (by rfl) (by first|rfl|simp [Act.eval,Act.put]) (x) (by first|rfl|simp [Act.eval,Act.put]) (.map (some b19)) (by first|rfl|simp [Act.eval,Act.put]) (y16 OB++[(x,.map (some b19))]) (z2s hf) ?_;clear H;intro w4 H;replace H:Hp _ _ _ (_::_::(y1u OB++M)):=H;have cf5:(w4).cell? ⟨g,22,none⟩=some (.map (some go)):=H.kcell hT hgo))
  go_upto_region 5 with (first
   |(refine y1p (by rfl) (.tmp 27) (.tmp 28) 87 true (by rfl) Tryz.underlying87 (y1i Tryz.underlying9) (.int .i64 0) y0p b19 ([]) (H.mapAt (i:=0) rfl) (by first|rfl|simp [Act.eval,Act.put]) (n) (by first|rfl|simp [Act.eval,Act.put]) (.tuple #[.int .i64 0,.bool false]) (by rfl) ?_))
  go_upto_region 6 with (fail)
  go_wp2_with (first
   |(refine y8q (by rfl) (.tmp 34) (.tmp 35) (.tmp 36) 87 (by rfl) Tryz.underlying87 (y1i Tryz.underlying9) H 0 b19 [] (by rfl) (by first|rfl|simp [Act.eval,Act.put]) (n) (by first|rfl|simp [Act.eval,Act.put]) (.int .i64 (m:Int)) (by first|rfl|simp [Act.eval,Act.put]) [(n,.int .i64 (m:Int))] (by rfl) ?_;clear H;intro w6 H;replace H:Hp _ _ _ (_::_::(y1u OB++M)):=H))
  go_end0
  refine ⟨rfl,OB++[(x,b19,[(n,.int .i64 (m:Int))])],by simp [omap],?_⟩;have H2:=Hp.rotAt [] [.map b19 (y0s ks [(n,.int .i64 (m:Int))])] (.map go (y0s ks (y16 OB++[(x,.map (some b19))]))::y1u OB) (M:=M) H
  have e1:y1u (OB++[(x,b19,[(n,.int .i64 (m:Int))])])=y1u OB++[.map b19 (y0s ks [(n,.int .i64 (m:Int))])]:=by simp [y1u,y0y,y0s]
  have e2:y16 (OB++[(x,b19,[(n,.int .i64 (m:Int))])])=y16 OB++[(x,.map (some b19))]:=by simp [y16]
  rw [e1,e2,Qat];exact H2
 ·rw [ha]
  have e1:y1u (A++(x,b,s)::B)=y1u A++ .map b (y0y s)::y1u B:=by simp [y1u]
  have H0:=H;rw [e1,Qat] at H;replace H:=Hp.rotAt [] (.map go (y0y (y16 (A++(x,b,s)::B)))::y1u A) [.map b (y0y s)] (M:=y1u B++M) H
  have hback: ∀s' w',Hp w0 w' K (.map b (y0y s'):: .map go (y0y (y16 (A++(x,b,s)::B)))::(y1u A++(y1u B++M)))→Ost go (omap A++(x,s')::omap B) w0 w' K M:=by
   intro s' w' H;refine ⟨A++(x,b,s')::B,by simp [omap],?_⟩
   have e2:y1u (A++(x,b,s')::B)=y1u A++ .map b (y0y s')::y1u B:=by simp [y1u]
   have e3:y16 (A++(x,b,s')::B)=y16 (A++(x,b,s)::B):=by simp [y16]
   rw [e2,e3,Qat];exact Hp.rotAt [] [.map b (y0y s')] (.map go (y0y (y16 (A++(x,b,s)::B)))::y1u A) (M:=y1u B++M) H
  generalize y16 (A++(x,b,s)::B)=ov at H hf hback
  cases hs:y00 s n with
  |some v=>
   go_enter Tryz.func108,Tryz.ntmps108;replace H:Hp _ _ _ (_::_::(y1u A++(y1u B++M))):=H
   try dsimp only at H
   have cf7:(w).cell? ⟨g,22,none⟩=some (.map (some go)):=H.kcell hT hgo
   go_upto_region 1 with (first
    |(refine y1p (by rfl) (.tmp 14) (.tmp 15) 89 false (by rfl) Tryz.underlying89 (y1i Tryz.underlying9) (.map none) z0r go (ov) (H.mapAt (i:=1) rfl) (by first|rfl|simp [Act.eval,Act.put]) (x) (by first|rfl|simp [Act.eval,Act.put]) (.map (some b)) (by rw [hf];rfl) ?_))
   go_upto_region 4 with (fail)
   go_upto_region 5 with (first
    |(refine y1p (by rfl) (.tmp 27) (.tmp 28) 87 true (by rfl) Tryz.underlying87 (y1i Tryz.underlying9) (.int .i64 0) y0p b (s) (H.mapAt (i:=0) rfl) (by first|rfl|simp [Act.eval,Act.put]) (n) (by first|rfl|simp [Act.eval,Act.put]) (.tuple #[v,.bool true]) (by rw [hs];rfl) ?_))
   go_wp2_with fail
   go_end0
   have hsa:y1m s n m=s:=by simp [y1m,hs]
   rw [hsa];exact ⟨rfl,hback s _ H⟩
  |none=>
   go_enter Tryz.func108,Tryz.ntmps108;replace H:Hp _ _ _ (_::_::(y1u A++(y1u B++M))):=H
   try dsimp only at H
   have cf8:(w).cell? ⟨g,22,none⟩=some (.map (some go)):=H.kcell hT hgo
   go_upto_region 1 with (first
    |(refine y1p (by rfl) (.tmp 14) (.tmp 15) 89 false (by rfl) Tryz.underlying89 (y1i Tryz.underlying9) (.map none) z0r go (ov) (H.mapAt (i:=1) rfl) (by first|rfl|simp [Act.eval,Act.put]) (x) (by first|rfl|simp [Act.eval,Act.put]) (.map (some b)) (by rw [hf];rfl) ?_))
   go_upto_region 4 with (fail)
   go_upto_region 5 with (first
    |(refine y1p (by rfl) (.tmp 27) (.tmp 28) 87 true (by rfl) Tryz.underlying87 (y1i Tryz.underlying9) (.int .i64 0) y0p b (s) (H.mapAt (i:=0) rfl) (by first|rfl|simp [Act.eval,Act.put]) (n) (by first|rfl|simp [Act.eval,Act.put]) (.tuple #[.int .i64 0,.bool false]) (by rw [hs];rfl) ?_))
   go_upto_region 6 with (fail)
   go_wp2_with (first
    |(refine y8q (by rfl) (.tmp 34) (.tmp 35) (.tmp 36) 87 (by rfl) Tryz.underlying87 (y1i Tryz.underlying9) H 0 b s (by rfl) (by first|rfl|simp [Act.eval,Act.put]) (n) (by first|rfl|simp [Act.eval,Act.put]) (.int .i64 (m:Int)) (by first|rfl|simp [Act.eval,Act.put]) (s++[(n,.int .i64 (m:Int))]) (z2s hs) ?_;clear H;intro w9 H;replace H:Hp _ _ _ (_::_::(y1u A++(y1u B++M))):=H))
   go_end0
   have hsa:y1m s n m=s++[(n,.int .i64 (m:Int))]:=by simp [y1m,hs]
   rw [hsa];exact ⟨rfl,hback _ _ H⟩
theorem y77 {w:World} {a T:Nat} {d:FieldD} {vs:List Value} (h:DatL w a T (y3z d) vs):
  ∃A c A2 c2,vs=[.bool d.note.has,.bool d.note.block,.string (str d.note.text),.string (str d.name),.slice A d.args.length c,.string (str d.ty.1),.string (str d.ty.2),.slice A2 d.dirs.length c2,.int .i64 d.line,.int .i64 d.col]∧Dat w a T (.list d.args.length (y0o d.args)) (.slice A d.args.length c)∧Dat w a T (.list d.dirs.length (y24 d.dirs)) (.slice A2 d.dirs.length c2):=by
 obtain ⟨⟨nh,nb,nt⟩,dn,args,⟨tn,tw⟩,dirs,dl,dc⟩:=d;exact y62 h
theorem y78 {w:World} {a T:Nat} {d:NamedD} {vs:List Value} (h:DatL w a T (y87 d) vs):vs=[.string (str d.name),.int .i64 d.line,.int .i64 d.col]:=by
 obtain ⟨r0,rfl,h0⟩:=h.lit_inv;obtain ⟨r1,rfl,h1⟩:=h0.lit_inv;obtain ⟨r2,rfl,h2⟩:=h1.lit_inv;rw [h2.nil_inv]
theorem x63:(Tryz.prog.info? 52).map (·.size)=some 10:=by kernel_rfl
theorem z6b:(Tryz.prog.info? 113).map (·.size)=some 3:=by kernel_rfl
theorem y2f (x:Txt) (kk:Int) (g ga gd gf go:Nat) (sch:List Value) (VT VD:Value) (s:DefD) (ts ds:List DefD) (w0 w K:World) (M:List Ent) (H:Hp w0 w K M) (T:TyA K g ga gd gf go sch VT VD s ts ds) (hk:y0j ts x=kk):
  Calls Tryz.prog 79 #[.pointer (some ⟨g,0,none⟩),.string (str x)] w fun e w'=>e= .returned (.int .i64 kk)∧Hp w0 w' K M:=by
 subst hk;exact q8n x g ga gd gf go sch VT VD s ts ds w0 w K M H T
theorem z4g (A:List Ent) (x n:Txt) (m:Nat) (OB:List (Txt×Nat×List (Txt×Value))) (g go:Nat) (cs:List Value) (w0 w K:World) (M:List Ent) (H:Hp w0 w K (A++(.map go (y0y (y16 OB))::(y1u OB++M)))) (hT:Kb K g cs 91) (hgo:cs[22]?=some (.map (some go))):
  Calls Tryz.prog 108 #[.pointer (some ⟨g,0,none⟩),.string (str x),.string (str n),.int .i64 (m:Int)] w fun e w'=>e= .returned (.tuple #[])∧ ∃OB',addO (omap OB) x n m=omap OB'∧Hp w0 w' K (A++(.map go (y0y (y16 OB'))::(y1u OB'++M))):=by
 have H1:Hp w0 w K (.map go (y0y (y16 OB))::(y1u OB++(A++M))):=by
  have h:=Hp.rot A (.map go (y0y (y16 OB))::y1u OB) (M:=M) H;exact h
 refine (q0y x n m (omap OB) g go cs w0 w K (A++M) ⟨OB,rfl,H1⟩ hT hgo).mono ?_;rintro e w' ⟨rfl,OB',h1,h2⟩;exact ⟨rfl,OB',h1,Hp.rot (.map go (y0y (y16 OB'))::y1u OB') A (M:=M) h2⟩
def z9t (ts:List DefD) (nm:Txt) (i:Nat) (m:OMap) (n:NamedD):OMap:=if y0j ts n.name=4 then addO m n.name nm i else m
def z9u (ts:List DefD) (nm:Txt) (m:OMap) (q:NamedD×Nat):OMap:=if y0j ts q.1.name=3 then addO m nm q.1.name q.2 else m
theorem q0z {ts:List DefD} {m:OMap} {d:DefD} {i:Nat} (h:d.kind=3):y4a ts m (d,i)=d.ifaces.foldl (z9t ts d.name i) (addO m d.name d.name i):=by
 unfold y4a;rw [if_pos h];rfl
theorem q00 {ts:List DefD} {m:OMap} {d:DefD} {i:Nat} (h:d.kind=5):y4a ts m (d,i)=d.members.zipIdx.foldl (z9u ts d.name) m:=by
 have h3: ¬d.kind=3:=by omega
 unfold y4a;rw [if_neg h3,if_pos h];rfl
theorem q01 {ts:List DefD} {m:OMap} {d:DefD} {i:Nat} (h3: ¬d.kind=3) (h5: ¬d.kind=5):y4a ts m (d,i)=m:=by
 unfold y4a;rw [if_neg h3,if_neg h5]
set_option maxHeartbeats 16000000 in
theorem q48 (g ga gd gf go:Nat) (sch:List Value) (VT VD:Value) (s:DefD) (ts ds:List DefD) (n:Nat) (w0 w K:World) (M:List Ent) (H:Hp w0 w K (.map gf []:: .map go []::M)) (T:TyA K g ga gd gf go sch VT VD s ts ds) (hn:ts.length=n) (hm:y0i ts≤20000000):
  Calls Tryz.prog 62 #[.pointer (some ⟨g,0,none⟩)] w fun e w'=>e= .returned (.tuple #[])∧ ∃OB,y11 ts=omap OB∧Hp w0 w' K (.map gf (y0s kp (fieldsOf ts)):: .map go (y0y (y16 OB))::(y1u OB++M)):=by
 have hnl:n≤20000000:=by have:=y0w y28 ts;unfold y0i at hm;omega
 obtain ⟨A,c,rfl,hc1,hc2⟩:=y4e T.types;rw [hn] at hc1;have HT:=T.types;have h17:=H.kcell T.box T.c17;rw [hn] at HT h17;have HN:=hide hn;clear hn;go_enter Tryz.func62,Tryz.ntmps62
 go_wp2_with fail
 go_loopw [17] (fun i wr=>∃(k:Nat) (OB:List (Txt×Nat×List (Txt×Value))),k≤n∧i= .int .i64 k∧(ts.take k).zipIdx.foldl (y4a ts) []=omap OB∧Hp w0 wr K (.map gf (y0s kp ((ts.take k).foldl x6u [])):: .map go (y0y (y16 OB))::(y1u OB++M))) (fun i _=>n - (intOf i).toNat)
 case atStart=>exact ⟨0,[],Qak _,rfl,rfl,H⟩
 case round=>
  clear H h17;obtain ⟨k,OB,hk,rfl,hom,H⟩:=hrel;by_cases hlt:k<n
  ·have hkI:(k:Int)<(n:Int):=by omega
   obtain ⟨d,hd⟩: ∃x,ts[k]?=some x:=⟨_,Qad (by rw [HN.out];exact hlt)⟩;have HE1:=hide (y4r hd x6u []);have HE2:=hide (y3s hd (y4a ts) []);obtain ⟨ad,xs,rfl,hxd,_,hat⟩:=y65 (m:=17) (f:=defL) y1b H HT hd (by omega);have hdn:=y4b hd;have hif:=z4f d;have hme:=z1n d;have hfi:=q0s d;clear hd;obtain ⟨A6,c6,A7,c7,A8,c8,A9,c9,A10,c10,A11,c11,A12,c12,A14,c14,rfl,d6,-,d8,-,d10,-,-,-⟩:=y0h hxd;clear hxd;obtain ⟨kd,hkd⟩: ∃kd,d.kind=kd:=⟨_,rfl⟩;rw [hkd] at hat;have HKD:=hide hkd;clear hkd;have hsz:(Tryz.prog.info? 43).map (·.size)=some 17:=y60;generalize hF0:(ts.take k).foldl x6u []=F0 at H HE1;rw [hom] at HE2;clear hF0 hom
   go_upto_region 3 with (first
    |((with_reducible show wpList _ _ _ (_::_) _ _);refine y0c (by rfl) 43 (.tmp 20) (by rfl) (ad.add (k*17)) (by simp [Act.eval,Act.put]) _ _ hat Tryz.underlying43 rfl hsz ?_)
    |((with_reducible refine isL ?_);first
     |(refine al z43 3 H ?_;clear H;intro w1 g3 H)
     |(refine sA 3 0 H ?_;clear H;intro w3 H)))
   clear hat;have hF:(w3).cell? ⟨g3,8,none⟩=some (.slice A8 d.fields.length c8):=H.cell (i:=0) rfl rfl;obtain ⟨nf,hnf⟩: ∃x,d.fields.length=x:=⟨_,rfl⟩;have HNF:=hide hnf;rw [hnf] at H hF d8 hfi;clear hnf;have hsf:=x63;have hsn:=z6b
   go_wp2_with fail
   go_loopw [25] (fun i wr=>∃(j:Nat),j≤nf∧i= .int .i64 j∧Hp w0 wr K (.box g3 [.int .i64 kd,.bool d.ext,.bool d.note.has,.bool d.note.block,.string (str d.note.text),.string (str d.name),.slice A6 d.ifaces.length c6,.slice A7 d.dirs.length c7,.slice A8 nf c8,.slice A9 d.inputs.length c9,.slice A10 d.members.length c10,.slice A11 d.values.length c11,.slice A12 d.roots.length c12,.bool d.rep,.slice A14 d.places.length c14,.int .i64 d.line,.int .i64 d.col] 43:: .map gf (y0s kp ((d.fields.take j).zipIdx.foldl (fun m p=>addF m d.name p.1.name p.2) F0)):: .map go (y0y (y16 OB))::(y1u OB++M))) (fun i _=>nf - (intOf i).toNat)
   case atStart=>exact ⟨0,Qak _,rfl,H⟩
   case round=>
    clear H hF;obtain ⟨j,hj,rfl,H⟩:=hrel;by_cases hjl:j<nf
    ·have hjI:(j:Int)<(nf:Int):=by omega
     obtain ⟨x,hx⟩: ∃x,d.fields[j]?=some x:=⟨_,Qad (by rw [HNF.out];exact hjl)⟩;have HE3:=hide (y3s hx (fun m p=>addF m d.name p.1.name p.2) F0);obtain ⟨ad2,ys,rfl,hxd2,_,hat2⟩:=y65 (m:=10) (f:=y3z) (fun _=>rfl) H d8 hx (by omega);clear hx;obtain ⟨B4,e4,B7,e7,rfl,-,-⟩:=y77 hxd2;clear hxd2;generalize hF1:(d.fields.take j).zipIdx.foldl (fun m p=>addF m d.name p.1.name p.2) F0=F1 at H HE3;clear hF1
     go_upto_region 6 with (first
      |((with_reducible show wpList _ _ _ (_::_) _ _);refine y0c (by rfl) 52 (.tmp 28) (by rfl) (ad2.add (j*10)) (by simp [Act.eval,Act.put]) _ _ hat2 Tryz.underlying52 rfl hsf ?_)
      |((with_reducible refine isL ?_);first
       |(refine al z52 5 H ?_;clear H;intro w4 g5 H)
       |(refine sA 5 0 H ?_;clear H;intro w6 H)))
     clear hat2
     cases hf:y00 F1 (d.name,x.name) with
     |some v=>
      have cf7:(w6).cell? ⟨g,21,none⟩=some (.map (some gf)):=H.kcell T.box T.c21;have:=H.c 1 5;have:=H.c 0 3;have hrun:=fun k=>y04 (P:=Tryz.prog) (w:=(w6).drewN k) (t:=88) (kt:=125) (et:=3) (l:=F1) (b:=gf) Tryz.underlying88 (q0a q8j) (.int .i64 0) (y0p _) ((H.drew k).mapAt (i:=2) rfl) (d.name,x.name) true
      go_quiet (fail)
      replace H:=H.drew nq;obtain ⟨w8,hq9⟩: ∃x,(w6).drewN nq=x:=⟨_,rfl⟩;rw [hq9] at H ⊢;clear hq9;replace H:Hp _ _ _ (_::_::_::_::(y1u OB++M)):=H
      go_wp2_with fail
      replace H:=H.sub (Qai _ (Qaa _ (Qaa _ (Qaa _ (Qam _)))));go_roundw
      case rel=>exact ⟨j+1,by omega,by go_num,by rw [HE3.out];unfold addF;rw [hf];exact H⟩
      case measure=>simp [intOf];omega
     |none=>
      have cf10:(w6).cell? ⟨g,21,none⟩=some (.map (some gf)):=H.kcell T.box T.c21;have:=H.c 1 5;have:=H.c 0 3;have hrun:=fun k=>y04 (P:=Tryz.prog) (w:=(w6).drewN k) (t:=88) (kt:=125) (et:=3) (l:=F1) (b:=gf) Tryz.underlying88 (q0a q8j) (.int .i64 0) (y0p _) ((H.drew k).mapAt (i:=2) rfl) (d.name,x.name) true
      go_quiet (fail)
      replace H:=H.drew nq;obtain ⟨w11,hq12⟩: ∃x,(w6).drewN nq=x:=⟨_,rfl⟩;rw [hq12] at H ⊢;clear hq12;replace H:Hp _ _ _ (_::_::_::_::(y1u OB++M)):=H;clear hrun
      go_upto_region 8 with (fail)
      refine q4t 10 (by kernel_rfl) (by kernel_rfl) H ?_;clear H;intro w13 H;have cf14:(w13).cell? ⟨g,21,none⟩=some (.map (some gf)):=H.kcell T.box T.c21;have:=H.c 1 5;have:=H.c 0 3;simp only [List.take_succ_cons,List.take_zero,List.drop_succ_cons,List.drop_zero]
      repeat still_step
      refine wpStill_nil ?_;replace H:Hp _ _ _ (_::_::_::_::(y1u OB++M)):=H;have cf15:(w13).cell? ⟨g,21,none⟩=some (.map (some gf)):=H.kcell T.box T.c21;have:=H.c 1 5;have:=H.c 0 3
      go_upto_region 9 with (first
       |(refine y8q (by rfl) (.tmp 48) (.tmp 53) (.tmp 54) 88 (by rfl) Tryz.underlying88 (q0a q8j) H 2 gf F1 (by rfl) (by first|rfl|simp [Act.eval,Act.put]) ((d.name,x.name)) (by first|rfl|simp [Act.eval,Act.put]) (.int .i64 (j:Int)) (by first|rfl|simp [Act.eval,Act.put]) (F1++[((d.name,x.name),.int .i64 (j:Int))]) (z2s hf) ?_;clear H;intro w16 H;replace H:Hp _ _ _ (_::_::_::_::(y1u OB++M)):=H;have cf17:(w16).cell? ⟨g,21,none⟩=some (.map (some gf)):=H.kcell T.box T.c21;have:=H.c 1 5;have:=H.c 0 3))
      replace H:=H.sub (Qai _ (Qaa _ (Qaa _ (Qaa _ (Qam _)))))
      go_wp2_with fail
      go_roundw
      case rel=>exact ⟨j+1,by omega,by go_num,by rw [HE3.out];unfold addF;rw [hf];exact H⟩
      case measure=>simp [intOf];omega
    ·obtain rfl:nf=j:=by omega
     have htk:d.fields.take nf=d.fields:=by rw [←HNF.out];exact List.take_length
     rw [htk] at H;clear htk;have hFd:d.fields.zipIdx.foldl (fun m p=>addF m d.name p.1.name p.2) F0=x6u F0 d:=rfl;rw [hFd,←HE1.out] at H;clear hFd;generalize hF2:(ts.take (k+1)).foldl x6u []=F2 at H;have hK0:(wr).cell? ⟨g3,0,none⟩=some (.int .i64 kd):=H.cell (i:=0) rfl rfl;by_cases h3:kd=3
     ·subst h3;obtain ⟨ni,hni⟩: ∃x,d.ifaces.length=x:=⟨_,rfl⟩;have HNI:=hide hni;rw [hni] at H d6 hif;clear hni;have:=H.c 0 0;have:=H.c 0 5
      go_upto_region 13 with (first
       |(go_at_call 108;refine (z4g [.box g3 [.int .i64 3,.bool d.ext,.bool d.note.has,.bool d.note.block,.string (str d.note.text),.string (str d.name),.slice A6 ni c6,.slice A7 d.dirs.length c7,.slice A8 nf c8,.slice A9 d.inputs.length c9,.slice A10 d.members.length c10,.slice A11 d.values.length c11,.slice A12 d.roots.length c12,.bool d.rep,.slice A14 d.places.length c14,.int .i64 d.line,.int .i64 d.col] 43,.map gf (y0s kp F2)] d.name d.name k OB g go _ _ _ _ M H T.box T.c22).mono ?_;clear H;rintro e w5 ⟨rfl,OB5,hO5,H⟩;have:=H.c 0 0;have:=H.c 0 5))
      replace H:Hp _ _ _ (.box _ [_,_,_,_,_,_,_,_,_,_,_,_,_,_,_,_,_] _::_::_::(y1u OB5++M)):=H
      try dsimp only at H
      have hI:(w5).cell? ⟨g3,6,none⟩=some (.slice A6 ni c6):=H.cell (i:=0) rfl rfl;clear hK0
      go_wp2_with fail
      go_loopw [70] (fun i wr=>∃(j:Nat) (OB6:List (Txt×Nat×List (Txt×Value))),j≤ni∧i= .int .i64 j∧(d.ifaces.take j).foldl (z9t ts d.name k) (addO (omap OB) d.name d.name k)=omap OB6∧Hp w0 wr K (.box g3 [.int .i64 3,.bool d.ext,.bool d.note.has,.bool d.note.block,.string (str d.note.text),.string (str d.name),.slice A6 ni c6,.slice A7 d.dirs.length c7,.slice A8 nf c8,.slice A9 d.inputs.length c9,.slice A10 d.members.length c10,.slice A11 d.values.length c11,.slice A12 d.roots.length c12,.bool d.rep,.slice A14 d.places.length c14,.int .i64 d.line,.int .i64 d.col] 43:: .map gf (y0s kp F2):: .map go (y0y (y16 OB6))::(y1u OB6++M))) (fun i _=>ni - (intOf i).toNat)
      case atStart=>exact ⟨0,OB5,Qak _,rfl,hO5,H⟩
      case round=>
       clear H hI;obtain ⟨j,OB6,hj,rfl,hO6,H⟩:=hrel;by_cases hjl:j<ni
       ·have hjI:(j:Int)<(ni:Int):=by omega
        obtain ⟨x,hx⟩: ∃x,d.ifaces[j]?=some x:=⟨_,Qad (by rw [HNI.out];exact hjl)⟩;have HE4:=hide (y4r hx (z9t ts d.name k) (addO (omap OB) d.name d.name k));obtain ⟨ad3,ys,rfl,hxd3,_,hat3⟩:=y65 (m:=3) (f:=y87) (fun _=>rfl) H d6 hx (by omega);clear hx;obtain rfl:=y78 hxd3;clear hxd3;rw [hO6] at HE4;clear hO6;obtain ⟨kk,hkk⟩: ∃kk,y0j ts x.name=kk:=⟨_,rfl⟩;by_cases h4:kk=4
        ·subst h4;have HIF:=hide (show z9t ts d.name k (omap OB6) x=addO (omap OB6) x.name d.name k from if_pos hkk)
         go_upto_region 16 with (first
          |((with_reducible show wpList _ _ _ (_::_) _ _);refine y0c (by rfl) 113 (.tmp 72) (by rfl) (ad3.add (j*3)) (by simp [Act.eval,Act.put]) _ _ hat3 Tryz.underlying113 rfl hsn ?_)
          |((with_reducible refine isL ?_);first
           |(refine al z113 9 H ?_;clear H;intro w19 g9 H)
           |(refine sA 9 0 H ?_;clear H;intro w21 H)))
         clear hat3;have:=H.c 0 0
         go_upto_region 17 with (first
          |(go_at_call 79;refine (y2f x.name 4 g ga gd gf go sch _ VD s ts ds _ _ _ _ H T hkk).mono ?_;clear H;rintro e w6 ⟨rfl,H⟩;have:=H.c 0 0))
         have:=H.c 0 0;have:=H.c 1 5
         go_upto_region 18 with (first
          |(go_at_call 108;refine (z4g [.box g9 [.string (str x.name),.int .i64 x.line,.int .i64 x.col] 113,.box g3 [.int .i64 3,.bool d.ext,.bool d.note.has,.bool d.note.block,.string (str d.note.text),.string (str d.name),.slice (some ad3) ni c6,.slice A7 d.dirs.length c7,.slice A8 nf c8,.slice A9 d.inputs.length c9,.slice A10 d.members.length c10,.slice A11 d.values.length c11,.slice A12 d.roots.length c12,.bool d.rep,.slice A14 d.places.length c14,.int .i64 d.line,.int .i64 d.col] 43,.map gf (y0s kp F2)] x.name d.name k OB6 g go _ _ _ _ M H T.box T.c22).mono ?_;clear H;rintro e w7 ⟨rfl,OB7,hO7,H⟩;have:=H.c 0 0;have:=H.c 1 5))
         replace H:Hp _ _ _ (.box _ [_,_,_] _:: .box _ [_,_,_,_,_,_,_,_,_,_,_,_,_,_,_,_,_] _::_::_::(y1u OB7++M)):=H
         try dsimp only at H
         replace H:=H.sub (Qai _ (Qaa _ (Qaa _ (Qaa _ (Qam _)))))
         go_wp2_with fail
         go_roundw
         case rel=>exact ⟨j+1,OB7,by omega,by go_num,by rw [HE4.out,HIF.out,hO7],H⟩
         case measure=>simp [intOf];omega
        ·have HIF:=hide (show z9t ts d.name k (omap OB6) x=omap OB6 from if_neg (by rw [hkk];exact h4))
         go_upto_region 16 with (first
          |((with_reducible show wpList _ _ _ (_::_) _ _);refine y0c (by rfl) 113 (.tmp 72) (by rfl) (ad3.add (j*3)) (by simp [Act.eval,Act.put]) _ _ hat3 Tryz.underlying113 rfl hsn ?_)
          |((with_reducible refine isL ?_);first
           |(refine al z113 9 H ?_;clear H;intro w24 g9 H)
           |(refine sA 9 0 H ?_;clear H;intro w26 H)))
         clear hat3;have:=H.c 0 0
         go_wp2_with (first
          |(go_at_call 79;refine (y2f x.name kk g ga gd gf go sch _ VD s ts ds _ _ _ _ H T hkk).mono ?_;clear H;rintro e w6 ⟨rfl,H⟩;have:=H.c 0 0))
         replace H:=H.sub (Qai _ (Qaa _ (Qaa _ (Qaa _ (Qam _)))));go_roundw
         case rel=>exact ⟨j+1,OB6,by omega,by go_num,by rw [HE4.out,HIF.out],H⟩
         case measure=>simp [intOf];omega
       ·obtain rfl:ni=j:=by omega
        have htk:d.ifaces.take ni=d.ifaces:=by rw [←HNI.out];exact List.take_length
        rw [htk] at hO6;clear htk
        go_wp2_with fail
        replace H:=H.tail;go_roundw
        case rel=>exact ⟨k+1,OB6,by omega,by go_num,by rw [HE2.out,q0z HKD.out];exact hO6,by rw [hF2];exact H⟩
        case measure=>simp [intOf];omega
     ·by_cases h5:kd=5
      ·subst h5;obtain ⟨ni,hni⟩: ∃x,d.members.length=x:=⟨_,rfl⟩;have HNI:=hide hni;rw [hni] at H d10 hme;clear hni;have hI:(wr).cell? ⟨g3,10,none⟩=some (.slice A10 ni c10):=H.cell (i:=0) rfl rfl
       go_wp2_with fail
       go_loopw [92] (fun i wr=>∃(j:Nat) (OB6:List (Txt×Nat×List (Txt×Value))),j≤ni∧i= .int .i64 j∧(d.members.take j).zipIdx.foldl (z9u ts d.name) (omap OB)=omap OB6∧Hp w0 wr K (.box g3 [.int .i64 5,.bool d.ext,.bool d.note.has,.bool d.note.block,.string (str d.note.text),.string (str d.name),.slice A6 d.ifaces.length c6,.slice A7 d.dirs.length c7,.slice A8 nf c8,.slice A9 d.inputs.length c9,.slice A10 ni c10,.slice A11 d.values.length c11,.slice A12 d.roots.length c12,.bool d.rep,.slice A14 d.places.length c14,.int .i64 d.line,.int .i64 d.col] 43:: .map gf (y0s kp F2):: .map go (y0y (y16 OB6))::(y1u OB6++M))) (fun i _=>ni - (intOf i).toNat)
       case atStart=>exact ⟨0,OB,Qak _,rfl,rfl,H⟩
       case round=>
        clear H hI hK0;obtain ⟨j,OB6,hj,rfl,hO6,H⟩:=hrel;by_cases hjl:j<ni
        ·have hjI:(j:Int)<(ni:Int):=by omega
         obtain ⟨x,hx⟩: ∃x,d.members[j]?=some x:=⟨_,Qad (by rw [HNI.out];exact hjl)⟩;have HE4:=hide (y3s hx (z9u ts d.name) (omap OB));obtain ⟨ad3,ys,rfl,hxd3,_,hat3⟩:=y65 (m:=3) (f:=y87) (fun _=>rfl) H d10 hx (by omega);clear hx;obtain rfl:=y78 hxd3;clear hxd3;rw [hO6] at HE4;clear hO6;obtain ⟨kk,hkk⟩: ∃kk,y0j ts x.name=kk:=⟨_,rfl⟩;by_cases h4:kk=3
         ·subst h4;have HIF:=hide (show z9u ts d.name (omap OB6) (x,j)=addO (omap OB6) d.name x.name j from if_pos hkk)
          go_upto_region 23 with (first
           |((with_reducible show wpList _ _ _ (_::_) _ _);refine y0c (by rfl) 113 (.tmp 95) (by rfl) (ad3.add (j*3)) (by simp [Act.eval,Act.put]) _ _ hat3 Tryz.underlying113 rfl hsn ?_)
           |((with_reducible refine isL ?_);first
            |(refine al z113 11 H ?_;clear H;intro w28 g11 H)
            |(refine sA 11 0 H ?_;clear H;intro w30 H)))
          clear hat3;have:=H.c 0 0
          go_upto_region 24 with (first
           |(go_at_call 79;refine (y2f x.name 3 g ga gd gf go sch _ VD s ts ds _ _ _ _ H T hkk).mono ?_;clear H;rintro e w6 ⟨rfl,H⟩;have:=H.c 0 0))
          have:=H.c 1 5;have:=H.c 0 0
          go_upto_region 25 with (first
           |(go_at_call 108;refine (z4g [.box g11 [.string (str x.name),.int .i64 x.line,.int .i64 x.col] 113,.box g3 [.int .i64 5,.bool d.ext,.bool d.note.has,.bool d.note.block,.string (str d.note.text),.string (str d.name),.slice A6 d.ifaces.length c6,.slice A7 d.dirs.length c7,.slice A8 nf c8,.slice A9 d.inputs.length c9,.slice (some ad3) ni c10,.slice A11 d.values.length c11,.slice A12 d.roots.length c12,.bool d.rep,.slice A14 d.places.length c14,.int .i64 d.line,.int .i64 d.col] 43,.map gf (y0s kp F2)] d.name x.name j OB6 g go _ _ _ _ M H T.box T.c22).mono ?_;clear H;rintro e w7 ⟨rfl,OB7,hO7,H⟩;have:=H.c 1 5;have:=H.c 0 0))
          replace H:Hp _ _ _ (.box _ [_,_,_] _:: .box _ [_,_,_,_,_,_,_,_,_,_,_,_,_,_,_,_,_] _::_::_::(y1u OB7++M)):=H
          try dsimp only at H
          replace H:=H.sub (Qai _ (Qaa _ (Qaa _ (Qaa _ (Qam _)))))
          go_wp2_with fail
          go_roundw
          case rel=>exact ⟨j+1,OB7,by omega,by go_num,by rw [HE4.out,HIF.out,hO7],H⟩
          case measure=>simp [intOf];omega
         ·have HIF:=hide (show z9u ts d.name (omap OB6) (x,j)=omap OB6 from if_neg (by rw [hkk];exact h4))
          go_upto_region 23 with (first
           |((with_reducible show wpList _ _ _ (_::_) _ _);refine y0c (by rfl) 113 (.tmp 95) (by rfl) (ad3.add (j*3)) (by simp [Act.eval,Act.put]) _ _ hat3 Tryz.underlying113 rfl hsn ?_)
           |((with_reducible refine isL ?_);first
            |(refine al z113 11 H ?_;clear H;intro w33 g11 H)
            |(refine sA 11 0 H ?_;clear H;intro w35 H)))
          clear hat3;have:=H.c 0 0
          go_wp2_with (first
           |(go_at_call 79;refine (y2f x.name kk g ga gd gf go sch _ VD s ts ds _ _ _ _ H T hkk).mono ?_;clear H;rintro e w6 ⟨rfl,H⟩;have:=H.c 0 0))
          replace H:=H.sub (Qai _ (Qaa _ (Qaa _ (Qaa _ (Qam _)))));go_roundw
          case rel=>exact ⟨j+1,OB6,by omega,by go_num,by rw [HE4.out,HIF.out],H⟩
          case measure=>simp [intOf];omega
        ·obtain rfl:ni=j:=by omega
         have htk:d.members.take ni=d.members:=by rw [←HNI.out];exact List.take_length
         rw [htk] at hO6;clear htk
         go_wp2_with fail
         replace H:=H.tail;go_roundw
         case rel=>exact ⟨k+1,OB6,by omega,by go_num,by rw [HE2.out,q00 HKD.out];exact hO6,by rw [hF2];exact H⟩
         case measure=>simp [intOf];omega
      ·go_wp2_with fail
       replace H:=H.sub (Qai _ (Qaa _ (Qaa _ (Qam _))));go_roundw
       case rel=>exact ⟨k+1,OB,by omega,by go_num,by rw [HE2.out,q01 (by rw [HKD.out];exact h3) (by rw [HKD.out];exact h5)],by rw [hF2];exact H⟩
       case measure=>simp [intOf];omega
  ·obtain rfl:n=k:=by omega
   have htk:ts.take n=ts:=by rw [←HN.out];exact List.take_length
   rw [htk] at H hom
   go_wp2_with fail
   go_end0
   exact ⟨rfl,OB,hom,H⟩
theorem sch_hp (defs ts:List DefD) (n c nt ct:Nat) (A Aty:Option Addr) (g ga gd gf go:Nat) (VD:Value) (w0 w K:World) (M:List Ent) (H:Hp w0 w K (tbox g ga gd gf go (.slice Aty nt ct) VD::M)) (hn:defs.length=n) (hd:RD K (.list n (y0r defs)) (.slice A n c)) (hm:y0i defs≤3000000)
  (hnt:ts.length=nt) (ht:RD K (.list nt (y0r ts)) (.slice Aty nt ct)) (hat:Km K ga (y0s ks (nmap (y0a ts)))):
  Calls Tryz.prog 61 #[.pointer (some ⟨g,0,none⟩),.slice A n c] w (SchP (y1w defs ts) w0 K (tbox g ga gd gf go (.slice Aty nt ct) VD::M)):=by
 have hnl:n≤3000000:=by have:=y0w y28 defs;unfold y0i at hm;omega
 cases hi:defs.findIdx? y1q with
 |none=>
  have hf:defs.find? y1q=none:=by
   rw [List.findIdx?_eq_none_iff] at hi;rw [List.find?_eq_none];intro x hx;simp [hi x hx]
  have hs:y1w defs ts={y5c with roots:=y39 ts}:=by unfold y1w;rw [hf]
  rw [hs];exact x60 defs ts n c nt ct A Aty g ga gd gf go VD w0 w K M H hn hd (by omega) hnt ht hat hi
 |some i=>
  obtain ⟨hlt,h1,h2⟩:=Qbs.1 hi;have hf:defs.find? y1q=some defs[i]:=List.find?_eq_some_iff_getElem.2 ⟨h1,i,hlt,rfl,fun j hj=>by simpa using h2 j hj⟩
  have hs:y1w defs ts=defs.foldl y13 defs[i]:=by unfold y1w;rw [hf]
  rw [hs];exact x61 defs _ i n c A g w0 w K _ H hn hd hm (Qad hlt) hi
theorem x4e {l:List DefD} {k:Nat} {x:DefD} (hn:(y0a l).Nodup) (hx:l[k]?=some x):kput (nmap ((y0a l).take k)) x.name (.int .i64 (k:Int))=nmap ((y0a l).take (k+1)):=by
 have hk:k<(y0a l).length:=by have:=(Qac.1 hx).1;simpa using this
 have hnx:(y0a l)[k]?=some x.name:=by simp [y0a,hx]
 have h1:(y0a l).take (k+1)=(y0a l).take k++[x.name]:=by rw [List.take_add_one,hnx];rfl
 have h2:((y0a l).take k).length=k:=by rw [Qau];omega
 have hnot:x.name∉(y0a l).take k:=by
  rw [←List.take_append_drop (k+1) (y0a l),h1,Qat,Qbr] at hn;intro hm;exact hn.2.2 _ hm _ (by simp) rfl
 have hf:y00 (nmap ((y0a l).take k)) x.name=none:=by rw [q0u];exact z4b hnot
 rw [z2s hf,h1];unfold nmap;rw [List.zipIdx_append,h2];simp
theorem z9v:(y0a givenT).Nodup:=Qa6 (by kernel_rfl)
theorem z4h:(y0a givenDirsD).Nodup:=Qa6 (by kernel_rfl)
theorem bt_hp (w0 w K:World) (M:List Ent) (H:Hp w0 w K M):Calls Tryz.prog 56 #[] w fun e w'=>∃K' A c,e= .returned (.slice A 13 c)∧Sat K' K∧Hp w0 w' K' M∧RD K' (.list 13 (y0r givenT)) (.slice A 13 c):=
 (z7f w0 w K M H).mono fun e w' ⟨K',A,c,h1,h2,h3,h4⟩=>⟨K',A,c,h1,h2,h3,h4⟩
theorem bd_hp (w0 w K:World) (M:List Ent) (H:Hp w0 w K M):Calls Tryz.prog 57 #[] w fun e w'=>∃K' A c,e= .returned (.slice A 4 c)∧Sat K' K∧Hp w0 w' K' M∧RD K' (.list 4 (y0r givenDirsD)) (.slice A 4 c):=
 (z9m w0 w K M H).mono fun e w' ⟨K',A,c,h1,h2,h3,h4⟩=>⟨K',A,c,h1,h2,h3,h4⟩
theorem x64:givenT.length=13:=by kernel_rfl
theorem z7j:givenDirsD.length=4:=by kernel_rfl
theorem z4i:y0i givenT≤1000∧y0i givenDirsD≤1000:=⟨Qa6 (by kernel_rfl),Qa6 (by kernel_rfl)⟩
structure BK (K:World) (defs:List DefD) (n:Nat) (v vg vd:Value) (b36 b37:Nat):Prop where
 d:RD K (.list n (y0r defs)) v
 g:RD K (.list 13 (y0r givenT)) vg
 r:RD K (.list 4 (y0r givenDirsD)) vd
 o:Km K b36 (y0s ks (nmap (y0a givenT)))
 p:Km K b37 (y0s ks (nmap (y0a givenDirsD)))
theorem BK.sat {K K':World} {defs:List DefD} {n:Nat} {v vg vd:Value} {b36 b37:Nat} (h:BK K defs n v vg vd b36 b37) (hs:Sat K' K):BK K' defs n v vg vd b36 b37:=⟨h.d.sat hs,h.g.sat hs,h.r.sat hs,h.o.sat hs,h.p.sat hs⟩
theorem z4j {l:List DefD} {x:Txt} {i:Nat} (h:y1y l x=some i):x∈y0a l:=by
 obtain ⟨d,hd,he⟩:=y2o h;exact Qbe.2 ⟨d,Qaf hd,he⟩
theorem q02 {p q:List DefD} {d:DefD} (h:d.kind=8) (hm:d.name∈y0a givenDirsD):y2e (p,q) d=(p,q):=by unfold y2e;rw [if_pos h,if_pos hm]
theorem q8p {p q:List DefD} {d:DefD} (h:d.kind=8) (hm:d.name∉y0a givenDirsD):y2e (p,q) d=(p,addD q d):=by unfold y2e;rw [if_pos h,if_neg hm]
theorem q49 {p q:List DefD} {d:DefD} (h: ¬d.kind=8) (hm: ¬IsTy d):y2e (p,q) d=(p,q):=by unfold y2e;rw [if_neg h,if_neg hm]
theorem q5a {p q:List DefD} {d:DefD} (h:IsTy d) (hm:d.name∈y0a givenT):y2e (p,q) d=(p,q):=by
 have h8: ¬d.kind=8:=by have:=h.2.1;omega
 unfold y2e;rw [if_neg h8,if_pos h,if_pos hm]
theorem q5b {p q:List DefD} {d:DefD} (h:IsTy d) (hm:d.name∉y0a givenT):y2e (p,q) d=(addD p d,q):=by
 have h8: ¬d.kind=8:=by have:=h.2.1;omega
 unfold y2e;rw [if_neg h8,if_pos h,if_neg hm]
theorem q03 (l:List DefD) (k:Nat) (hm:y0i l≤3000000):((l.take k).foldl y2e ([],[])).1.length≤3000000∧((l.take k).foldl y2e ([],[])).2.length≤3000000:=by
 have h1:=z9n (l.take k) ([],[]);have h2:=z7h (f:=defN) l k;have h3:=y0w y28 ((l.take k).foldl y2e ([],[])).1;have h4:=y0w y28 ((l.take k).foldl y2e ([],[])).2;have h5:y0i ([]:List DefD)=0:=rfl;simp only [h5] at h1;unfold y0i at h1 hm;omega
theorem z9w (l s:List DefD) (k:Nat):((l.take k).foldl addD s).length≤y0i s+y0i l:=by
 have h1:=y9n z2a (l.take k) s;have h2:=z7h (f:=defN) l k;have h3:=y0w y28 ((l.take k).foldl addD s);unfold y0i at h1 ⊢;omega
theorem bareN (l:List DefD):y0i (bare l).1≤y0i l∧y0i (bare l).2≤y0i l:=by
 have h1:=z9n l ([],[]);have h5:y0i ([]:List DefD)=0:=rfl;simp only [h5] at h1;unfold bare;omega
theorem x65 {l:List DefD} {d:DefD} (h:y1y l d.name=none):ty.step2 l d=l:=by unfold ty.step2;rw [h]
theorem z7k {l:List DefD} {d e:DefD} {i:Nat} (h:y1y l d.name=some i) (he:l[i]?=some e) (hc: ¬(d.ext=true∧d.kind=e.kind∧d.kind≠1∧d.name∉y0a givenT)):ty.step2 l d=l:=by
 unfold ty.step2;simp only [h,he];rw [if_neg hc]
theorem q04 {l:List DefD} {d e:DefD} {i:Nat} (h:y1y l d.name=some i) (he:l[i]?=some e) (hc:d.ext=true∧d.kind=e.kind∧d.kind≠1∧d.name∉y0a givenT):ty.step2 l d=l.set i (y1h e d):=by
 unfold ty.step2;simp only [h,he];rw [if_pos hc]
theorem q5c {TS:List (DefD×DV)} {i:Nat} {e:DefD} (h:(TS.map (·.1))[i]?=some e): ∃A V B,TS=A++(e,V)::B∧A.length=i:=by
 rw [Qbz] at h
 cases hq:TS[i]? with
 |none=>rw [hq] at h;cases h
 |some p=>
  rw [hq] at h;injection h with h;obtain ⟨e',V⟩:=p;simp only at h;subst h;obtain ⟨hi,hg⟩:=Qac.1 hq;exact ⟨TS.take i,V,TS.drop (i+1),by rw [←hg];simp,by rw [Qau];omega⟩
theorem ts_set {A B:List (DefD×DV)} {d e:DefD} {V U:DV} {i:Nat} (h:A.length=i):((A++(d,V)::B).map (·.1)).set i e=(A++(e,U)::B).map (·.1):=by
 subst h;simp only [Qas,List.map_cons];rw [List.set_append_right _ _ (by simp)];simp
def g1N (d:DefD):Nat:=if d.ext=true then 0 else defN d
def g2N (d:DefD):Nat:=if d.ext=true then defN d else 0
theorem g12: ∀l:List DefD,sumN g1N l+sumN g2N l=sumN defN l
 |[]=>rfl
 |d::r=>by
  have h:=g12 r;simp only [sumN]
  have h2:g1N d+g2N d=defN d:=by unfold g1N g2N;split<;>omega
  omega
theorem x16: ∀(l:List DefD) (p:List DefD×List DefD),y0i (l.foldl y2e p).1≤y0i p.1+sumN g1N l
 |[],p=>by simp [sumN]
 |d::r,p=>by
  have h1:=x16 r (y2e p d)
  have h2:y0i (y2e p d).1≤y0i p.1+g1N d:=by
   have a1:=z2a p.1 d;unfold y2e;split
   ·dsimp only;omega
   ·split
    ·rename_i h
     have hg:g1N d=defN d:=by unfold g1N;rw [if_neg];rw [h.2.2];exact Bool.false_ne_true
     dsimp only;split<;>omega
    ·omega
  simp only [List.foldl_cons,sumN] at h1 ⊢;omega
theorem x17: ∀(l s:List DefD),y0i (l.foldl ty.step2 s)≤y0i s+sumN g2N l
 |[],s=>by simp [sumN]
 |d::r,s=>by
  have h1:=x17 r (ty.step2 s d)
  have h2:y0i (ty.step2 s d)≤y0i s+g2N d:=by
   by_cases he:d.ext=true
   ·have hg:g2N d=defN d:=if_pos he;have:=q0o s d;omega
   ·have hs:ty.step2 s d=s:=by
     unfold ty.step2;split
     ·rfl
     ·split
      ·rfl
      ·rw [if_neg (fun h=>he h.1)]
    rw [hs];omega
  simp only [List.foldl_cons,sumN] at h1 ⊢;omega
theorem q5d {l:List DefD} {k:Nat} {x:DefD} (hx:l[k]?=some x) (he:x.ext=true):y0i ((l.take k).foldl ty.step2 (y2z l))+defN x≤y0i l+y0i givenT:=by
 have h1:=x17 (l.take k) (y2z l);have h2:=y9n z2a givenT (bare l).1;have h3:=x16 l ([],[]);have h4:=g12 l
 have h5:sumN g2N (l.take k)+g2N x≤sumN g2N l:=by
  have hl:l=l.take k++x::l.drop (k+1):=by
   obtain ⟨hi,rfl⟩:=Qac.1 hx;simp
  conv=>rhs;rw [hl]
  rw [y73];simp only [sumN];omega
 have h6:g2N x=defN x:=if_pos he;have h7:y0i ([]:List DefD)=0:=rfl;simp only [h7] at h3;unfold y2z bare at h1 h2 ⊢;unfold y0i at h1 h2 h3 ⊢;omega
theorem q05 (l:List DefD):l.length≤y0i l:=y0w y28 l
theorem Hp.freezeMaps {w0 w:World} {M:List Ent}: ∀{OB:List (Txt×Nat×List (Txt×Value))} {K:World},Hp w0 w K (y1u OB++M)→ ∃K',Sat K' K∧Hp w0 w K' M∧ ∀p∈OB,Km K' p.2.1 (y0s ks p.2.2)
 |[],K,H=>⟨K,Sat.refl K,H,fun _ h=>by cases h⟩
 |p::OB,K,H=>by
  have H:Hp w0 w K (.map p.2.1 (y0s ks p.2.2)::(y1u OB++M)):=H;obtain ⟨K1,s1,H,h1⟩:=H.freezeKm;obtain ⟨K2,s2,H,h2⟩:=Hp.freezeMaps (OB:=OB) H;refine ⟨K2,s2.trans s1,H,fun q hq=>?_⟩;rcases Qbd.1 hq with rfl|hq
  ·exact h1.sat s2
  ·exact h2 q hq
def BldP (D:TysD) (w0 K:World) (M:List Ent) (e:Ending) (w':World):Prop:=
 ∃K' g,e= .returned (.pointer (some ⟨g,0,none⟩))∧Sat K' K∧Hp w0 w' K' M∧TysK K' g D
set_option maxHeartbeats 64000000 in
theorem z0s (defs:List DefD) (n c:Nat) (A:Option Addr) (w0 w K:World) (M:List Ent) (H:Hp w0 w K M) (hn:defs.length=n) (hd:RD K (.list n (y0r defs)) (.slice A n c)) (hm:y0i defs≤3000000):
  Calls Tryz.prog 14 #[.slice A n c] w (BldP (y05 defs) w0 K M):=by
 have hnl:n≤3000000:=by have:=y0w y28 defs;unfold y0i at hm;omega
 have HN:=hide hn;clear hn;have hsz:(Tryz.prog.info? 43).map (·.size)=some 17:=y60;have hgl:=hide x64;have hrl:=hide z7j;go_enter Tryz.func14,Tryz.ntmps14;have hK:=Sat.refl K
 go_upto_region 2 with (first
  |(refine y38 (by rfl) 87 (by rfl) (some 28) (by rfl) H ?_;clear H;intro w1 b28 H;replace H:Hp _ _ _ (.map b28 (y0s ks [])::_):=H)
  |(refine y38 (by rfl) 87 (by rfl) (some 29) (by rfl) H ?_;clear H;intro w2 b29 H;replace H:Hp _ _ _ (.map b29 (y0s ks [])::_):=H)
  |(refine y38 (by rfl) 88 (by rfl) (some 30) (by rfl) H ?_;clear H;intro w3 b30 H;replace H:Hp _ _ _ (.map b30 (y0s ks [])::_):=H)
  |(refine y38 (by rfl) 89 (by rfl) (some 31) (by rfl) H ?_;clear H;intro w4 b31 H;replace H:Hp _ _ _ (.map b31 (y0s ks [])::_):=H)
  |(refine z16 (by rfl) 91 (.tmp 32) (by rfl) [.int .i64 0,.bool false,.bool false,.bool false,.string ⟨#[]⟩,.string ⟨#[]⟩,.slice none 0 0,.slice none 0 0,.slice none 0 0,.slice none 0 0,.slice none 0 0,.slice none 0 0,.slice none 0 0,.bool false,.slice none 0 0,.int .i64 0,.int .i64 0,.slice none 0 0,.map (some b28),.slice none 0 0,.map (some b29),.map (some b30),.map (some b31)] _ (by rfl) (by rfl) (some 33) (by rfl) H ?_;clear H;intro w5 g33 H hg6;clear hg6))
 go_upto_region 3 with (first
  |(go_at_call 56;refine (bt_hp _ _ _ _ H).mono ?_;clear H;rintro e w5 ⟨K5,Ag,cg,rfl,hle,H,hgv⟩;replace hd:=hd.sat hle;replace hK:=hle.trans hK)
  |(go_at_call 57;refine (bd_hp _ _ _ _ H).mono ?_;clear H;rintro e w6 ⟨K6,Ad,cd,rfl,hle,H,hdv⟩;replace hd:=hd.sat hle;replace hgv:=hgv.sat hle;replace hK:=hle.trans hK))
 obtain ⟨M1,hM1⟩: ∃x,((.box g33 [.int .i64 0,.bool false,.bool false,.bool false,.string ⟨#[]⟩,.string ⟨#[]⟩,.slice none 0 0,.slice none 0 0,.slice none 0 0,.slice none 0 0,.slice none 0 0,.slice none 0 0,.slice none 0 0,.bool false,.slice none 0 0,.int .i64 0,.int .i64 0,.slice none 0 0,.map (some b28),.slice none 0 0,.map (some b29),.map (some b30),.map (some b31)] 91:: .map b31 (y0s ks []):: .map b30 (y0s ks []):: .map b29 (y0s ks []):: .map b28 (y0s ks [])::M))=x:=⟨_,rfl⟩;rw [hM1] at H
 go_upto_region 5 with (first
  |(refine y38 (by rfl) 87 (by rfl) (some 36) (by rfl) H ?_;clear H;intro w9 b36 H;replace H:Hp _ _ _ (.map b36 (y0s ks [])::_):=H)
  |(refine y38 (by rfl) 87 (by rfl) (some 37) (by rfl) H ?_;clear H;intro w10 b37 H;replace H:Hp _ _ _ (.map b37 (y0s ks [])::_):=H))
 go_wp2_with fail
 go_loopw [40] (fun i wr=>∃(k:Nat),k≤13∧i= .int .i64 k∧Hp w0 wr K6 (.map b37 []:: .map b36 (y0s ks (nmap ((y0a givenT).take k)))::M1)) (fun i _=>13 - (intOf i).toNat)
 case atStart=>exact ⟨0,Qak _,rfl,H⟩
 case round=>
  clear H;obtain ⟨k,hk,rfl,H⟩:=hrel;by_cases hlt:k<13
  ·have hkI:(k:Int)<(13:Int):=by omega
   as_aux_lemma=>
    obtain ⟨x,hx⟩: ∃x,givenT[k]?=some x:=⟨_,Qad (by rw [hgl.out];exact hlt)⟩;obtain ⟨ad,xs,had,hxd,hxl,hatK⟩:=y4s (m:=17) (f:=defL) y1b hgv hx (by omega);subst had;obtain ⟨A6,c6,A7,c7,A8,c8,A9,c9,A10,c10,A11,c11,A12,c12,A14,c14,hxs,-,-,-,-,-,-,-,-⟩:=y0h hxd;have hown:=x4e z9v hx;clear hx hxd;subst hxs
    go_upto_region 8 with (first
     |((with_reducible show wpList _ _ _ (_::_) _ _);refine y0c (by rfl) 43 (.tmp 43) (by rfl) (ad.add (k*17)) (by simp [Act.eval,Act.put]) _ _ (At.sat hatK H.sat) Tryz.underlying43 rfl hsz ?_)
     |((with_reducible refine isL ?_);first
      |(refine al z43 9 H ?_;clear H;intro w11 g9 H)
      |(refine sA 9 0 H ?_;clear H;intro w13 H)))
    have:=H.c 0 5
    go_upto_region 9 with (first
     |(refine y8q (by rfl) (.tmp 45) (.tmp 47) (.tmp 48) 87 (by rfl) Tryz.underlying87 (y1i Tryz.underlying9) H 2 b36 (nmap ((y0a givenT).take k)) (by rfl) (by first|rfl|simp [Act.eval,Act.put]) (x.name) (by first|rfl|simp [Act.eval,Act.put]) (.int .i64 (k:Int)) (by first|rfl|simp [Act.eval,Act.put]) (nmap ((y0a givenT).take (k+1))) (hown) ?_;clear H;intro w14 H;replace H:Hp _ _ _ (_::_::_::M1):=H;have:=H.c 0 5))
    replace H:=H.sub (Qai _ (Qaa _ (Qaa _ (Qam _))))
    go_wp2_with fail
    go_roundw
    case rel=>exact ⟨k+1,by omega,by go_num,H⟩
    case measure=>simp [intOf];omega
  ·have hk13:k=13:=by omega
   have hkI: ¬(k:Int)<13:=by omega
   rw [hk13] at H;clear hk13 hlt;have htk:(y0a givenT).take 13=y0a givenT:=Qaj (by rw [Qay,hgl.out];exact Qab _);rw [htk] at H;clear htk
   go_wp2_with fail
   go_loopw [52] (fun i wr=>∃(k:Nat),k≤4∧i= .int .i64 k∧Hp w0 wr K6 (.map b37 (y0s ks (nmap ((y0a givenDirsD).take k))):: .map b36 (y0s ks (nmap (y0a givenT)))::M1)) (fun i _=>4 - (intOf i).toNat)
   case atStart=>exact ⟨0,Qak _,rfl,H⟩
   case round=>
    clear H;obtain ⟨k,hk,rfl,H⟩:=hrel;by_cases hlt:k<4
    ·have hkI:(k:Int)<(4:Int):=by omega
     as_aux_lemma=>
      obtain ⟨x,hx⟩: ∃x,givenDirsD[k]?=some x:=⟨_,Qad (by rw [hrl.out];exact hlt)⟩;obtain ⟨ad,xs,had,hxd,hxl,hatK⟩:=y4s (m:=17) (f:=defL) y1b hdv hx (by omega);subst had;obtain ⟨A6,c6,A7,c7,A8,c8,A9,c9,A10,c10,A11,c11,A12,c12,A14,c14,hxs,-,-,-,-,-,-,-,-⟩:=y0h hxd;have hown:=x4e z4h hx;clear hx hxd;subst hxs
      go_upto_region 13 with (first
       |((with_reducible show wpList _ _ _ (_::_) _ _);refine y0c (by rfl) 43 (.tmp 55) (by rfl) (ad.add (k*17)) (by simp [Act.eval,Act.put]) _ _ (At.sat hatK H.sat) Tryz.underlying43 rfl hsz ?_)
       |((with_reducible refine isL ?_);first
        |(refine al z43 11 H ?_;clear H;intro w15 g11 H)
        |(refine sA 11 0 H ?_;clear H;intro w17 H)))
      have:=H.c 0 5
      go_upto_region 14 with (first
       |(refine y8q (by rfl) (.tmp 57) (.tmp 59) (.tmp 60) 87 (by rfl) Tryz.underlying87 (y1i Tryz.underlying9) H 1 b37 (nmap ((y0a givenDirsD).take k)) (by rfl) (by first|rfl|simp [Act.eval,Act.put]) (x.name) (by first|rfl|simp [Act.eval,Act.put]) (.int .i64 (k:Int)) (by first|rfl|simp [Act.eval,Act.put]) (nmap ((y0a givenDirsD).take (k+1))) (hown) ?_;clear H;intro w18 H;replace H:Hp _ _ _ (_::_::_::M1):=H;have:=H.c 0 5))
      replace H:=H.sub (Qai _ (Qaa _ (Qaa _ (Qam _))))
      go_wp2_with fail
      go_roundw
      case rel=>exact ⟨k+1,by omega,by go_num,H⟩
      case measure=>simp [intOf];omega
    ·have hk4:k=4:=by omega
     have hkJ: ¬(k:Int)<4:=by omega
     rw [hk4] at H;clear hk4 hlt;have htk:(y0a givenDirsD).take 4=y0a givenDirsD:=Qaj (by rw [Qay,hrl.out];exact Qab _);rw [htk] at H;clear htk;obtain ⟨K7,s7,H,hod⟩:=H.freezeKm;obtain ⟨K8,s8,H,how⟩:=H.freezeKm;have hB:BK K8 defs n (.slice A n c) (.slice Ag 13 cg) (.slice Ad 4 cd) b36 b37:=⟨(hd.sat s7).sat s8,(hgv.sat s7).sat s8,(hdv.sat s7).sat s8,how,hod.sat s8⟩;replace hK:=(s8.trans s7).trans hK;clear s7 s8 hod how hd hgv hdv;subst hM1;obtain ⟨M2,hM2⟩: ∃x,(.map b30 []:: .map b31 []::M)=x:=⟨_,rfl⟩;have H1:=Hp.rotAt [tbox g33 b28 b29 b30 b31 (.slice none 0 0) (.slice none 0 0)] [.map b31 [],.map b30 [],.map b29 []] [.map b28 []] (M:=M) H;have H2:=Hp.rotAt [tbox g33 b28 b29 b30 b31 (.slice none 0 0) (.slice none 0 0),.map b28 []] [.map b31 [],.map b30 []] [.map b29 []] (M:=M) H1;have H3:=Hp.rotAt [tbox g33 b28 b29 b30 b31 (.slice none 0 0) (.slice none 0 0),.map b28 [],.map b29 []] [.map b31 []] [.map b30 []] (M:=M) H2;have H4:=(H3.nilRow 43 17).nilRow 43 17;have H5:=Hp.rotAt [] [.row 43 17 (.slice none 0 0) 0 [],.row 43 17 (.slice none 0 0) 0 []] [tbox g33 b28 b29 b30 b31 (.slice none 0 0) (.slice none 0 0),.map b28 []] (M:=.map b29 []:: .map b30 []:: .map b31 []::M) H4;have H6:=Hp.rotAt [tbox g33 b28 b29 b30 b31 (.slice none 0 0) (.slice none 0 0),.map b28 [],.row 43 17 (.slice none 0 0) 0 []] [.row 43 17 (.slice none 0 0) 0 []] [.map b29 []] (M:=.map b30 []:: .map b31 []::M) H5
     have hS:Bst g33 b28 b29 b30 b31 [] [] w0 wr K8 M2:=by
      rw [←hM2];exact ⟨[],.slice none 0 0,.slice none 0 0,[],rfl,(fun p hp=>by cases hp),RL.z,H6⟩
     clear H H1 H2 H3 H4 H5 H6
     go_wp2_with fail
     go_loopw [64] (fun i wr=>∃(k:Nat) (K7:World),k≤n∧i= .int .i64 k∧Sat K7 K∧BK K7 defs n (.slice A n c) (.slice Ag 13 cg) (.slice Ad 4 cd) b36 b37∧Bst g33 b28 b29 b30 b31 ((defs.take k).foldl y2e ([],[])).1 ((defs.take k).foldl y2e ([],[])).2 w0 wr K7 M2) (fun i _=>n - (intOf i).toNat)
     case atStart=>exact ⟨0,K8,Qak _,rfl,hK,hB,hS⟩
     case round=>
      clear hS hB hK;obtain ⟨k,K7,hk,rfl,hK,hB,hS⟩:=hrel;by_cases hlt:k<n
      ·have hkI:(k:Int)<(n:Int):=by omega
       as_aux_lemma=>
        obtain ⟨x,hx⟩: ∃x,defs[k]?=some x:=⟨_,Qad (by rw [HN.out];exact hlt)⟩;obtain ⟨ad,xs,had,hxd,hxl,hatK⟩:=y4s (m:=17) (f:=defL) y1b hB.d hx (by omega);subst had;obtain ⟨A6,c6,A7,c7,A8,c8,A9,c9,A10,c10,A11,c11,A12,c12,A14,c14,hxs,-,-,-,-,-,-,-,-⟩:=y0h hxd;have hxN:=y4b hx
        have hxm:defN x≤9000000:=by omega
        have hpl:=q03 defs k (by omega);have HE:=hide (y4r hx y2e ([],[]));clear hx;obtain ⟨⟨p1,p2⟩,hp⟩: ∃p,(defs.take k).foldl y2e ([],[])=p:=⟨_,rfl⟩;rw [hp] at HE hS hpl;clear hp;obtain ⟨TS,VT,VD,xD,hts,hok,hxD,H⟩:=Bst.to [] hS;clear hS;obtain ⟨kd,hkd⟩: ∃kd,x.kind=kd:=⟨_,rfl⟩;obtain ⟨ex,hex⟩: ∃ex,x.ext=ex:=⟨_,rfl⟩;rw [hkd,hex] at hxs;have HKD:=hide hkd;have HEX:=hide hex;clear hkd hex;subst hxs;have hqr:=y2x givenDirsD x.name;have hqg:=y2x givenT x.name;replace H:Hp _ _ _ (.box _ [_,_,_,_,_,_,_,_,_,_,_,_,_,_,_,_,_,_,_,_,_,_,_] _::_::_::_::_::(y1a TS++M2)):=H
        try dsimp only at H
        go_upto_region 18 with (first
         |((with_reducible show wpList _ _ _ (_::_) _ _);refine y0c (by rfl) 43 (.tmp 66) (by rfl) (ad.add (k*17)) (by simp [Act.eval,Act.put]) _ _ (At.sat hatK H.sat) Tryz.underlying43 rfl hsz ?_)
         |((with_reducible refine isL ?_);first
          |(refine al z43 13 H ?_;clear H;intro w19 g13 H)
          |(refine sA 13 0 H ?_;clear H;intro w21 H)))
        clear hatK;by_cases h8:kd=8
        ·subst h8
         cases hi:y1y givenDirsD x.name with
         |some i=>
          rw [hi] at hqr;have HST:=hide (q02 (p:=p1) (q:=p2) HKD.out (z4j hi));have:=H.c 0 0;have:=H.c 0 5
          go_wp2_with (first
           |(refine y1p (by rfl) (.tmp 73) (.tmp 75) 87 true (by rfl) Tryz.underlying87 (y1i Tryz.underlying9) (.int .i64 0) y0p b37 (nmap (y0a givenDirsD)) (H.kmap hB.p) (by first|rfl|simp [Act.eval,Act.put]) (x.name) (by first|rfl|simp [Act.eval,Act.put]) (.tuple #[.int .i64 (i:Int),.bool true]) (by rw [hqr];rfl) ?_))
          replace H:=H.sub (Qai _ (Qaa _ (Qaa _ (Qaa _ (Qaa _ (Qaa _ (Qam _)))))));go_roundw
          case rel=>exact ⟨k+1,K7,by omega,by go_num,hK,hB,by rw [HE.out,HST.out];exact Bst.of [] hts hok hxD H⟩
          case measure=>simp [intOf];omega
         |none=>
          rw [hi] at hqr;have HST:=hide (q8p (p:=p1) (q:=p2) HKD.out (z1m hi));have:=H.c 0 0;have:=H.c 0 5
          go_upto_region 21 with (first
           |(refine y1p (by rfl) (.tmp 73) (.tmp 75) 87 true (by rfl) Tryz.underlying87 (y1i Tryz.underlying9) (.int .i64 0) y0p b37 (nmap (y0a givenDirsD)) (H.kmap hB.p) (by first|rfl|simp [Act.eval,Act.put]) (x.name) (by first|rfl|simp [Act.eval,Act.put]) (.tuple #[.int .i64 0,.bool false]) (by rw [hqr];rfl) ?_))
          go_wp2_with (first
           |(go_at_call 58;refine (z9r [.box g13 [.int .i64 8,.bool ex,.bool x.note.has,.bool x.note.block,.string (str x.note.text),.string (str x.name),.slice A6 x.ifaces.length c6,.slice A7 x.dirs.length c7,.slice A8 x.fields.length c8,.slice A9 x.inputs.length c9,.slice A10 x.members.length c10,.slice A11 x.values.length c11,.slice A12 x.roots.length c12,.bool x.rep,.slice A14 x.places.length c14,.int .i64 x.line,.int .i64 x.col] 43] x _ g33 b28 b29 b30 b31 p1 p2 hts hok hxD H hxd hxm (by omega)).mono ?_;clear H;rintro e w9 ⟨K9,TS9,VT9,VD9,xD9,rfl,hle9,hts9,hok9,hxD9,H⟩)
           |((with_reducible refine isL ?_);first
            |(refine ld 13 0 17 Tryz.underlying43 H ?_)))
          replace H:=Hp.tail H;go_roundw
          case rel=>exact ⟨k+1,K9,by omega,by go_num,hle9.trans hK,hB.sat hle9,by rw [HE.out,HST.out];exact Bst.of [] hts9 hok9 hxD9 H⟩
          case measure=>simp [intOf];omega
        ·have HN8: ¬x.kind=8:=by rw [HKD.out];exact h8
         have HN8:=hide HN8;by_cases hty:2≤kd∧kd≤7∧ex=false
         ·obtain ⟨h2,h7,hx0⟩:=hty;subst hx0;have HTY:IsTy x:=⟨by rw [HKD.out];exact h2,by rw [HKD.out];exact h7,HEX.out⟩;have HTY:=hide HTY
          cases hi:y1y givenT x.name with
          |some i=>
           rw [hi] at hqg;have HST:=hide (q5a (p:=p1) (q:=p2) HTY.out (z4j hi));have cfK:(w21).cell? ⟨g13,0,none⟩=some (.int .i64 kd):=H.cell (i:=0) rfl rfl
           go_upto_region 22 with (fail)
           have:=H.c 0 0;have:=H.c 0 1;have:=H.c 0 5
           go_wp2_with (first
            |(refine y1p (by rfl) (.tmp 99) (.tmp 101) 87 true (by rfl) Tryz.underlying87 (y1i Tryz.underlying9) (.int .i64 0) y0p b36 (nmap (y0a givenT)) (H.kmap hB.o) (by first|rfl|simp [Act.eval,Act.put]) (x.name) (by first|rfl|simp [Act.eval,Act.put]) (.tuple #[.int .i64 (i:Int),.bool true]) (by rw [hqg];rfl) ?_))
           replace H:=H.sub (Qai _ (Qaa _ (Qaa _ (Qaa _ (Qaa _ (Qaa _ (Qam _)))))));go_roundw
           case rel=>exact ⟨k+1,K7,by omega,by go_num,hK,hB,by rw [HE.out,HST.out];exact Bst.of [] hts hok hxD H⟩
           case measure=>simp [intOf];omega
          |none=>
           rw [hi] at hqg;have HST:=hide (q5b (p:=p1) (q:=p2) HTY.out (z1m hi));have cfK:(w21).cell? ⟨g13,0,none⟩=some (.int .i64 kd):=H.cell (i:=0) rfl rfl
           go_upto_region 22 with (fail)
           have:=H.c 0 0;have:=H.c 0 1;have:=H.c 0 5
           go_upto_region 25 with (first
            |(refine y1p (by rfl) (.tmp 99) (.tmp 101) 87 true (by rfl) Tryz.underlying87 (y1i Tryz.underlying9) (.int .i64 0) y0p b36 (nmap (y0a givenT)) (H.kmap hB.o) (by first|rfl|simp [Act.eval,Act.put]) (x.name) (by first|rfl|simp [Act.eval,Act.put]) (.tuple #[.int .i64 0,.bool false]) (by rw [hqg];rfl) ?_))
           go_wp2_with (first
            |(go_at_call 59;refine (z6a [.box g13 [.int .i64 kd,.bool false,.bool x.note.has,.bool x.note.block,.string (str x.note.text),.string (str x.name),.slice A6 x.ifaces.length c6,.slice A7 x.dirs.length c7,.slice A8 x.fields.length c8,.slice A9 x.inputs.length c9,.slice A10 x.members.length c10,.slice A11 x.values.length c11,.slice A12 x.roots.length c12,.bool x.rep,.slice A14 x.places.length c14,.int .i64 x.line,.int .i64 x.col] 43] x _ g33 b28 b29 b30 b31 p1 p2 hts hok hxD H hxd hxm (by omega)).mono ?_;clear H;rintro e w9 ⟨K9,TS9,VT9,VD9,xD9,rfl,hle9,hts9,hok9,hxD9,H⟩)
            |((with_reducible refine isL ?_);first
             |(refine ld 13 0 17 Tryz.underlying43 H ?_)))
           replace H:=Hp.tail H;go_roundw
           case rel=>exact ⟨k+1,K9,by omega,by go_num,hle9.trans hK,hB.sat hle9,by rw [HE.out,HST.out];exact Bst.of [] hts9 hok9 hxD9 H⟩
           case measure=>simp [intOf];omega
         ·have HNT: ¬IsTy x:=fun h=>hty ⟨by rw [←HKD.out];exact h.1,by rw [←HKD.out];exact h.2.1,by rw [←HEX.out];exact h.2.2⟩;have HST:=hide (q49 (p:=p1) (q:=p2) HN8.out HNT);clear HNT;have cfK:(w21).cell? ⟨g13,0,none⟩=some (.int .i64 kd):=H.cell (i:=0) rfl rfl
          go_upto_region 22 with (fail)
          by_cases h2:2≤kd
          ·by_cases h7:kd≤7
           ·have hx1:ex=true:=by
             cases ex with
             |true=>rfl
             |false=>exact absurd ⟨h2,h7,rfl⟩ hty
            clear hty;subst hx1;have:=H.c 0 0;have:=H.c 0 1
            go_wp2_with fail
            replace H:=H.sub (Qai _ (Qaa _ (Qaa _ (Qaa _ (Qaa _ (Qaa _ (Qam _)))))));go_roundw
            case rel=>exact ⟨k+1,K7,by omega,by go_num,hK,hB,by rw [HE.out,HST.out];exact Bst.of [] hts hok hxD H⟩
            case measure=>simp [intOf];omega
           ·clear hty;have:=H.c 0 0;have:=H.c 0 1
            go_wp2_with fail
            replace H:=H.sub (Qai _ (Qaa _ (Qaa _ (Qaa _ (Qaa _ (Qaa _ (Qam _)))))));go_roundw
            case rel=>exact ⟨k+1,K7,by omega,by go_num,hK,hB,by rw [HE.out,HST.out];exact Bst.of [] hts hok hxD H⟩
            case measure=>simp [intOf];omega
          ·clear hty;have:=H.c 0 0;have:=H.c 0 1
           go_wp2_with fail
           replace H:=H.sub (Qai _ (Qaa _ (Qaa _ (Qaa _ (Qaa _ (Qaa _ (Qam _)))))));go_roundw
           case rel=>exact ⟨k+1,K7,by omega,by go_num,hK,hB,by rw [HE.out,HST.out];exact Bst.of [] hts hok hxD H⟩
           case measure=>simp [intOf];omega
      ·obtain rfl:n=k:=by omega
       have htk:defs.take n=defs:=by rw [←HN.out];exact List.take_length
       rw [htk] at hS;clear htk;have hb12:=bareN defs;have hgN:=z4i
       go_wp2_with fail
       go_loopw [113] (fun i wr=>∃(k:Nat) (K7:World),k≤13∧i= .int .i64 k∧Sat K7 K∧BK K7 defs n (.slice A n c) (.slice Ag 13 cg) (.slice Ad 4 cd) b36 b37∧Bst g33 b28 b29 b30 b31 ((givenT.take k).foldl addD (bare defs).1) (bare defs).2 w0 wr K7 M2) (fun i _=>13 - (intOf i).toNat)
       case atStart=>exact ⟨0,K7,Qak _,rfl,hK,hB,hS⟩
       case round=>
        clear hS hB hK;obtain ⟨k,K7,hk,rfl,hK,hB,hS⟩:=hrel;by_cases hlt:k<13
        ·have hkI:(k:Int)<(13:Int):=by omega
         as_aux_lemma=>
          obtain ⟨x,hx⟩: ∃x,givenT[k]?=some x:=⟨_,Qad (by rw [hgl.out];exact hlt)⟩;obtain ⟨ad,xs,had,hxd,hxl,hatK⟩:=y4s (m:=17) (f:=defL) y1b hB.g hx (by omega);subst had;obtain ⟨A6,c6,A7,c7,A8,c8,A9,c9,A10,c10,A11,c11,A12,c12,A14,c14,hxs,-,-,-,-,-,-,-,-⟩:=y0h hxd;have hxN:=y4b hx
          have hxm:defN x≤9000000:=by omega
          have hpl:=z9w givenT (bare defs).1 k;have HE:=hide (y4r hx addD (bare defs).1);clear hx;obtain ⟨p1,hp⟩: ∃p,(givenT.take k).foldl addD (bare defs).1=p:=⟨_,rfl⟩;rw [hp] at HE hS hpl;clear hp;obtain ⟨TS,VT,VD,xD,hts,hok,hxD,H⟩:=Bst.to [] hS;clear hS;subst hxs;replace H:Hp _ _ _ (.box _ [_,_,_,_,_,_,_,_,_,_,_,_,_,_,_,_,_,_,_,_,_,_,_] _::_::_::_::_::(y1a TS++M2)):=H
          try dsimp only at H
          go_upto_region 30 with (first
           |((with_reducible show wpList _ _ _ (_::_) _ _);refine y0c (by rfl) 43 (.tmp 115) (by rfl) (ad.add (k*17)) (by simp [Act.eval,Act.put]) _ _ (At.sat hatK H.sat) Tryz.underlying43 rfl hsz ?_)
           |((with_reducible refine isL ?_);first
            |(refine al z43 19 H ?_;clear H;intro w24 g19 H)
            |(refine sA 19 0 H ?_;clear H;intro w26 H)))
          clear hatK
          go_wp2_with (first
           |(go_at_call 59;refine (z6a [.box g19 [.int .i64 x.kind,.bool x.ext,.bool x.note.has,.bool x.note.block,.string (str x.note.text),.string (str x.name),.slice A6 x.ifaces.length c6,.slice A7 x.dirs.length c7,.slice A8 x.fields.length c8,.slice A9 x.inputs.length c9,.slice A10 x.members.length c10,.slice A11 x.values.length c11,.slice A12 x.roots.length c12,.bool x.rep,.slice A14 x.places.length c14,.int .i64 x.line,.int .i64 x.col] 43] x _ g33 b28 b29 b30 b31 p1 (bare defs).2 hts hok hxD H hxd hxm (by omega)).mono ?_;clear H;rintro e w9 ⟨K9,TS9,VT9,VD9,xD9,rfl,hle9,hts9,hok9,hxD9,H⟩)
           |((with_reducible refine isL ?_);first
            |(refine ld 19 0 17 Tryz.underlying43 H ?_)))
          replace H:=Hp.tail H;go_roundw
          case rel=>exact ⟨k+1,K9,by omega,by go_num,hle9.trans hK,hB.sat hle9,by rw [HE.out];exact Bst.of [] hts9 hok9 hxD9 H⟩
          case measure=>simp [intOf];omega
        ·have hk13:k=13:=by omega
         have hkI: ¬(k:Int)<13:=by omega
         rw [hk13] at hS;clear hk13 hlt;have htk:givenT.take 13=givenT:=Qaj (by rw [hgl.out];exact Qab _);rw [htk] at hS;clear htk
         go_wp2_with fail
         go_loopw [123] (fun i wr=>∃(k:Nat) (K7:World),k≤4∧i= .int .i64 k∧Sat K7 K∧BK K7 defs n (.slice A n c) (.slice Ag 13 cg) (.slice Ad 4 cd) b36 b37∧Bst g33 b28 b29 b30 b31 (y2z defs) ((givenDirsD.take k).foldl addD (bare defs).2) w0 wr K7 M2) (fun i _=>4 - (intOf i).toNat)
         case atStart=>exact ⟨0,K7,Qak _,rfl,hK,hB,hS⟩
         case round=>
          clear hS hB hK;obtain ⟨k,K7,hk,rfl,hK,hB,hS⟩:=hrel;by_cases hlt:k<4
          ·have hkI:(k:Int)<(4:Int):=by omega
           as_aux_lemma=>
            obtain ⟨x,hx⟩: ∃x,givenDirsD[k]?=some x:=⟨_,Qad (by rw [hrl.out];exact hlt)⟩;obtain ⟨ad,xs,had,hxd,hxl,hatK⟩:=y4s (m:=17) (f:=defL) y1b hB.r hx (by omega);subst had;obtain ⟨A6,c6,A7,c7,A8,c8,A9,c9,A10,c10,A11,c11,A12,c12,A14,c14,hxs,-,-,-,-,-,-,-,-⟩:=y0h hxd;have hxN:=y4b hx
            have hxm:defN x≤9000000:=by omega
            have hpl:=z9w givenDirsD (bare defs).2 k;have HE:=hide (y4r hx addD (bare defs).2);clear hx;obtain ⟨p1,hp⟩: ∃p,(givenDirsD.take k).foldl addD (bare defs).2=p:=⟨_,rfl⟩;rw [hp] at HE hS hpl;clear hp;obtain ⟨TS,VT,VD,xD,hts,hok,hxD,H⟩:=Bst.to [] hS;clear hS;subst hxs;replace H:Hp _ _ _ (.box _ [_,_,_,_,_,_,_,_,_,_,_,_,_,_,_,_,_,_,_,_,_,_,_] _::_::_::_::_::(y1a TS++M2)):=H
            try dsimp only at H
            go_upto_region 35 with (first
             |((with_reducible show wpList _ _ _ (_::_) _ _);refine y0c (by rfl) 43 (.tmp 125) (by rfl) (ad.add (k*17)) (by simp [Act.eval,Act.put]) _ _ (At.sat hatK H.sat) Tryz.underlying43 rfl hsz ?_)
             |((with_reducible refine isL ?_);first
              |(refine al z43 21 H ?_;clear H;intro w28 g21 H)
              |(refine sA 21 0 H ?_;clear H;intro w30 H)))
            clear hatK
            go_wp2_with (first
             |(go_at_call 58;refine (z9r [.box g21 [.int .i64 x.kind,.bool x.ext,.bool x.note.has,.bool x.note.block,.string (str x.note.text),.string (str x.name),.slice A6 x.ifaces.length c6,.slice A7 x.dirs.length c7,.slice A8 x.fields.length c8,.slice A9 x.inputs.length c9,.slice A10 x.members.length c10,.slice A11 x.values.length c11,.slice A12 x.roots.length c12,.bool x.rep,.slice A14 x.places.length c14,.int .i64 x.line,.int .i64 x.col] 43] x _ g33 b28 b29 b30 b31 (y2z defs) p1 hts hok hxD H hxd hxm (by omega)).mono ?_;clear H;rintro e w9 ⟨K9,TS9,VT9,VD9,xD9,rfl,hle9,hts9,hok9,hxD9,H⟩)
             |((with_reducible refine isL ?_);first
              |(refine ld 21 0 17 Tryz.underlying43 H ?_)))
            replace H:=Hp.tail H;go_roundw
            case rel=>exact ⟨k+1,K9,by omega,by go_num,hle9.trans hK,hB.sat hle9,by rw [HE.out];exact Bst.of [] hts9 hok9 hxD9 H⟩
            case measure=>simp [intOf];omega
          ·have hk4:k=4:=by omega
           have hkJ: ¬(k:Int)<4:=by omega
           rw [hk4] at hS;clear hk4 hlt;have htk:givenDirsD.take 4=givenDirsD:=Qaj (by rw [hrl.out];exact Qab _);rw [htk] at hS;clear htk;have hds:givenDirsD.foldl addD (bare defs).2=y2r defs:=rfl;rw [hds] at hS;clear hds
           go_wp2_with fail
           go_loopw [133] (fun i wr=>∃(k:Nat) (K7:World),k≤n∧i= .int .i64 k∧Sat K7 K∧BK K7 defs n (.slice A n c) (.slice Ag 13 cg) (.slice Ad 4 cd) b36 b37∧Bst g33 b28 b29 b30 b31 ((defs.take k).foldl ty.step2 (y2z defs)) (y2r defs) w0 wr K7 M2) (fun i _=>n - (intOf i).toNat)
           case atStart=>exact ⟨0,K7,Qak _,rfl,hK,hB,by rw [List.take_zero,List.foldl_nil];exact hS⟩
           case round=>
            clear hS hB hK;obtain ⟨k,K7,hk,rfl,hK,hB,hS⟩:=hrel;by_cases hlt:k<n
            ·have hkI:(k:Int)<(n:Int):=by omega
             obtain ⟨x,hx⟩: ∃x,defs[k]?=some x:=⟨_,Qad (by rw [HN.out];exact hlt)⟩;obtain ⟨ad,xs,had,hxd,hxl,hatK⟩:=y4s (m:=17) (f:=defL) y1b hB.d hx (by omega);subst had;obtain ⟨A6,c6,A7,c7,A8,c8,A9,c9,A10,c10,A11,c11,A12,c12,A14,c14,hxs,-,-,-,-,-,-,-,-⟩:=y0h hxd;have HST2:=hide (fun he=>q5d (l:=defs) (k:=k) (x:=x) hx he);have HE:=hide (y4r hx ty.step2 (y2z defs));clear hx;obtain ⟨p1,hp⟩: ∃p,(defs.take k).foldl ty.step2 (y2z defs)=p:=⟨_,rfl⟩;rw [hp] at HE hS HST2;clear hp;obtain ⟨TS,VT,VD,xD,hts,hok,hxD,H⟩:=Bst.to [] hS;clear hS;obtain ⟨kd,hkd⟩: ∃kd,x.kind=kd:=⟨_,rfl⟩;obtain ⟨ex,hex⟩: ∃ex,x.ext=ex:=⟨_,rfl⟩;rw [hkd,hex] at hxs;have HKD:=hide hkd;have HEX:=hide hex;clear hkd hex;subst hxs;have hq:=y2x p1 x.name;have hqg:=y2x givenT x.name
             cases hi:y1y p1 x.name with
             |none=>
              as_aux_lemma=>
               rw [hi] at hq;replace hq:y00 (nmap (y0a p1)) x.name=none:=hq;have HST:=hide (x65 hi);clear hi;replace H:Hp _ _ _ (.box _ [_,_,_,_,_,_,_,_,_,_,_,_,_,_,_,_,_,_,_,_,_,_,_] _::_::_::_::_::(y1a TS++M2)):=H
               try dsimp only at H
               go_upto_region 40 with (first
                |((with_reducible show wpList _ _ _ (_::_) _ _);refine y0c (by rfl) 43 (.tmp 135) (by rfl) (ad.add (k*17)) (by simp [Act.eval,Act.put]) _ _ (At.sat hatK H.sat) Tryz.underlying43 rfl hsz ?_)
                |((with_reducible refine isL ?_);first
                 |(refine al z43 23 H ?_;clear H;intro w32 g23 H)
                 |(refine sA 23 0 H ?_;clear H;intro w34 H)))
               clear hatK;have:=H.c 1 18;have:=H.c 0 5;have hrun:=fun k=>y04 (P:=Tryz.prog) (w:=(w34).drewN k) (t:=87) (kt:=9) (et:=3) (l:=nmap (y0a p1)) (b:=b28) Tryz.underlying87 (y1i Tryz.underlying9) (.int .i64 0) (y0p _) ((H.drew k).mapAt (i:=2) rfl) x.name true;simp only [hq,Option.getD_none,Option.isSome_none,Option.getD_some,Option.isSome_some,if_true] at hrun
               go_quiet (fail)
               replace H:=H.drew nq;obtain ⟨w35,hq36⟩: ∃x,(w34).drewN nq=x:=⟨_,rfl⟩;rw [hq36] at H ⊢;clear hq36;replace H:Hp _ _ _ (_::_::_::_::_::_::(y1a TS++M2)):=H;clear hrun
               go_upto_region 41 with (fail)
               go_quiet (fail)
               replace H:=H.drew nq;obtain ⟨w37,hq38⟩: ∃x,(w35).drewN nq=x:=⟨_,rfl⟩;rw [hq38] at H ⊢;clear hq38;replace H:Hp _ _ _ (_::_::_::_::_::_::(y1a TS++M2)):=H
               go_wp2_with fail
               replace H:=H.sub (Qai _ (Qaa _ (Qaa _ (Qaa _ (Qaa _ (Qaa _ (Qam _)))))));go_roundw
               case rel=>exact ⟨k+1,K7,by omega,by go_num,hK,hB,by rw [HE.out,HST.out];exact Bst.of [] hts hok hxD H⟩
               case measure=>simp [intOf];omega
             |some i=>
              rw [hi] at hq;replace hq:y00 (nmap (y0a p1)) x.name=some (.int .i64 (i:Int)):=hq;obtain ⟨e,he,-⟩:=y2o hi;have hil:=y8u hi
              have hiI:(i:Int)<(p1.length:Int):=by omega
              have HNO:=fun hc=>z7k (d:=x) hi he hc;have HYES:=fun hc=>q04 (d:=x) hi he hc;have HNO:=hide HNO;have HYES:=hide HYES;clear hi;obtain ⟨TA,V,TB,hTS,hTA⟩:=q5c (hts▸he);have HE2:=hide he;have HTA:=hide hTA;have HTS:=hide hts;clear he hts;subst hTS;obtain ⟨gr,cr,hVT,hc1,hc2,hvl⟩:=H.rowAt (i:=2) rfl (by omega);have hvl:=hide hvl;subst hVT;replace H:Hp _ _ _ (.box _ [_,_,_,_,_,_,_,_,_,_,_,_,_,_,_,_,_,_,_,_,_,_,_] _::_::_::_::_::(y1a (TA++(e,V)::TB)++M2)):=H
              try dsimp only at H
              go_upto_region 40 with (first
               |((with_reducible show wpList _ _ _ (_::_) _ _);refine y0c (by rfl) 43 (.tmp 135) (by rfl) (ad.add (k*17)) (by simp [Act.eval,Act.put]) _ _ (At.sat hatK H.sat) Tryz.underlying43 rfl hsz ?_)
               |((with_reducible refine isL ?_);first
                |(refine al z43 23 H ?_;clear H;intro w39 g23 H)
                |(refine sA 23 0 H ?_;clear H;intro w41 H)))
              clear hatK;have:=H.c 1 18;have:=H.c 0 5;have hrun:=fun k=>y04 (P:=Tryz.prog) (w:=(w41).drewN k) (t:=87) (kt:=9) (et:=3) (l:=nmap (y0a p1)) (b:=b28) Tryz.underlying87 (y1i Tryz.underlying9) (.int .i64 0) (y0p _) ((H.drew k).mapAt (i:=2) rfl) x.name true;simp only [hq,Option.getD_none,Option.isSome_none,Option.getD_some,Option.isSome_some,if_true] at hrun
              go_quiet (fail)
              replace H:=H.drew nq;obtain ⟨w42,hq43⟩: ∃x,(w41).drewN nq=x:=⟨_,rfl⟩;rw [hq43] at H ⊢;clear hq43;replace H:Hp _ _ _ (_::_::_::_::_::_::(y1a (TA++(e,V)::TB)++M2)):=H;clear hrun
              go_upto_region 41 with (fail)
              cases ex with
              |false=>
               as_aux_lemma=>
                have HST:=hide (HNO.out (fun h=>by rw [HEX.out] at h;exact Bool.false_ne_true h.1));have:=H.c 0 1
                go_quiet (fail)
                replace H:=H.drew nq;obtain ⟨w44,hq45⟩: ∃x,(w42).drewN nq=x:=⟨_,rfl⟩;rw [hq45] at H ⊢;clear hq45;replace H:Hp _ _ _ (_::_::_::_::_::_::(y1a (TA++(e,V)::TB)++M2)):=H
                go_wp2_with fail
                replace H:=H.sub (Qai _ (Qaa _ (Qaa _ (Qaa _ (Qaa _ (Qaa _ (Qam _)))))));go_roundw
                case rel=>exact ⟨k+1,K7,by omega,by go_num,hK,hB,by rw [HE.out,HST.out];exact Bst.of [] HTS.out hok hxD H⟩
                case measure=>simp [intOf];omega
              |true=>
               have hce:=(x4d H (i:=3) rfl HTA.out).1 _ rfl;rw [y3i] at hce;by_cases hkk:kd=e.kind
               ·rw [←hkk] at hce;by_cases h1:kd=1
                ·have HST:=hide (HNO.out (fun h=>h.2.2.1 (by rw [HKD.out];exact h1)))
                 as_aux_lemma=>
                  have hb1:(kd==1)=true:=by simp [h1]
                  have hb2:(kd !=1)=false:=by simp [h1]
                  clear h1 hkk;have:=H.c 0 1;have:=H.c 0 0;have:=H.c 1 17
                  go_quiet (fail)
                  replace H:=H.drew nq;obtain ⟨w46,hq47⟩: ∃x,(w42).drewN nq=x:=⟨_,rfl⟩;rw [hq47] at H ⊢;clear hq47;replace H:Hp _ _ _ (_::_::_::_::_::_::(y1a (TA++(e,V)::TB)++M2)):=H
                  go_wp2_with fail
                  replace H:=H.sub (Qai _ (Qaa _ (Qaa _ (Qaa _ (Qaa _ (Qaa _ (Qam _)))))));go_roundw
                  case rel=>exact ⟨k+1,K7,by omega,by go_num,hK,hB,by rw [HE.out,HST.out];exact Bst.of [] HTS.out hok hxD H⟩
                  case measure=>simp [intOf];omega
                ·have hb1:(kd==1)=false:=by simp [h1]
                 have hb2:(kd !=1)=true:=by simp [h1]
                 cases hj:y1y givenT x.name with
                 |some j=>
                  as_aux_lemma=>
                   rw [hj] at hqg;have HST:=hide (HNO.out (fun h=>h.2.2.2 (z4j hj)));clear h1 hkk hj;have:=H.c 0 1;have:=H.c 0 0;have:=H.c 1 17
                   go_quiet (fail)
                   replace H:=H.drew nq;obtain ⟨w48,hq49⟩: ∃x,(w42).drewN nq=x:=⟨_,rfl⟩;rw [hq49] at H ⊢;clear hq49;replace H:Hp _ _ _ (_::_::_::_::_::_::(y1a (TA++(e,V)::TB)++M2)):=H
                   go_upto_region 42 with (fail)
                   have:=H.c 0 5
                   go_wp2_with (first
                    |(refine y1p (by rfl) (.tmp 171) (.tmp 173) 87 true (by rfl) Tryz.underlying87 (y1i Tryz.underlying9) (.int .i64 0) y0p b36 (nmap (y0a givenT)) (H.kmap hB.o) (by first|rfl|simp [Act.eval,Act.put]) (x.name) (by first|rfl|simp [Act.eval,Act.put]) (.tuple #[.int .i64 (j:Int),.bool true]) (by rw [hqg];rfl) ?_))
                   replace H:=H.sub (Qai _ (Qaa _ (Qaa _ (Qaa _ (Qaa _ (Qaa _ (Qam _)))))));go_roundw
                   case rel=>exact ⟨k+1,K7,by omega,by go_num,hK,hB,by rw [HE.out,HST.out];exact Bst.of [] HTS.out hok hxD H⟩
                   case measure=>simp [intOf];omega
                 |none=>
                  rw [hj] at hqg;have HST:=hide (HYES.out ⟨HEX.out,by rw [HKD.out];exact hkk,by rw [HKD.out];exact h1,z1m hj⟩);have hmN:=HST2.out HEX.out;have hgN:=z4i.1;have heN:=y4b HE2.out
                  have hmN:defN e+defN x≤9000000:=by omega
                  clear h1 hkk hj hgN heN;have:=H.c 0 1;have:=H.c 0 0;have:=H.c 1 17
                  go_quiet (fail)
                  replace H:=H.drew nq;obtain ⟨w50,hq51⟩: ∃x,(w42).drewN nq=x:=⟨_,rfl⟩;rw [hq51] at H ⊢;clear hq51;replace H:Hp _ _ _ (_::_::_::_::_::_::(y1a (TA++(e,V)::TB)++M2)):=H
                  go_upto_region 42 with (fail)
                  have:=H.c 0 5
                  go_upto_region 44 with (first
                   |(refine y1p (by rfl) (.tmp 171) (.tmp 173) 87 true (by rfl) Tryz.underlying87 (y1i Tryz.underlying9) (.int .i64 0) y0p b36 (nmap (y0a givenT)) (H.kmap hB.o) (by first|rfl|simp [Act.eval,Act.put]) (x.name) (by first|rfl|simp [Act.eval,Act.put]) (.tuple #[.int .i64 0,.bool false]) (by rw [hqg];rfl) ?_))
                  refine held.begin_ (fun w'=>w'.cell? ⟨g33,17,none⟩=some (.slice (some ⟨gr,0,none⟩) p1.length cr)∧w'.cell? ⟨g23,0,none⟩=some (.int .i64 kd)∧w'.cell? ⟨g23,1,none⟩=some (.bool true)∧w'.cell? ⟨g23,2,none⟩=some (.bool x.note.has)∧w'.cell? ⟨g23,3,none⟩=some (.bool x.note.block)∧w'.cell? ⟨g23,4,none⟩=some (.string (str x.note.text))∧w'.cell? ⟨g23,5,none⟩=some (.string (str x.name))∧w'.cell? ⟨g23,6,none⟩=some (.slice A6 x.ifaces.length c6)∧w'.cell? ⟨g23,7,none⟩=some (.slice A7 x.dirs.length c7)∧w'.cell? ⟨g23,8,none⟩=some (.slice A8 x.fields.length c8)∧w'.cell? ⟨g23,9,none⟩=some (.slice A9 x.inputs.length c9)∧w'.cell? ⟨g23,10,none⟩=some (.slice A10 x.members.length c10)∧w'.cell? ⟨g23,11,none⟩=some (.slice A11 x.values.length c11)∧w'.cell? ⟨g23,12,none⟩=some (.slice A12 x.roots.length c12)∧w'.cell? ⟨g23,13,none⟩=some (.bool x.rep)∧w'.cell? ⟨g23,14,none⟩=some (.slice A14 x.places.length c14)∧w'.cell? ⟨g23,15,none⟩=some (.int .i64 x.line)∧w'.cell? ⟨g23,16,none⟩=some (.int .i64 x.col)∧w'.rangeAt gr (i*17) (DV.cells e V)) [15] (by kernel_rfl) ?_;replace H:=H.drew1;obtain ⟨w52,hq53⟩: ∃x,(w50).drew=x:=⟨_,rfl⟩;rw [hq53] at H ⊢;clear hq53;have hS54:w52.cell? ⟨g33,17,none⟩=some (.slice (some ⟨gr,0,none⟩) p1.length cr)∧w52.cell? ⟨g23,0,none⟩=some (.int .i64 kd)∧w52.cell? ⟨g23,1,none⟩=some (.bool true)∧w52.cell? ⟨g23,2,none⟩=some (.bool x.note.has)∧w52.cell? ⟨g23,3,none⟩=some (.bool x.note.block)∧w52.cell? ⟨g23,4,none⟩=some (.string (str x.note.text))∧w52.cell? ⟨g23,5,none⟩=some (.string (str x.name))∧w52.cell? ⟨g23,6,none⟩=some (.slice A6 x.ifaces.length c6)∧w52.cell? ⟨g23,7,none⟩=some (.slice A7 x.dirs.length c7)∧w52.cell? ⟨g23,8,none⟩=some (.slice A8 x.fields.length c8)∧w52.cell? ⟨g23,9,none⟩=some (.slice A9 x.inputs.length c9)∧w52.cell? ⟨g23,10,none⟩=some (.slice A10 x.members.length c10)∧w52.cell? ⟨g23,11,none⟩=some (.slice A11 x.values.length c11)∧w52.cell? ⟨g23,12,none⟩=some (.slice A12 x.roots.length c12)∧w52.cell? ⟨g23,13,none⟩=some (.bool x.rep)∧w52.cell? ⟨g23,14,none⟩=some (.slice A14 x.places.length c14)∧w52.cell? ⟨g23,15,none⟩=some (.int .i64 x.line)∧w52.cell? ⟨g23,16,none⟩=some (.int .i64 x.col)∧w52.rangeAt gr (i*17) (DV.cells e V):=⟨H.cell (i:=1) rfl rfl,H.cell (i:=0) rfl rfl,H.cell (i:=0) rfl rfl,H.cell (i:=0) rfl rfl,H.cell (i:=0) rfl rfl,H.cell (i:=0) rfl rfl,H.cell (i:=0) rfl rfl,H.cell (i:=0) rfl rfl,H.cell (i:=0) rfl rfl,H.cell (i:=0) rfl rfl,H.cell (i:=0) rfl rfl,H.cell (i:=0) rfl rfl,H.cell (i:=0) rfl rfl,H.cell (i:=0) rfl rfl,H.cell (i:=0) rfl rfl,H.cell (i:=0) rfl rfl,H.cell (i:=0) rfl rfl,H.cell (i:=0) rfl rfl,z9s H (i:=3) rfl HTA.out⟩;refine tk 0 hS54 ?_;refine tk 1 hS54 ?_;refine tk 2 hS54 ?_;refine tk 3 hS54 ?_;refine tk 4 hS54 ?_;refine tk 5 hS54 ?_;refine tk 6 hS54 ?_;refine tk 7 hS54 ?_;refine tk 8 hS54 ?_;refine tk 9 hS54 ?_;refine tk 10 hS54 ?_;refine held.take (i:=11) (v:=_) rfl (by kernel_rfl) (by kernel_rfl) (by kernel_rfl) (by kernel_rfl) (by kernel_rfl) (fun _ _ _ h=>h) (yieldsIf_load_mid (by rfl) 43 (.tmp 189) (by rfl) gr (i*17) (by first|rfl|simp [Act.eval,Act.put]) (DV.cells e V) _ (fun w h=>h.2.2.2.2.2.2.2.2.2.2.2.2.2.2.2.2.2.2) Tryz.underlying43 rfl hsz) hS54 ?_
                  try simp only [Act.put,List.getElem_toArray,List.getElem_cons_zero,List.getElem_cons_succ,List.setIfInBounds_toArray,List.set_cons_zero,List.set_cons_succ]
                  refine tk 12 hS54 ?_;refine held.step (i:=13) (by kernel_rfl) rfl (fun Kq hKq=>?_)
                  go_simp
                  refine (q0x [.box g23 [.int .i64 kd,.bool true,.bool x.note.has,.bool x.note.block,.string (str x.note.text),.string (str x.name),.slice A6 x.ifaces.length c6,.slice A7 x.dirs.length c7,.slice A8 x.fields.length c8,.slice A9 x.inputs.length c9,.slice A10 x.members.length c10,.slice A11 x.values.length c11,.slice A12 x.roots.length c12,.bool x.rep,.slice A14 x.places.length c14,.int .i64 x.line,.int .i64 x.col] 43,.box g33 [.int .i64 0,.bool false,.bool false,.bool false,.string ⟨#[]⟩,.string ⟨#[]⟩,.slice none 0 0,.slice none 0 0,.slice none 0 0,.slice none 0 0,.slice none 0 0,.slice none 0 0,.slice none 0 0,.bool false,.slice none 0 0,.int .i64 0,.int .i64 0,.slice (some ⟨gr,0,none⟩) p1.length cr,.map (some b28),VD,.map (some b29),.map (some b30),.map (some b31)] 91,.map b28 (y0y (nmap (y0a p1))),.row 43 17 (.slice (some ⟨gr,0,none⟩) p1.length cr) (p1.length) ((y02 (TA++(e,V)::TB))),.map b29 (y0y (nmap (y0a (y2r defs)))),.row 43 17 (VD) ((y2r defs).length) (xD)] e x V TA TB _ H hok hmN hxd).mono ?_;clear H;rintro e1 w9 ⟨K9,V9,rfl,hle9,H,hok9,hone9⟩;replace hK:=hle9.trans hK;replace H:Hp _ _ _ (_::_::_::_::_::_::(y1a (TA++(y1h e x,V9)::TB)++M2)):=H
                  try go_simp
                  have hS55:w9.cell? ⟨g33,17,none⟩=some (.slice (some ⟨gr,0,none⟩) p1.length cr)∧w9.cell? ⟨g23,0,none⟩=some (.int .i64 kd)∧w9.cell? ⟨g23,1,none⟩=some (.bool true)∧w9.cell? ⟨g23,2,none⟩=some (.bool x.note.has)∧w9.cell? ⟨g23,3,none⟩=some (.bool x.note.block)∧w9.cell? ⟨g23,4,none⟩=some (.string (str x.note.text))∧w9.cell? ⟨g23,5,none⟩=some (.string (str x.name))∧w9.cell? ⟨g23,6,none⟩=some (.slice A6 x.ifaces.length c6)∧w9.cell? ⟨g23,7,none⟩=some (.slice A7 x.dirs.length c7)∧w9.cell? ⟨g23,8,none⟩=some (.slice A8 x.fields.length c8)∧w9.cell? ⟨g23,9,none⟩=some (.slice A9 x.inputs.length c9)∧w9.cell? ⟨g23,10,none⟩=some (.slice A10 x.members.length c10)∧w9.cell? ⟨g23,11,none⟩=some (.slice A11 x.values.length c11)∧w9.cell? ⟨g23,12,none⟩=some (.slice A12 x.roots.length c12)∧w9.cell? ⟨g23,13,none⟩=some (.bool x.rep)∧w9.cell? ⟨g23,14,none⟩=some (.slice A14 x.places.length c14)∧w9.cell? ⟨g23,15,none⟩=some (.int .i64 x.line)∧w9.cell? ⟨g23,16,none⟩=some (.int .i64 x.col)∧w9.rangeAt gr (i*17) (DV.cells e V):=⟨H.cell (i:=1) rfl rfl,H.cell (i:=0) rfl rfl,H.cell (i:=0) rfl rfl,H.cell (i:=0) rfl rfl,H.cell (i:=0) rfl rfl,H.cell (i:=0) rfl rfl,H.cell (i:=0) rfl rfl,H.cell (i:=0) rfl rfl,H.cell (i:=0) rfl rfl,H.cell (i:=0) rfl rfl,H.cell (i:=0) rfl rfl,H.cell (i:=0) rfl rfl,H.cell (i:=0) rfl rfl,H.cell (i:=0) rfl rfl,H.cell (i:=0) rfl rfl,H.cell (i:=0) rfl rfl,H.cell (i:=0) rfl rfl,H.cell (i:=0) rfl rfl,z9s H (i:=3) rfl HTA.out⟩;refine hKq.out _ _ (fun _=>hS55) (fun _=>?_);clear hKq Kq;refine tk 14 hS55 ?_;refine held.step (i:=15) (by kernel_rfl) rfl (fun Kq hKq=>?_);refine z1j (by rfl) 43 (.tmp 193) (.tmp 192) (by rfl) gr (i*17) (by first|rfl|simp [Act.eval,Act.put]) (.agg (DV.cells (y1h e x) V9).toArray) (by first|rfl|simp [Act.eval,Act.put]) (DV.cells (y1h e x) V9) (by rfl) (hone9) (hsz) H 3 43 17 (p1.length) cr ((y02 (TA++(e,V)::TB))) (y02 (TA++(y1h e x,V9)::TB)) (by rfl) (by rw [hvl.out];show i*17+17≤p1.length*17;omega) (q8o HTA.out) ?_;clear H;intro w56 H;refine hKq.out _ _ (fun h=>absurd (Qax.2 rfl) h) (fun _=>?_);clear hKq Kq;refine held.done (by kernel_rfl) ?_ _;simp only [Act.put,List.getElem_toArray,List.getElem_cons_zero,List.getElem_cons_succ,List.setIfInBounds_toArray,List.set_cons_zero,List.set_cons_succ];replace H:Hp _ _ _ (_::_::_::_::_::_::(y1a (TA++(y1h e x,V9)::TB)++M2)):=H
                  go_upto_region 45 with (fail)
                  replace H:=H.sub (Qai _ (Qaa _ (Qaa _ (Qaa _ (Qaa _ (Qaa _ (Qam _)))))))
                  have HTS9:p1.set i (y1h e x)=(TA++(y1h e x,V9)::TB).map (·.1):=by rw [HTS.out];exact ts_set HTA.out
                  have H9:Hp w0 w56 K9 ([]++(z1p g33 b28 b29 b30 b31 (p1.set i (y1h e x)) (y2r defs) (.slice (some ⟨gr,0,none⟩) p1.length cr) VD (TA++(y1h e x,V9)::TB) xD++(y1a (TA++(y1h e x,V9)::TB)++M2))):=by
                   unfold z1p;rw [List.length_set,z56 (e':=y1h e x) HE2.out rfl];exact H
                  go_wp2_with fail
                  go_roundw
                  case rel=>exact ⟨k+1,K9,by omega,by go_num,hK,hB.sat hle9,by rw [HE.out,HST.out];exact Bst.of [] HTS9 hok9 (hxD.sat hle9) H9⟩
                  case measure=>simp [intOf];omega
               ·have hkb:(kd==e.kind)=false:=by simp [hkk]
                as_aux_lemma=>
                 have HST:=hide (HNO.out (fun h=>hkk (by rw [←HKD.out];exact h.2.1)));clear hkk;have:=H.c 0 1;have:=H.c 0 0;have:=H.c 1 17
                 go_quiet (fail)
                 replace H:=H.drew nq;obtain ⟨w57,hq58⟩: ∃x,(w42).drewN nq=x:=⟨_,rfl⟩;rw [hq58] at H ⊢;clear hq58;replace H:Hp _ _ _ (_::_::_::_::_::_::(y1a (TA++(e,V)::TB)++M2)):=H
                 go_wp2_with fail
                 replace H:=H.sub (Qai _ (Qaa _ (Qaa _ (Qaa _ (Qaa _ (Qaa _ (Qam _)))))));go_roundw
                 case rel=>exact ⟨k+1,K7,by omega,by go_num,hK,hB,by rw [HE.out,HST.out];exact Bst.of [] HTS.out hok hxD H⟩
                 case measure=>simp [intOf];omega
            ·obtain rfl:n=k:=by omega
             have htk:defs.take n=defs:=by rw [←HN.out];exact List.take_length
             rw [htk] at hS;clear htk;have hto:defs.foldl ty.step2 (y2z defs)=y0q defs:=rfl;rw [hto] at hS;clear hto;obtain ⟨TS,VT,VD,xD,hts,hok,hxD,H⟩:=Bst.to [] hS;clear hS;obtain ⟨nt,hnt⟩: ∃x,(y0q defs).length=x:=⟨_,rfl⟩;have HNT:=hide hnt;have htN:=q8k defs;have hgN:=z4i.1;have hntl:=q05 (y0q defs);have H2:=Hp.rot (z1p g33 b28 b29 b30 b31 (y0q defs) (y2r defs) VT VD TS xD) (y1a TS) (M:=M2) H;clear H;obtain ⟨K1,s1,H,hT⟩:=Hp.freezeDefs H2 hok;rw [←hts] at hT;replace hxD:=hxD.sat s1;have H3:=Hp.rotAt [] [tbox g33 b28 b29 b30 b31 VT VD] [.map b28 (y0y (nmap (y0a (y0q defs)))),.row 43 17 VT (y0q defs).length (y02 TS),.map b29 (y0y (nmap (y0a (y2r defs)))),.row 43 17 VD (y2r defs).length xD] (M:=M2) H;clear H H2;obtain ⟨K2,s2,H,hA⟩:=Hp.freezeKm H3;obtain ⟨K3,s3,H,hTy⟩:=Hp.freezeRow H (hT.sat s2);obtain ⟨K4,s4,H,hDA⟩:=Hp.freezeKm H;obtain ⟨K5,s5,H,hDi⟩:=Hp.freezeRow H (((hxD.sat s2).sat s3).sat s4);clear H3 hT hxD hok hts;replace hK:=s5.trans (s4.trans (s3.trans (s2.trans (s1.trans hK))));replace hA:=((hA.sat s3).sat s4).sat s5;replace hTy:=(hTy.sat s4).sat s5;replace hDA:=hDA.sat s5;replace hB:=((((hB.sat s1).sat s2).sat s3).sat s4).sat s5;clear s1 s2 s3 s4 s5;obtain ⟨Aty,ct,hVT,-,-⟩:=y4e hTy;subst hVT;rw [hnt] at H hTy;clear hnt;replace H:Hp _ _ _ (.box _ [_,_,_,_,_,_,_,_,_,_,_,_,_,_,_,_,_,_,_,_,_,_,_] _::M2):=H
             try dsimp only at H
             go_upto_region 46 with (fail)
             go_upto_region 47 with (first
              |(go_at_call 61;refine (sch_hp defs (y0q defs) n c nt ct A Aty g33 b28 b29 b30 b31 VD _ _ _ M2 H HN.out hB.d hm HNT.out hTy hA).mono ?_;clear H;rintro e1 w9 ⟨K9,cs9,rfl,hle9,H,hsch⟩;replace hA:=hA.sat hle9;replace hTy:=hTy.sat hle9;replace hDA:=hDA.sat hle9;replace hB:=hB.sat hle9;replace hDi:=hDi.sat hle9;replace hK:=hle9.trans hK;obtain ⟨s,hs⟩: ∃s,y1w defs (y0q defs)=s:=⟨_,rfl⟩;rw [hs] at hsch;obtain ⟨A6,c6,A7,c7,A8,c8,A9,c9,A10,c10,A11,c11,A12,c12,A14,c14,hcs,-,-,-,-,-,-,-,-⟩:=y0h hsch;obtain rfl:=Qal.1 (hcs.trans (List.toList_toArray ..).symm))
              |((with_reducible refine isL ?_);first
               |(refine sA 200 0 H ?_;clear H;intro w60 H)))
             obtain ⟨K10,s10,H,hbox⟩:=H.freezeKb;have T:TyA K10 g33 b28 b29 b30 b31 _ (.slice Aty nt ct) VD s (y0q defs) (y2r defs):=⟨hbox,hsch.sat s10,by rw [HNT.out];exact hTy.sat s10,hDi.sat s10,hA.sat s10,hDA.sat s10⟩;replace hK:=s10.trans hK;clear hbox hsch hTy hDi hA hDA hB s10;subst hM2
             go_wp2_with (first
              |(go_at_call 62;refine (q48 g33 b28 b29 b30 b31 _ _ VD s (y0q defs) (y2r defs) nt _ _ _ M H T HNT.out (by omega)).mono ?_;clear H;rintro e1 w11 ⟨rfl,OB,hOB,H⟩))
             obtain ⟨K11,s11,H,hf⟩:=H.freezeKm;obtain ⟨K12,s12,H,ho⟩:=H.freezeKm;obtain ⟨K13,s13,H,hsets⟩:=Hp.freezeMaps H;go_ret;have HF:=H;subst hs;exact ⟨K13,g33,rfl,s13.trans (s12.trans (s11.trans hK)),HF,b28,b29,b30,b31,_,_,VD,OB,⟨((T.sat s11).sat s12).sat s13,(hf.sat s12).sat s13,ho.sat s13,hOB,hsets⟩⟩
end Go.Proofs.YtbpgkkoeehopjaaGreat.hp
