/- Part 15 of 17 of a proof: see the last part. -/
import Derived.Test.YtbpgkkoeehopjaaGreatP7
import Derived.Test.YtbpgkkoeehopjaaGreatP11
import Derived.Test.YtbpgkkoeehopjaaGreatP12
import Derived.Test.YtbpgkkoeehopjaaGreatP14
import Derived.Deep.QuietTactic
import Derived.BigQuiet
set_option linter.unusedVariables false
set_option linter.unusedSimpArgs false
namespace Go.Proofs.YtbpgkkoeehopjaaGreat.hp
open Go.RowKit words enc tree gram lex rd dec dat held ty
set_option maxRecDepth 100000
attribute [local go_sem ↓] Go.wp_at_zero Go.wp_at_succ
theorem z7t {K:World}: ∀l:List Txt,RL K (y03 l) (l.map ks)
 |[]=>RL.z
 |x::r=>.lit (z7t r)
def y8z (S:List (Txt×Value)) (k:Nat):Txt:=((S[k]?).map (·.1)).getD []
theorem x6p (S:List (Txt×Value)):(List.range S.length).map (y8z S)=S.map (·.1):=by
 apply Qbz;intro j;rw [Qb0,Qb0];rcases Qbm j S.length with h|h
 ·rw [List.getElem?_range h,Qad h];simp [y8z,Qad h]
 ·rw [Qbg (by simpa using h),Qbg h];rfl
theorem q0s {n:Nat} {s:Array Nat} (h:SeenOk n s) (hall: ∀k,k<n→k∈s):s.toList.Perm (List.range n):=
 (List.perm_ext_iff_of_nodup h.1 List.nodup_range).2 fun k=>by
   rw [List.mem_range];exact ⟨fun hk=>h.2 k hk,fun hk=>by simpa using hall k hk⟩
def numV (q:Txt×Value):Nat:=match q.2 with| .int _ n=>n.toNat|_=>0
theorem q6u {f:Nat→Option Txt} {s:List (Txt×Value)} {B:Nat} (h:SOk f s) (hB: ∀n x,f n=some x→n<B):s.length≤B:=by
 have hk:List.Pairwise (fun q q':Txt×Value=>q.1≠q'.1) s:=by
  have:=h.1;unfold List.Nodup at this;rw [List.pairwise_map] at this;exact this
 have hn:(s.map numV).Nodup:=by
  unfold List.Nodup;rw [List.pairwise_map];refine List.Pairwise.imp_of_mem (fun {q q'} hq hq' hne he=>?_) hk;obtain ⟨n,h1,h2⟩:=h.2 q hq;obtain ⟨n',h1',h2'⟩:=h.2 q' hq';simp only [numV,h1,h1',Int.toNat_natCast] at he;subst he;rw [h2] at h2';injection h2' with h2';exact hne h2'
 have:=z7s B (s.map numV) hn (fun x hx=>by
  obtain ⟨q,hq,rfl⟩:=Qbe.1 hx;obtain ⟨n,h1,h2⟩:=h.2 q hq;simp only [numV,h1,Int.toNat_natCast]
  exact hB n _ h2)
 simpa using this
theorem x6q {n:Nat} (h:n=0) (v:Value) (c:Nat) (p:Option Addr) (w:World):Calls Tryz.prog 67 #[.slice p n c,v] w fun e w'=>e= .returned (.tuple #[])∧w'=w:=by
 subst h;exact z92 v c p w
theorem q6v (f:Txt→Int) (mv:Value) (gb:Nat) (W:World) (hc:W.cell? ⟨gb,0,none⟩=some mv) (hl: ∀x,(Instr.lookup 87 mv (.string (str x)) false).run Tryz.prog W= .ok (.int .i64 (f x)) W) (hf: ∀x,0≤f x∧f x≤20000000) (x y:Txt):
  Calls Tryz.prog 68 #[ks x,ks y,.pointer (some ⟨gb,0,none⟩)] W fun e w'=>e= .returned (.int .i64 (f x - f y))∧w'=W:=by
 have hx:=hl x;have hy:=hl y;have bx:=hf x;have hby:=hf y
 have hw:IntKind.i64.wrap (f x - f y)=f x - f y:=by simp [IntKind.wrap,IntKind.bits,IntKind.signed];omega
 go_enter Tryz.func68,Tryz.ntmps68
 go_wp2_with (first
  |((with_reducible show wpList _ _ _ (_::_) _ _);refine z1r (by rfl) (.tmp 6) (.tmp 7) 87 false (by rfl) (by first|rfl|simp [Act.eval,Act.put]) (by first|rfl|simp [Act.eval,Act.put]) hx ?_)
  |((with_reducible show wpList _ _ _ (_::_) _ _);refine z1r (by rfl) (.tmp 9) (.tmp 10) 87 false (by rfl) (by first|rfl|simp [Act.eval,Act.put]) (by first|rfl|simp [Act.eval,Act.put]) hy ?_))
 go_ret;exact ⟨by first|rfl|(rw [hw];rfl)|simp [hw],rfl⟩
def PosP (D:TysD) (x:Txt) (w0 K:World) (M:List Ent) (e:Ending) (w':World):Prop:=
 ∃K' l v,e= .returned v∧Sat K' K∧Hp w0 w' K' M∧RD K' (.list l.length (y03 l)) v∧l.Perm ((y62 D.objects x).map (·.1))∧l.Pairwise (fun a b=>z7o (y62 D.objects x) a≤z7o (y62 D.objects x) b)
set_option maxHeartbeats 16000000 in
theorem x6r (v:Value) (x:Txt) (D:TysD) (w0 w K:World) (M:List Ent) (H:Hp w0 w K M) (hv:Tp K v D) (hW:TyW D):
  Calls Tryz.prog 27 #[v,.string (str x)] w (PosP D x w0 K M):=by
 have hK:=Sat.refl K;obtain ⟨k0,hk0,k0z,k0s,k0b⟩:=info_parts x06;have hSO:=q3o hW.o x
 have hfb: ∀y,0≤z7o (y62 D.objects x) y∧z7o (y62 D.objects x) y≤20000000:=by
  intro y;have hN:=hW.nT;unfold z7o;rcases x3t hSO y with ⟨h,_⟩|⟨n,h,hn,_⟩
  ·rw [h];exact ⟨by simp,by simp⟩
  ·rw [h];have:=q0c hn;exact ⟨by simp,by simp only;omega⟩
 have hnv:=q0a hSO;have hSL:(y62 D.objects x).length≤3002000:=q6u hSO (fun n y hy=>Qap (q0c hy) hW.nT);obtain ⟨S,hS0⟩: ∃S,y62 D.objects x=S:=⟨_,rfl⟩;have HS:=hide hS0;rw [hS0] at hfb hnv hSL;clear hSO;go_enter Tryz.func27,Tryz.ntmps27
 go_upto_region 1 with (fail)
 have h1:=fun OB go w ho=>y0p (P:=Tryz.prog) (w:=w) (t:=89) (kt:=9) (et:=87) (l:=y15 OB) (b:=go) Tryz.underlying89 (y08 Tryz.underlying9) (.map none) (z0w w) ho x false
 have hmv: ∀(K5:World) (ga gd gf go:Nat) (sch:List Value) (VT VD:Value) (OB:List (Txt×Nat×List (Txt×Value))) (g9:Nat),Tys K5 g9 D ga gd gf go sch VT VD OB→ ∃mv,(∀w,Km w go (y00 ks (y15 OB))→(Instr.lookup 89 (.map (some go)) (.string (str x)) false).run Tryz.prog w= .ok mv w)∧((mv= .map none∧S=[])∨ ∃b,mv= .map (some b)∧Km K5 b (y00 ks S)):=by
  intro K5 ga gd gf go sch VT VD OB g9 T;rcases oset x OB with ⟨hf,hS⟩|⟨p,hp,hf,hS⟩
  ·exact ⟨.map none,fun w ho=>by rw [h1 OB go w ho,hf];rfl,.inl ⟨rfl,by rw [←HS.out,T.om,hS]⟩⟩
  ·exact ⟨.map (some p.2.1),fun w ho=>by rw [h1 OB go w ho,hf];rfl,.inr ⟨_,rfl,by rw [←HS.out,T.om,hS];exact T.sets p hp⟩⟩
 clear h1
 go_upto_region 3 with (first
  |(go_at_call 64;refine (y9z _ D _ _ K _ H hv).mono ?_;clear H;rintro e w5 ⟨K5,g9,rfl,hle,H,hT5⟩;replace hK:=hle.trans hK;obtain ⟨ga,gd,gf,go,sch,VT,VD,OB,T⟩:=hT5;have h22:=H.kcell T.a.box T.a.c22)
  |((with_reducible show wpList _ _ _ (_::_) _ _);obtain ⟨mv,hlk,hmk⟩:=hmv _ _ _ _ _ _ _ _ _ _ T;refine z1r (by rfl) (.tmp 12) (.tmp 13) 89 false (by rfl) (by first|rfl|simp [Act.eval,Act.put]) (by first|rfl|simp [Act.eval,Act.put]) (hlk _ (H.kmap T.objects)) ?_)
  |((with_reducible show wpList _ _ _ (_::_) _ _);refine x22 (by rfl) 87 (by rfl) [.map none] (by kernel_rfl) (some 5) (by rfl) H ?_;clear H;intro w6 g5 H hg5;clear hg5)
  |((with_reducible show wpList _ _ _ (_::_) _ _);refine z65 (by rfl) 87 (.tmp 5) (.tmp 14) (by rfl) g5 0 (by first|rfl|simp [Act.eval,Act.put]) mv (by first|rfl|simp [Act.eval,Act.put]) [mv] (by rcases hmk with ⟨rfl,_⟩|⟨b,rfl,_⟩<;>rfl) (by rcases hmk with ⟨rfl,_⟩|⟨b,rfl,_⟩<;>simp [Value.oneCell']) (by kernel_rfl) H 0 [.map none] [mv] 87 (by rfl) (Qbn (by rfl)) (by rfl) ?_;clear H;intro w7 H;replace H:Hp w0 w7 K5 (.box g5 [mv] 87::M):=H;have hc5:(w7).cell? ⟨g5,0,none⟩=some mv:=H.cell (i:=0) rfl rfl))
 rcases hmk with ⟨rfl,hSn⟩|⟨b,rfl,hSk⟩
 ·go_wp2_with (first
   |((with_reducible show wpList _ _ _ (_::_) _ _);refine z9y (by rfl) 87 (.tmp 15) (by rfl) Tryz.underlying87 (by first|rfl|simp [Act.eval,Act.put]) (some 16) (by rfl) H ?_;clear H;intro w8 r H))
  try simp only [Act.put,List.getElem_toArray,List.getElem_cons_zero,List.getElem_cons_succ,List.setIfInBounds_toArray,List.set_cons_zero,List.set_cons_succ]
  go_loopw [6,17] (fun o _ wr=>o= .slice none 0 0∧Hp w0 wr K5 (q6p r:: .box g5 [.map none] 87::M)) (fun _ _ _=>0)
  case atStart=>exact ⟨rfl,H⟩
  case round=>
   clear H;obtain ⟨rfl,H⟩:=hrel
   go_upto_region 7 with (first
    |((with_reducible show wpList _ _ _ (_::_) _ _);refine x19 (by rfl) (.tmp 16) (by rfl) (by first|rfl|simp [Act.eval,Act.put]) H 0 (by rfl) ?_))
   have hsn:=z92 (.func (.func 68) #[] #[.pointer (some ⟨g5,0,none⟩)]) 0 none wr
   go_wp2_with (first
    |(go_at_call 67;refine hsn.mono ?_;clear hsn;rintro e w9 ⟨rfl,rfl⟩))
   replace H:=Hp.tail (Hp.tail H);go_ret;exact ⟨K5,[],_,rfl,hK,H,RD.z,by rw [HS.out,hSn];exact List.Perm.nil,List.Pairwise.nil⟩
 ·obtain ⟨n,hn⟩: ∃n,(y00 ks S).length=n:=⟨_,rfl⟩
  have hSl:S.length=n:=by rw [←hn];unfold y00;rw [Qay]
  go_wp2_with (first
   |((with_reducible show wpList _ _ _ (_::_) _ _);refine q31 (by rfl) 87 (.tmp 15) (by rfl) Tryz.underlying87 b (y00 ks S) (H.kmap hSk) (by first|rfl|simp [Act.eval,Act.put]) (some 16) (by rfl) H ?_;clear H;intro w8 r H))
  try simp only [Act.put,List.getElem_toArray,List.getElem_cons_zero,List.getElem_cons_succ,List.setIfInBounds_toArray,List.set_cons_zero,List.set_cons_succ]
  rw [hn] at H;have heg: ∀args w,(callFunc 68 args).run Tryz.prog w= .ok (.enter 68 args) w:=enters_of Tryz.func68 (by kernel_rfl) rfl
  go_loopw [6,17] (fun o _ wr=>∃s:Array Nat,SeenOk n s∧Hp w0 wr K5 (.row 9 1 o s.size ((s.toList.map (y8z S)).map ks)::iter r b n s:: .box g5 [.map (some b)] 87::M)) (fun _ _ wr=>n - q6r wr r)
  case atStart=>exact ⟨#[],⟨List.nodup_nil,fun _ h=>by cases h⟩,H.nilRow 9 1⟩
  case round=>
   clear H
   obtain ⟨s,hs,H,hrow⟩: ∃(s:Array Nat) (hs:SeenOk n s) (H:Hp w0 wr K5 (.row 9 1 _ s.size ((s.toList.map (y8z S)).map ks)::iter r b n s:: .box g5 [.map (some b)] 87::M)),True:=by
    obtain ⟨s,hs,H⟩:=hrel;exact ⟨s,hs,H,trivial⟩
   obtain ⟨Av,cv,hov,hcv1,hcv2⟩:=H.slice (i:=0) rfl;subst hov;have hsn:=z90 H.tail;have hsle:=hs.le
   have H0:Hp w0 wr K5 (.row 9 1 (.slice Av s.size cv) s.size ((s.toList.map (y8z S)).map ks)::iter r b (y00 ks S).length s:: .box g5 [.map (some b)] 87::M):=by rw [hn];exact H
   go_wp2_with (first
    |((with_reducible show wpList _ _ _ (_::_) _ _);refine q6q (by rfl) (.tmp 16) (by rfl) (by first|rfl|simp [Act.eval,Act.put]) H0 1 b (y00 ks S) s (by rfl) (H.kmap hSk) ?_ ?_))
   ·intro hall
    have hperm:(s.toList.map (y8z S)).Perm (S.map (·.1)):=by
     rw [←x6p,hSl];exact (q0s hs (fun k hk=>by simpa using hall k hk)).map (y8z S)
    have hLl:(s.toList.map (y8z S)).length=s.size:=by simp
    by_cases h0:s.size=0
    ·have hsn:=x6q h0 (.func (.func 68) #[] #[.pointer (some ⟨g5,0,none⟩)]) cv Av wr;have he:s.toList.map (y8z S)=[]:=Qa0 (by rw [hLl,h0]);have he:=hide he;clear h0 hall
     go_wp2_with (first
      |(go_at_call 67;refine hsn.mono ?_;clear hsn;rintro e w9 ⟨rfl,rfl⟩))
     obtain ⟨K6,hle6,H,hr⟩:=Hp.freezeRow H (z7t (s.toList.map (y8z S)));replace H:=Hp.tail (Hp.tail H);go_ret;exact ⟨K6,s.toList.map (y8z S),_,rfl,hle6.trans hK,H,by rw [hLl];exact hr,by rw [HS.out];exact hperm,by rw [he.out];exact List.Pairwise.nil⟩
    ·obtain ⟨blk,cb,hbv,-,-,-⟩:=H.rowAt (i:=0) rfl (by omega);injection hbv with e1 _ e3;subst e1 e3;have hg5:g5≠blk:=fun e=>(List.pairwise_cons.1 H.nd).1 _ (Qa2 _ (Qaz ..)) blk rfl (by rw [←e];rfl)
     have hbb:b≠blk:=fun e=>by
      have hF:=(H.fr _ (Qaz ..) blk rfl).2;have:=hF _ (e▸hSk);cases this
     have hltg:=H.lt (i:=2) rfl rfl;have hltb:=(Qan.1 (H.kmap hSk)).1;have hcb:=H.cell (i:=2) (j:=0) rfl rfl;have hsort:=q6t (cb:= #[.pointer (some ⟨g5,0,none⟩)]) (z7o S) H hLl (by omega) heg (fun W _ hW x y=>q6v (z7o S) (.map (some b)) g5 W ((World.cell?_of_block (hW g5 hltg hg5)).trans hcb) (fun z=>(y0p (w:=W) Tryz.underlying87 (y08 Tryz.underlying9) (.int .i64 0) (y0j W) ((hW b hltb hbb).trans (H.kmap hSk)) z false).trans (by rw [if_neg Bool.false_ne_true,hnv])) hfb x y);clear hbb hg5 hltg hltb hcb
     go_wp2_with (first
      |(go_at_call 67;refine hsort.mono ?_;clear hsort H H0;rintro e w9 ⟨rfl,L,hLp,hLs,H⟩))
     have hLL:L.length=s.size:=hLp.length_eq.trans hLl;obtain ⟨K6,hle6,H,hr⟩:=Hp.freezeRow H (z7t L);replace H:=Hp.tail (Hp.tail H);go_ret;exact ⟨K6,L,_,rfl,hle6.trans hK,H,by rw [hLL];exact hr,by rw [HS.out];exact hLp.trans hperm,by rw [HS.out];exact hLs⟩
   ·intro k x1 x2 w9 hkx hks H9;obtain ⟨q,hq,he⟩:=q33 hkx;injection he with e1 e2;subst e1 e2
    have hkn:k<n:=by rw [←hn];exact (Qac.1 hkx).1
    have hsp:=hs.push hkn hks;have hspl:=hsp.le
    have hkey:y8z S k=q.1:=by simp [y8z,hq]
    have H7:Hp w0 w9 K5 (.row 9 1 (.slice Av s.size cv) s.size ((s.toList.map (y8z S)).map ks)::iter r b (y00 ks S).length (s.push k):: .box g5 [.map (some b)] 87::M):=by rw [hn,List.map_map];exact H9
    clear H H0 H9;have H:=H7;rw [hn] at H
    go_wp2_with (first
     |(refine y2h (by rfl) 27 9 1 _ (by rfl) (some 23) (by rfl) Tryz.underlying27 [.string (str q.1)] (by kernel_rfl) H ?_;clear H;intro w1 g23 H)
     |(at_builtin;refine y5f (by rfl) _ _ 27 (by rfl) 9 k0 _ 1 16 Tryz.underlying27 hk0 k0z k0s k0b (by rfl) (by decide) H 1 (.slice Av s.size cv) (s.size) (((s.toList.map (y8z S)).map ks)) (by rfl) (by first|rfl|simp [Act.eval,Act.put]) (some ⟨g23,0,none⟩) 1 1 [.string (str q.1)] (by first|rfl|simp [Act.eval,Act.put]) (by rfl) (H.rd (i:=0) rfl) (by simp [Value.oneCell']) (by simp only [maxLen];omega) (by omega) ?_;clear H;intro V2 w2 H;replace H:Hp w0 w2 K5 (.box g23 [.string (str q.1)] 9:: .row 9 1 (V2) (s.size+1) (((s.toList.map (y8z S)).map ks)++[.string (str q.1)])::(iter r b n (s.push k):: .box g5 [.map (some b)] 87::M)):=H;obtain ⟨V2A,V2c,rfl,V2l,V2m⟩:=H.slice (i:=1) rfl)
     |((with_reducible show wpList _ _ _ (_::_) _ _);refine q32 (by rfl) (.tmp 16) (by rfl) (by first|rfl|simp [Act.eval,Act.put]) H7 1 b (y00 ks S) s k (ks q.1,q.2) (by rfl) (H7.kmap hSk) hkx ?_))
    replace H:=H.sub (Qai _ (Qaa _ (Qam _)));have hsn6:=z90 H.tail;go_roundw
    case rel=>
     refine ⟨s.push k,hsp,?_⟩;rw [Array.size_push,Array.toList_push,Qas,Qas];simp only [List.map_cons,List.map_nil,hkey];exact H
    case measure=>
     rw [hsn6,hsn];rw [Array.size_push] at hspl ⊢;omega
end Go.Proofs.YtbpgkkoeehopjaaGreat.hp
namespace Go.Proofs.YtbpgkkoeehopjaaGreat.hp
open Go.RowKit lex gram rd tree dat ty
theorem q0t (ts:List DefD) (x:Txt):y51 ts x=z2k ts x:=rfl
theorem q35 (ts:List DefD) (x:Txt):y0l ts x=((z2k ts x).map (·.kind)).getD 0:=rfl
theorem x32 {ts:List DefD} {x:Txt} {d:DefD} (h:z2k ts x=some d):d.name=x∧ ∃i,ts[i]?=some d∧y1k ts x=some i:=by
 unfold z2k at h
 cases hi:y1k ts x with
 |none=>rw [hi] at h;cases h
 |some i=>
  rw [hi] at h;obtain ⟨e,he,hn⟩:=y1p hi;have:ts[i]?=some d:=h;rw [this] at he;injection he with he;subst he;exact ⟨hn,i,this,rfl⟩
section
variable {ts : List DefD} (hn : (y0a ts).Nodup)
include hn
end
end Go.Proofs.YtbpgkkoeehopjaaGreat.hp
namespace Go.Proofs.YtbpgkkoeehopjaaGreat.ty
open Go.RowKit lex gram rd tree dat hp
def y4e (d acc x:DefD):DefD:=if x.ext=true∧x.kind=d.kind∧x.name=d.name then y0z acc x else acc
def x2a (defs:List DefD) (d:DefD):DefD:=defs.foldl (y4e d) d
def y2i (defs out:List DefD) (d:DefD):List DefD:=if IsTy d∧d.name∉y0a out∧d.name∉y0a givenT then out++[x2a defs d] else out
def y3y (defs:List DefD):List DefD:=defs.foldl (y2i defs) []
def y1t (out:List DefD) (d:DefD):List DefD:=if d.kind=8∧d.name∉y0a out∧d.name∉y0a givenDirsD then out++[d] else out
def y5v (defs:List DefD):List DefD:=defs.foldl y1t []
def y74 (s x:DefD):DefD:=if x.kind=1∧x.ext=true then y0z s x else s
def y5l (defs own:List DefD):DefD:=
 match defs.find? y1h with
 |none=>{y3k with roots:=y5j own}
 |some d=>defs.foldl y74 d
def q36 (defs:List DefD):Prop:=∀x∈defs,x.kind=1→x.ifaces=[]∧x.fields=[]∧x.inputs=[]∧x.members=[]∧x.values=[]
theorem x6s (defs:List DefD) (d:DefD):(x2a defs d).name=d.name:=
 y45 (Q:=fun e:DefD=>e.name=d.name) (fun b a h=>by unfold y4e;split<;>exact h) defs d rfl
theorem x2b (defs l:List DefD):y0a (l.map (x2a defs))=y0a l:=by
 simp only [y0a,List.map_map];exact List.map_congr_left fun d _=>x6s defs d
theorem z93 (p:List DefD×List DefD) (d:DefD):(step1 p d).1=if IsTy d∧d.name∉y0a p.1∧d.name∉y0a givenT then p.1++[d] else p.1:=by
 unfold step1 addD;by_cases h8:d.kind=8
 ·rw [if_pos h8];exact (if_neg (fun h=>by have:=h.1.2.1;omega)).symm
 ·rw [if_neg h8];by_cases ht:IsTy d
  ·rw [if_pos ht];dsimp only;by_cases h1:d.name∈y0a givenT
   ·rw [if_pos h1,if_neg (fun h=>h.2.2 h1)]
   ·rw [if_neg h1];by_cases h2:d.name∈y0a p.1
    ·rw [if_pos h2,if_neg (fun h=>h.2.1 h2)]
    ·rw [if_neg h2,if_pos ⟨ht,h2,h1⟩]
  ·rw [if_neg ht,if_neg (fun h=>ht h.1)]
theorem z94 (p:List DefD×List DefD) (d:DefD):(step1 p d).2=y1t p.2 d:=by
 unfold step1 addD y1t;by_cases h8:d.kind=8
 ·rw [if_pos h8];dsimp only;by_cases h1:d.name∈y0a givenDirsD
  ·rw [if_pos h1,if_neg (fun h=>h.2.2 h1)]
  ·rw [if_neg h1];by_cases h2:d.name∈y0a p.2
   ·rw [if_pos h2,if_neg (fun h=>h.2.1 h2)]
   ·rw [if_neg h2,if_pos ⟨h8,h2,h1⟩]
 ·rw [if_neg h8,if_neg (fun h:d.kind=8∧_=>h8 h.1)]
  split<;>rfl
theorem x33 (defs:List DefD): ∀(l:List DefD) (p:List DefD×List DefD),l.foldl (y2i defs) (p.1.map (x2a defs))=(l.foldl step1 p).1.map (x2a defs)
 |[],p=>rfl
 |d::r,p=>by
  rw [List.foldl_cons,List.foldl_cons,←x33 defs r (step1 p d),z93]
  congr 1
  unfold y2i;rw [x2b];split
  ·rw [Qas];rfl
  ·rfl
theorem z95: ∀(l:List DefD) (p:List DefD×List DefD),l.foldl y1t p.2=(l.foldl step1 p).2
 |[],p=>rfl
 |d::r,p=>by rw [List.foldl_cons,List.foldl_cons,←z95 r (step1 p d),z94]
theorem x2c: ∀(g l:List DefD),(y0a (l++g)).Nodup→g.foldl addD l=l++g
 |[],l,_=>by rw [List.append_nil];rfl
 |d::r,l,h=>by
  have hd:d.name∉y0a l:=by
   intro hm;simp only [y0a,Qas,List.map_cons] at h;rw [Qbr] at h;exact h.2.2 _ hm _ (Qaz ..) rfl
  rw [List.foldl_cons,addD,if_neg hd,x2c r (l++[d]) (by rw [Qat];exact h),Qat];rfl
theorem z7u (defs:List DefD):(∀d∈(bare defs).1,IsTy d∧d.name∉y0a givenT)∧ ∀d∈(bare defs).2,d.name∉y0a givenDirsD:=by
 refine y45 (Q:=fun p:List DefD×List DefD=>(∀d∈p.1,IsTy d∧d.name∉y0a givenT)∧ ∀d∈p.2,d.name∉y0a givenDirsD) ?_ defs ([],[]) ⟨fun _ h=>absurd h (List.not_mem_nil),fun _ h=>absurd h (List.not_mem_nil)⟩;intro p d h;rw [z93,z94];refine ⟨fun e he=>?_,fun e he=>?_⟩
 ·split at he
  ·rename_i hc;rcases Qbf.1 he with he|he
   ·exact h.1 e he
   ·obtain rfl:=Qax.1 he;exact ⟨hc.1,hc.2.2⟩
  ·exact h.1 e he
 ·unfold y1t at he;split at he
  ·rename_i hc;rcases Qbf.1 he with he|he
   ·exact h.2 e he
   ·obtain rfl:=Qax.1 he;exact hc.2.2
  ·exact h.2 e he
theorem z96 {a b:List DefD} (ha:(y0a a).Nodup) (hb:(y0a b).Nodup) (hf: ∀d∈a,d.name∉y0a b):(y0a (a++b)).Nodup:=by
 simp only [y0a,Qas];rw [Qbr];refine ⟨ha,hb,fun x hx y hy e=>?_⟩;obtain ⟨d,hd,rfl⟩:=Qbe.1 hx;exact hf d hd (e▸hy)
theorem z4r:(y0a givenT).Nodup∧(y0a givenDirsD).Nodup:=by decide+kernel
theorem x6t (defs:List DefD):y32 defs=(bare defs).1++givenT:=
 x2c _ _ (z96 (y8r defs).1 z4r.1 fun d hd=>((z7u defs).1 d hd).2)
theorem q37 (defs:List DefD):y33 defs=y5v defs++givenDirsD:=by
 unfold y33;rw [x2c _ _ (z96 (y8r defs).2 z4r.2 (z7u defs).2)];exact congrArg (· ++givenDirsD) (z95 defs ([],[])).symm
def ext2 (e d:DefD):DefD:=if d.ext=true∧d.kind=e.kind∧d.kind≠1∧d.name=e.name∧d.name∉y0a givenT then y0z e d else e
theorem q0u {l:List DefD} (hn:(y0a l).Nodup) (d:DefD):step2 l d=l.map fun e=>ext2 e d:=by
 have hself: ∀e:DefD,d.name≠e.name→ext2 e d=e:=fun e he=>if_neg fun h=>he h.2.2.2.1;unfold step2
 cases hq:y1k l d.name with
 |none=>
  have hq:=y6f hq;have:l.map (fun e=>ext2 e d)=l.map id:=List.map_congr_left fun e he=>hself e fun h=>hq (h▸List.mem_map_of_mem he);rw [this,List.map_id]
 |some i=>
  obtain ⟨e,hi,hne⟩:=y1p hq;simp only [hi];have hother: ∀j x,l[j]?=some x→j≠i→ext2 x d=x:=fun j x hx hj=>hself x fun h=>hj (q3q hn hx hi (by rw [hne,h]));split
  ·rename_i hc;apply Qbz;intro j;rw [Qb0,List.getElem?_set];by_cases hj:i=j
   ·subst hj;rw [if_pos rfl,if_pos (Qac.1 hi).1,hi,Option.map_some]
    congr 1
    unfold ext2;rw [if_pos ⟨hc.1,hc.2.1,hc.2.2.1,hne.symm,hc.2.2.2⟩]
   ·rw [if_neg hj]
    cases hx:l[j]? with
    |none=>rfl
    |some x=>rw [Option.map_some,hother j x hx (Ne.symm hj)]
  ·rename_i hc
   have:l.map (fun e=>ext2 e d)=l.map id:=List.map_congr_left fun x hx=>by
    obtain ⟨j,hj⟩:=Qbp.1 hx;by_cases hji:j=i
    ·subst hji
     rw [hi] at hj;injection hj with hj;subst hj
     exact if_neg fun h=>hc ⟨h.1,h.2.1,h.2.2.1,h.2.2.2.2⟩
    ·exact hother j x hj hji
   rw [this,List.map_id]
theorem z97: ∀(defs l:List DefD),(y0a l).Nodup→defs.foldl step2 l=l.map fun e=>defs.foldl ext2 e
 |[],l,_=>by simp
 |d::r,l,hn=>by
  rw [List.foldl_cons,z97 r _ (by rw [z4j];exact hn),q0u hn,List.map_map];rfl
theorem z6a {e:DefD} (he:IsTy e) (hg:e.name∉y0a givenT): ∀(l:List DefD) (acc:DefD),acc.name=e.name→acc.kind=e.kind→l.foldl ext2 acc=l.foldl (y4e e) acc
 |[],_,_,_=>rfl
 |d::r,acc,h1,h2=>by
  have hs:ext2 acc d=y4e e acc d:=by
   unfold ext2 y4e;rw [h1,h2];by_cases h:d.ext=true∧d.kind=e.kind∧d.name=e.name
   ·rw [if_pos h,if_pos ⟨h.1,h.2.1,by have:=he.1;omega,h.2.2,by rw [h.2.2];exact hg⟩]
   ·rw [if_neg h,if_neg fun h'=>h ⟨h'.1,h'.2.1,h'.2.2.2.1⟩]
  rw [List.foldl_cons,List.foldl_cons,hs];refine z6a he hg r _ ?_ ?_
  ·unfold y4e;split<;>exact h1
  ·unfold y4e;split<;>exact h2
theorem z6b {e:DefD} (hg:e.name∈y0a givenT): ∀l:List DefD,l.foldl ext2 e=e
 |[]=>rfl
 |d::r=>by
  rw [List.foldl_cons,show ext2 e d=e from if_neg fun h=>h.2.2.2.2 (by rw [h.2.2.2.1];exact hg),z6b hg r]
theorem z98 (defs:List DefD):y02 defs=y3y defs++givenT:=by
 unfold y02;rw [z97 _ _ (z2f defs),x6t,Qas]
 congr 1
 ·have hr:y3y defs=(bare defs).1.map (x2a defs):=x33 defs defs ([],[]);rw [hr]
  exact List.map_congr_left fun e he=>by
   have h:=(z7u defs).1 e he;exact z6a h.1 h.2 defs e rfl rfl
 ·have:givenT.map (fun e=>defs.foldl ext2 e)=givenT.map id:=List.map_congr_left fun e he=>z6b (List.mem_map_of_mem he) defs;rw [this,List.map_id]
theorem q6w {a b:List DefD} {x:Txt} (h:x∉y0a b):y1k (a++b) x=y1k a x:=by
 unfold y1k;rw [show y0a (a++b)=y0a a++y0a b from Qas,List.findIdx?_append]
 have:(y0a b).findIdx? (· ==x)=none:=by
  rw [List.findIdx?_eq_none_iff];intro y hy;exact Qa3.2 fun e=>h (e▸hy)
 rw [this]
 cases (y0a a).findIdx? (· ==x)<;>rfl
theorem q38 {a b:List DefD} {x:Txt} (h:x∉y0a b):y0l (a++b) x=y0l a x:=by
 unfold y0l;rw [q6w h]
 cases hq:y1k a x with
 |none=>rfl
 |some i=>
  obtain ⟨d,hd,_⟩:=y1p hq;simp only [Option.bind_some];rw [Qa9 (Qac.1 hd).1]
theorem q0v (a:List DefD):y5j (a++givenT)=y5j a:=by
 have hr: ∀x∈rootN,x∉y0a givenT:=by decide+kernel
 unfold y5j
 congr 1
 refine List.filter_congr fun p hp=>?_;have hm:p.1∈rootN:=(List.mem_zipIdx' hp).2▸List.getElem_mem _;rw [q38 (hr p.1 hm)]
theorem x34: ∀(l:List DefD) (s:DefD),q36 l→l.foldl y4d s=l.foldl y74 s
 |[],s,_=>rfl
 |d::r,s,h=>by
  have hs:y4d s d=y74 s d:=by
   unfold y4d y74;split
   ·rename_i hc;obtain ⟨e1,e2,e3,e4,e5⟩:=h d (Qaz ..) hc.1;unfold y0z;rw [e1,e2,e3,e4,e5];simp only [List.append_nil]
   ·rfl
  rw [List.foldl_cons,List.foldl_cons,hs];exact x34 r _ fun x hx=>h x (Qa2 _ hx)
theorem x2d {defs:List DefD} (h:q36 defs):y27 defs (y02 defs)=y5l defs (y3y defs):=by
 unfold y27 y5l
 cases defs.find? y1h with
 |none=>dsimp only;rw [z98,q0v]
 |some d=>exact x34 defs d h
end Go.Proofs.YtbpgkkoeehopjaaGreat.ty
namespace Go.Proofs.YtbpgkkoeehopjaaGreat.hp
open Go.RowKit lex gram rd tree dat ty
def SchD (d:DefD):Prop:=d.kind=1→d.ifaces=[]∧d.fields=[]∧d.inputs=[]∧d.members=[]∧d.values=[]
theorem q39 {toks:List TokD} {L f:Nat} {h:NoteD×Bool×TokD×Nat} {q:DefD×Nat} (hb:y4u toks L f h=some q):SchD q.1:=by
 unfold y4u at hb;split at hb
 ·simp only [y7r,Qag] at hb;obtain ⟨_,_,_,_,hq⟩:=hb;injection hq with hq;subst hq;exact fun _=>⟨rfl,rfl,rfl,rfl,rfl⟩
 ·simp only [y7s,Qag] at hb;obtain ⟨_,_,_,_,hq⟩:=hb;injection hq with hq;subst hq
  exact fun h=>by simp at h
 ·simp only [y3s,Qag] at hb;obtain ⟨_,_,_,_,_,_,_,_,hq⟩:=hb;injection hq with hq;subst hq
  exact fun h=>by simp at h
 ·simp only [y3s,Qag] at hb;obtain ⟨_,_,_,_,_,_,_,_,hq⟩:=hb;injection hq with hq;subst hq
  exact fun h=>by simp at h
 ·simp only [z15,Qag] at hb;obtain ⟨_,_,_,_,_,_,hq⟩:=hb;injection hq with hq;subst hq
  exact fun h=>by simp at h
 ·simp only [z8l,Qag] at hb;obtain ⟨_,_,_,_,_,_,hq⟩:=hb;injection hq with hq;subst hq
  exact fun h=>by simp at h
 ·simp only [z16,Qag] at hb;obtain ⟨_,_,_,_,_,_,hq⟩:=hb;injection hq with hq;subst hq
  exact fun h=>by simp at h
 ·simp only [dirF,Qag] at hb;obtain ⟨_,_,_,_,_,_,_,_,_,_,_,_,hq⟩:=hb;injection hq with hq;subst hq
  exact fun h=>by simp at h
 ·cases hb
theorem x35 (toks:List TokD) (L f:Nat): ∀(fu k:Nat) (l:List DefD),y3t toks L f fu k=some l→ ∀x∈l,SchD x
 |0,_,_,h=>by cases h
 |fu+1,k,l,h=>by
  simp only [y3t,Qag] at h;obtain ⟨t,_,h⟩:=h;split at h
  ·injection h with h;subst h;exact fun x hx=>by cases hx
  ·simp only [Qag,defF] at h;obtain ⟨q,⟨_,_,hb⟩,r,hr,hl⟩:=h;injection hl with hl;subst hl;intro x hx;rcases Qbd.1 hx with rfl|hx
   ·exact q39 hb
   ·exact x35 toks L f fu q.2 r hr x hx
theorem q4a (src:Txt) (hlen:src.length≤2200000):q36 (z1h src):=by
 obtain ⟨toks,e,hA,h2,⟨hr,hd,hN⟩|⟨e0,p1,p2,h0,hr,hd⟩⟩:=y8l src hlen
 ·exact x35 _ _ _ _ _ _ hd
 ·rw [hd];exact fun x hx=>by cases hx
end Go.Proofs.YtbpgkkoeehopjaaGreat.hp
namespace Go.Proofs.YtbpgkkoeehopjaaGreat.hp
open Go.RowKit words enc tree gram lex rd dec dat held
set_option maxRecDepth 100000
set_option maxHeartbeats 40000000
attribute [local go_sem ↓] Go.wp_at_zero Go.wp_at_succ
section
variable {w0 w K : World} {M : List Ent}
theorem z99 {p:Addr} {us vs ws:List Value} {k:Nat} (h:At K p (us++vs++ws)) (hk:us.length=k+1):At K ⟨p.block,p.off+(k+1),none⟩ vs:=by
 have e: ∀i u,vs[i]?=some u→(us++vs++ws)[k+i+1]?=some u:=by
  intro i u hu;rw [Qat,Qba (by omega),hk,show k+i+1 - (k+1)=i by omega,Qa9 (Qac.1 hu).1];exact hu
 refine ⟨fun u hu=>h.2 k u (e 0 u hu),fun i u hu=>?_⟩;have:=h.2 _ _ (e _ _ hu);rwa [show p.off+(k+(i+1)+1)=p.off+(k+1)+(i+1) by omega] at this
theorem z6c: ∀(m:Nat) (d:LitD) (cs:Array Value) (w0 w K:World) (M:List Ent),litN d≤m→m≤9000000→RL K (litL d) cs.toList→Hp w0 w K M→
  Calls Tryz.prog 165 #[.agg cs] w fun e w'=>∃K' cs',e= .returned (.agg cs')∧Sat K' K∧Hp w0 w' K' M∧RL K' (litL d) cs'.toList:=by
 intro m
 induction m with
 |zero=>intro d cs w0 w K M h;have:=y6q d;omega
 |succ m ih=>
 intro d cs w0 w K M hn hm hd H;obtain ⟨kind,text,block,items,fields,line,col⟩:=d;obtain ⟨Ai,ci,Af,cf,hcs,hi,hf⟩:=y0i hd;obtain rfl:cs= #[_,_,_,_,_,_,_]:=Qal.1 hcs
 have hni:items.length≤9000000:=by have:=z2n items;simp only [litN] at hn;omega
 have hnf:fields.length≤9000000:=by have:=y5d fields;simp only [litN] at hn;omega
 have HI:=hide (show ∀x∈items,litN x≤m from fun x hx=>by obtain ⟨k,hk⟩:=Qaq hx;have:=z63 hk;simp only [litN] at hn;omega);have HF:=hide (show ∀x∈fields,pairN x≤m from fun x hx=>by obtain ⟨k,hk⟩:=Qaq hx;have:=y6r hk;simp only [litN] at hn;omega);have HIH:=hide ih;rw [y6n] at hi;rw [y20] at hf;clear ih hcs hd hn;obtain ⟨ni,hni2⟩: ∃x,items.length=x:=⟨_,rfl⟩;obtain ⟨nf,hnf2⟩: ∃x,fields.length=x:=⟨_,rfl⟩;rw [hni2] at hi hni ⊢;rw [hnf2] at hf hnf ⊢;have HNI:=hide hni2;have HNF:=hide hnf2;clear hni2 hnf2;go_enter Tryz.func165,Tryz.ntmps165
 go_wp2_with (first|(refine oL H ?_)|(refine oA 1 H ?_;clear H;intro w gv H)|(refine oA 2 H ?_;clear H;intro w gz H)|(refine oA 3 H ?_;clear H;intro w gw H)|(refine oP H ?_;clear H;intro w _ H))
 replace H:=H.nilRow 121 7
 go_loopw [4] (fun i wr=>∃(K':World) (k:Nat) (A':Option Addr) (c':Nat) (vs:List Value),k≤ni∧i= .int .i64 k∧Sat K' K∧RL K' (litsL (items.take k)) vs∧Hp w0 wr K' (.row 121 7 (.slice A' k c') k vs:: .box gw [.int .i64 kind,.string (str text),.bool block,.slice A' k c',.slice none 0 0,.int .i64 line,.int .i64 col] 121:: .box gz [.int .i64 0,.string ⟨#[]⟩,.bool false,.slice none 0 0,.slice none 0 0,.int .i64 0,.int .i64 0] 121:: .box gv [.int .i64 kind,.string (str text),.bool block,.slice Ai ni ci,.slice Af nf cf,.int .i64 line,.int .i64 col] 121::M)) (fun i _=>ni - (intOf i).toNat)
 case atStart=>exact ⟨K,0,none,0,[],Qak _,rfl,Sat.refl _,.nil (Qab _),H⟩
 case round=>
  clear H;obtain ⟨K',k,A',c',vs,hk,rfl,hle,hvs,H⟩:=hrel;replace hi:=hi.sat hle;replace hf:=hf.sat hle;by_cases hlt:k<ni
  ·obtain ⟨x,ad,us,hx,rfl,hxl,hat⟩:=el_k y5o hi (by rw [HNI.out];exact hlt) (by decide);obtain ⟨hkI,hwr⟩:=wr_k hlt hni;have hxn:=HI.out x (Qaf hx);have HX:=hide (y0n hx);obtain ⟨dk,dt,db,di,df,dln,dcl⟩:=x;obtain ⟨Xi,xi,Xf,xf,rfl,-,-⟩:=y0i hxl;have hc:=fun {w M} (h:Hp w0 w K' M)=>HIH.out _ #[_,_,_,_,_,_,_] w0 w K' M hxn (by omega) hxl h;clear hx
   go_wp2_with (first|(refine oL H ?_)|(refine oA 5 H ?_;clear H;intro w gx H)|(refine oP H ?_;clear H;intro w _ H)|((with_reducible refine (hc H).mono ?_);clear H;rintro e w ⟨K2,cs,rfl,hle2,H,he⟩;obtain ⟨Bi,bi,Bf,bf,hcs,-,-⟩:=y0i he;obtain rfl:cs= #[_,_,_,_,_,_,_]:=Qal.1 hcs;clear hcs)|(refine oQ H ?_;clear H;intro A' c' w _ _ H;dsimp only [List.set] at H))
   go_roundw
   case rel=>exact ⟨K2,k+1,_,_,_,by omega,by go_num,hle2.trans hle,by rw [HX.out,z3f];exact (hvs.sat hle2).app (by simpa [litsL] using he),H.fin⟩
   case measure=>simp [intOf];omega
  ·obtain rfl:k=ni:=by omega
   rw [Qaj (by rw [HNI.out];exact Qab _)] at hvs;clear hlt hi
   go_wp2_with (first|(refine oL H ?_)|(refine oP H ?_;clear H;intro w _ H))
   replace H:=H.nilRow 219 10
   go_loopw [6] (fun i wr=>∃(K2:World) (j:Nat) (A2:Option Addr) (c2:Nat) (vs2:List Value),j≤nf∧i= .int .i64 j∧Sat K2 K'∧RL K2 (pairsL (fields.take j)) vs2∧Hp w0 wr K2 (.row 219 10 (.slice A2 j c2) j vs2:: .row 121 7 (.slice A' k c') k vs:: .box gw [.int .i64 kind,.string (str text),.bool block,.slice A' k c',.slice A2 j c2,.int .i64 line,.int .i64 col] 121:: .box gz [.int .i64 0,.string ⟨#[]⟩,.bool false,.slice none 0 0,.slice none 0 0,.int .i64 0,.int .i64 0] 121:: .box gv [.int .i64 kind,.string (str text),.bool block,.slice Ai k ci,.slice Af nf cf,.int .i64 line,.int .i64 col] 121::M)) (fun i _=>nf - (intOf i).toNat)
   case atStart=>exact ⟨K',0,none,0,[],Qak _,rfl,Sat.refl _,.nil (Qab _),H.fin⟩
   case round=>
    clear H;obtain ⟨K2,j,A2,c2,vs2,hj,rfl,hle2,hvs2,H⟩:=hrel;replace hf:=hf.sat hle2;by_cases hlt:j<nf
    ·obtain ⟨x,ad,us,hx,rfl,hxl,hat⟩:=el_k y2z hf (by rw [HNF.out];exact hlt) (by decide);obtain ⟨hkI,hwr⟩:=wr_k hlt hnf;have hxn:=HF.out x (Qaf hx);have HX:=hide (y0n hx);obtain ⟨pn,⟨dk,dt,db,di,df,dln,dcl⟩,pl,pc⟩:=x;obtain ⟨ls,rfl,hvl⟩:=y1y hxl;obtain ⟨Xi,xi,Xf,xf,rfl,-,-⟩:=y0i hvl;have hc:=fun {w M} (h:Hp w0 w K2 M)=>HIH.out _ #[_,_,_,_,_,_,_] w0 w K2 M (by simp only [pairN] at hxn;omega) (by omega) hvl h;simp only [List.cons_append,List.nil_append] at hat;have hat1:At K2 ⟨(ad.add (j*10)).block,(ad.add (j*10)).off+1,none⟩ [_,_,_,_,_,_,_]:=z99 (us:=[_]) (vs:=[_,_,_,_,_,_,_]) (ws:=[_,_]) (k:=0) hat rfl;clear hx hxl
     go_upto_region 13 with (first|(refine oL H ?_)|(refine oA 7 H ?_;clear H;intro w gx H)|(refine oP H ?_;clear H;intro w _ H)|((with_reducible refine (hc H).mono ?_);clear H;rintro e w ⟨K3,cs,rfl,hle3,H,he⟩;obtain ⟨Bi,bi,Bf,bf,hcs,-,-⟩:=y0i he;obtain rfl:cs= #[_,_,_,_,_,_,_]:=Qal.1 hcs;clear hcs;replace hat:=At.sat hat hle3;clear hat1))
     have hat8:At K3 ⟨(ad.add (j*10)).block,(ad.add (j*10)).off+8,none⟩ [_,_]:=z99 (us:=[_,_,_,_,_,_,_,_]) (vs:=[_,_]) (ws:=[]) (k:=7) hat rfl;refine rN [.box gw _ _,.box gv _ _,.box gx _ _] [19] H ?_;clear H;intro w H;refine rT 0 H ?_;refine rT 1 H ?_;refine rT 2 H ?_;refine rT 3 H ?_;refine rT 4 H ?_;refine rT 5 H ?_;refine rT 6 H ?_;refine rT 7 H ?_;refine rT 8 H ?_;refine rT 9 H ?_;refine rT 10 H ?_;refine rT 11 H ?_;refine rT 12 H ?_;refine rT 13 H ?_;refine rT 14 H ?_;refine rT 15 H ?_;refine rW 16 H ?_;clear H;intro w _ H;refine rA 17 H ?_;clear H;intro A2 c2 w _ _ H;dsimp only [List.set] at H;refine rT 18 H ?_;refine rL 19 H ?_;clear H;intro w _ H;refine rE ?_;have hpe:RL K3 (pairL (.mk pn (.mk dk dt db di df dln dcl) pl pc)) [.string (str pn),.int .i64 dk,.string (str dt),.bool db,.slice Bi di.length bi,.slice Bf df.length bf,.int .i64 dln,.int .i64 dcl,.int .i64 pl,.int .i64 pc]:=DatL.lit (DatL.app he (DatL.lit (DatL.lit (DatL.nil he.le))))
     go_wp2_with (first|(refine oL H ?_)|(refine oP H ?_;clear H;intro w _ H))
     go_roundw
     case rel=>exact ⟨K3,j+1,_,_,_,by omega,by go_num,hle3.trans hle2,by rw [HX.out,y43];exact (hvs2.sat hle3).app (by simpa [pairsL] using hpe),H.fin⟩
     case measure=>simp [intOf];omega
    ·obtain rfl:j=nf:=by omega
     rw [Qaj (by rw [HNF.out];exact Qab _)] at hvs2
     go_wp2_with (first|(refine oL H ?_)|(refine oP H ?_;clear H;intro w _ H))
     refine oB H ?_;replace H:Hp _ _ _ (.row 219 10 _ _ _:: .row 121 7 _ _ _::M):=H.fin;obtain ⟨K3,hle3,H,hd2⟩:=H.freezeRow hvs2;obtain ⟨K4,hle4,H,hd1⟩:=H.freezeRow (hvs.sat (hle3.trans hle2));refine ⟨K4,_,rfl,hle4.trans (hle3.trans (hle2.trans hle)),H,y21 ?_ ?_⟩
     ·rw [HNI.out];exact hd1
     ·rw [HNF.out];exact hd2.sat hle4
end
section
variable {w0 w K : World} {M : List Ent}
theorem x0a {l:List DirD} {A:Option Addr} {c:Nat} (hm:sumN dirN l≤9000000) (hd:RD K (.list l.length (y2a l)) (.slice A l.length c)) (H:Hp w0 w K M):
  Calls Tryz.prog 129 #[.slice A l.length c] w fun e w'=>∃K' A' c' vs,e= .returned (.slice A' l.length c')∧Sat K' K∧RL K' (y2a l) vs∧Hp w0 w' K' (.row 181 4 (.slice A' l.length c') l.length vs::M):=by
 have hn:=Qah (y0o y4f l) hm;have HX:=hide (show ∀x∈l,dirN x≤9000000 from fun x hx=>by obtain ⟨k,hk⟩:=Qaq hx;have:=y5e (f:=dirN) hk;omega);obtain ⟨n,hn2⟩: ∃x,l.length=x:=⟨_,rfl⟩;rw [hn2] at hd hn ⊢;have HN:=hide hn2;clear hn2 hm;go_enter Tryz.func129,Tryz.ntmps129
 go_wp2_with fail
 replace H:=H.nilRow 181 4
 go_loopw [3,4] (fun v i wr=>∃(K':World) (k:Nat) (A':Option Addr) (c':Nat) (vs:List Value),k≤n∧i= .int .i64 k∧v= .slice A' k c'∧Sat K' K∧RL K' (y2a (l.take k)) vs∧Hp w0 wr K' (.row 181 4 (.slice A' k c') k vs::M)) (fun _ i _=>n - (intOf i).toNat)
 case atStart=>exact ⟨K,0,none,0,[],Qak _,rfl,rfl,Sat.refl _,.nil (Qab _),H⟩
 case round=>
  clear H;obtain ⟨K',k,A',c',vs,hk,rfl,rfl,hle,hvs,H⟩:=hrel;replace hd:=hd.sat hle;by_cases hlt:k<n
  ·obtain ⟨x,ad,us,hx,rfl,hxl,hat⟩:=el_k (m:=4) (f:=dirL) (fun _=>rfl) hd (by rw [HN.out];exact hlt) (by decide);obtain ⟨hkI,hwr⟩:=wr_k hlt hn;have hxn:=HX.out x (Qaf hx);have HT:=hide (y0n hx);obtain ⟨dn,args,dl,dc⟩:=x;obtain ⟨Aa,ca,rfl,ha⟩:=y59 hxl;simp only [dirN] at hxn
   have hna:args.length≤9000000:=by have:=y5d args;omega
   have HF:=hide (show ∀x∈args,pairN x≤9000000 from fun x hx=>by obtain ⟨k,hk⟩:=Qaq hx;have:=y6r hk;omega);dsimp only at ha hat;rw [y20] at ha;obtain ⟨na,hna2⟩: ∃x,args.length=x:=⟨_,rfl⟩;rw [hna2] at ha hna hat;have HNA:=hide hna2;clear hx hna2 hxn hxl;have hat8:At K' ⟨(ad.add (k*4)).block,(ad.add (k*4)).off+2,none⟩ [_,_]:=z99 (us:=[_,_]) (vs:=[_,_]) (ws:=[]) (k:=1) hat rfl
   go_upto_region 5 with (first|(refine oL H ?_)|(refine oP H ?_;clear H;intro w _ H))
   refine rB [12] H ?_;clear H;intro w H;refine rT 0 H ?_;refine rT 1 H ?_;refine rT 2 H ?_;refine rT 3 H ?_;refine rT 4 H ?_;refine rT 5 H ?_;refine rT 6 H ?_;refine rT 7 H ?_;refine rT 8 H ?_;refine rT 9 H ?_;refine rT 10 H ?_;refine rW 11 H ?_;clear H;intro w gd H;refine rL 12 H ?_;clear H;intro w _ H;refine rE ?_
   go_wp2_with (first|(refine oL H ?_)|(refine oP H ?_;clear H;intro w _ H))
   replace H:=H.nilRow 185 10
   go_loopw [6] (fun i wq=>∃(K2:World) (j:Nat) (A2:Option Addr) (c2:Nat) (vs2:List Value),j≤na∧i= .int .i64 j∧Sat K2 K'∧RL K2 (pairsL (args.take j)) vs2∧Hp w0 wq K2 (.row 185 10 (.slice A2 j c2) j vs2:: .box gd [.string (str dn),.slice A2 j c2,.int .i64 dl,.int .i64 dc] 181:: .row 181 4 (.slice A' k c') k vs::M)) (fun i _=>na - (intOf i).toNat)
   case atStart=>exact ⟨K',0,none,0,[],Qak _,rfl,Sat.refl _,.nil (Qab _),H⟩
   case round=>
    clear H;obtain ⟨K2,j,A2,c2,vs2,hj,rfl,hle2,hvs2,H⟩:=hrel;replace ha:=ha.sat hle2;replace hat:=At.sat hat hle2;by_cases hlt2:j<na
    ·obtain ⟨x,ad,us,hx,rfl,hxl,hat2⟩:=el_k y2z ha (by rw [HNA.out];exact hlt2) (by decide);obtain ⟨hjI,hwj⟩:=wr_k hlt2 hna;have hxn:=HF.out x (Qaf hx);have HY:=hide (y0n hx);obtain ⟨pn,⟨dk,dt,db,di,df,dln,dcl⟩,pl,pc⟩:=x;obtain ⟨ls,rfl,hvl⟩:=y1y hxl;obtain ⟨Xi,xi,Xf,xf,rfl,-,-⟩:=y0i hvl;have hc:=fun {w M} (h:Hp w0 w K2 M)=>z6c 9000000 _ #[_,_,_,_,_,_,_] w0 w K2 M (by simp only [pairN] at hxn;omega) (Qab _) hvl h;simp only [List.cons_append,List.nil_append] at hat2;clear hx hxl
     go_wp2_with (first|(refine oL H ?_)|(refine oA 7 H ?_;clear H;intro w gx H)|(refine oP H ?_;clear H;intro w _ H)|((with_reducible refine (hc H).mono ?_);clear H;rintro e w ⟨K3,cs,rfl,hle3,H,he⟩;obtain ⟨Bi,bi,Bf,bf,hcs,-,-⟩:=y0i he;obtain rfl:cs= #[_,_,_,_,_,_,_]:=Qal.1 hcs;clear hcs)|(refine oQ H ?_;clear H;intro A' c' w _ _ H;dsimp only [List.set] at H))
     have hpe:RL K3 (pairL (.mk pn (.mk dk dt db di df dln dcl) pl pc)) [.string (str pn),.int .i64 dk,.string (str dt),.bool db,.slice Bi di.length bi,.slice Bf df.length bf,.int .i64 dln,.int .i64 dcl,.int .i64 pl,.int .i64 pc]:=DatL.lit (DatL.app he (DatL.lit (DatL.lit (DatL.nil he.le))));go_roundw
     case rel=>exact ⟨K3,j+1,_,_,_,by omega,by go_num,hle3.trans hle2,by rw [HY.out,y43];exact (hvs2.sat hle3).app (by simpa [pairsL] using hpe),H.fin⟩
     case measure=>simp [intOf];omega
    ·obtain rfl:j=na:=by omega
     rw [Qaj (by rw [HNA.out];exact Qab _)] at hvs2;obtain ⟨K3,hle3,H,hd1⟩:=H.freezeRow hvs2;replace hat:=At.sat hat hle3;have hde:RL K3 (dirL ⟨dn,args,dl,dc⟩) [.string (str dn),.slice A2 j c2,.int .i64 dl,.int .i64 dc]:=.lit (.cons (by rw [HNA.out];exact hd1) (.lit (.lit (.nil (Qab _)))))
     go_wp2_with (first|(refine oL H ?_)|(refine oP H ?_;clear H;intro w _ H)|(refine oQ H ?_;clear H;intro A' c' w _ _ H;dsimp only [List.set] at H))
     go_roundw
     case rel=>exact ⟨K3,k+1,_,_,_,by omega,by go_num,rfl,hle3.trans (hle2.trans hle),by rw [HT.out,y5c];exact (hvs.sat (hle3.trans hle2)).app (y7c (f:=dirL) hde),H.fin⟩
     case measure=>simp [intOf];omega
  ·obtain rfl:k=n:=by omega
   rw [Qaj (by rw [HN.out];exact Qab _)] at hvs
   go_wp2_with fail
   go_ret;exact ⟨K',A',c',vs,rfl,hle,hvs,H⟩
theorem z2u {l:List DirD} {A:Option Addr} {c:Nat} (hm:sumN dirN l≤9000000) (hd:RD K (.list l.length (y2a l)) (.slice A l.length c)) (H:Hp w0 w K M):
  Calls Tryz.prog 129 #[.slice A l.length c] w fun e w'=>∃K' A' c',e= .returned (.slice A' l.length c')∧Sat K' K∧Hp w0 w' K' M∧RD K' (.list l.length (y2a l)) (.slice A' l.length c'):=
 (x0a hm hd H).mono fun e w' ⟨K',A',c',vs,he,hle,hvs,H⟩=>by
   obtain ⟨K2,hle2,H,hd⟩:=H.freezeRow hvs;exact ⟨K2,A',c',he,hle2.trans hle,H,hd⟩
theorem z4s {l:List InputD} {A:Option Addr} {c:Nat} (hm:sumN y1w l≤9000000) (hd:RD K (.list l.length (y0k l)) (.slice A l.length c)) (H:Hp w0 w K M):
  Calls Tryz.prog 130 #[.slice A l.length c] w fun e w'=>∃K' A' c' vs,e= .returned (.slice A' l.length c')∧Sat K' K∧RL K' (y0k l) vs∧Hp w0 w' K' (.row 123 17 (.slice A' l.length c') l.length vs::M):=by
 have hn:=Qah (y0o y2u l) hm;have HX:=hide (show ∀x∈l,y1w x≤9000000 from fun x hx=>by obtain ⟨k,hk⟩:=Qaq hx;have:=y5e (f:=y1w) hk;omega);obtain ⟨n,hn2⟩: ∃x,l.length=x:=⟨_,rfl⟩;rw [hn2] at hd hn ⊢;have HN:=hide hn2;clear hn2 hm;go_enter Tryz.func130,Tryz.ntmps130
 go_wp2_with fail
 replace H:=H.nilRow 123 17
 go_loopw [3,4] (fun v i wr=>∃(K':World) (k:Nat) (A':Option Addr) (c':Nat) (vs:List Value),k≤n∧i= .int .i64 k∧v= .slice A' k c'∧Sat K' K∧RL K' (y0k (l.take k)) vs∧Hp w0 wr K' (.row 123 17 (.slice A' k c') k vs::M)) (fun _ i _=>n - (intOf i).toNat)
 case atStart=>exact ⟨K,0,none,0,[],Qak _,rfl,rfl,Sat.refl _,.nil (Qab _),H⟩
 case round=>
  clear H;obtain ⟨K',k,A',c',vs,hk,rfl,rfl,hle,hvs,H⟩:=hrel;replace hd:=hd.sat hle;by_cases hlt:k<n
  ·obtain ⟨x,ad,us,hx,rfl,hxl,hat⟩:=el_k y58 hd (by rw [HN.out];exact hlt) (by decide);obtain ⟨hkI,hwr⟩:=wr_k hlt hn;have hxn:=HX.out x (Qaf hx);have HT:=hide (y0n hx);obtain ⟨⟨nh,nb,nt⟩,dn,⟨tn,tw⟩,dh,⟨dk,dt,db,di,df,dln,dcl⟩,ds,dl,dc⟩:=x;obtain ⟨ls,Ad,cd,rfl,hvl,hds⟩:=y38 hxl;obtain ⟨Xi,xi,Xf,xf,rfl,-,-⟩:=y0i hvl;simp only [y1w] at hxn;have hc:=fun {w M} (h:Hp w0 w K' M)=>z6c 9000000 _ #[_,_,_,_,_,_,_] w0 w K' M (by omega) (Qab _) hvl h;have hc2:=fun {w K M} (h:Hp w0 w K M) (hd:RD K (.list ds.length (y2a ds)) (.slice Ad ds.length cd))=>z2u (by omega) hd h;simp only [List.cons_append,List.nil_append] at hat;clear hx hxl
   go_wp2_with (first|(refine oL H ?_)|(refine oP H ?_;clear H;intro w _ H)|((with_reducible refine (hc H).mono ?_);clear hc H;rintro e w ⟨K2,cs,rfl,hle2,H,he⟩;obtain ⟨Bi,bi,Bf,bf,hcs,-,-⟩:=y0i he;obtain rfl:cs= #[_,_,_,_,_,_,_]:=Qal.1 hcs;clear hcs;replace hds:=hds.sat hle2)|((with_reducible refine (hc2 H hds).mono ?_);clear hc2 H;rintro e w ⟨K3,Ae,ce,rfl,hle3,H,hde⟩)|(refine oQ H ?_;clear H;intro A' c' w _ _ H;dsimp only [List.set] at H))
   have hpe:=y8c (nh:=nh) (nb:=nb) (nt:=nt) (dn:=dn) (tn:=tn) (tw:=tw) (dh:=dh) (dl:=dl) (dc:=dc) (he.sat hle3) hde;go_roundw
   case rel=>exact ⟨K3,k+1,_,_,_,by omega,by go_num,rfl,hle3.trans (hle2.trans hle),by rw [HT.out,y36];exact (hvs.sat (hle3.trans hle2)).app (y7c (f:=y31) hpe),H.fin⟩
   case measure=>simp [intOf];omega
  ·obtain rfl:k=n:=by omega
   rw [Qaj (by rw [HN.out];exact Qab _)] at hvs
   go_wp2_with fail
   go_ret;exact ⟨K',A',c',vs,rfl,hle,hvs,H⟩
theorem z6d {l:List InputD} {A:Option Addr} {c:Nat} (hm:sumN y1w l≤9000000) (hd:RD K (.list l.length (y0k l)) (.slice A l.length c)) (H:Hp w0 w K M):
  Calls Tryz.prog 130 #[.slice A l.length c] w fun e w'=>∃K' A' c',e= .returned (.slice A' l.length c')∧Sat K' K∧Hp w0 w' K' M∧RD K' (.list l.length (y0k l)) (.slice A' l.length c'):=
 (z4s hm hd H).mono fun e w' ⟨K',A',c',vs,he,hle,hvs,H⟩=>by
   obtain ⟨K2,hle2,H,hd⟩:=H.freezeRow hvs;exact ⟨K2,A',c',he,hle2.trans hle,H,hd⟩
theorem z4t {l:List FieldD} {A:Option Addr} {c:Nat} (hm:sumN y1j l≤9000000) (hd:RD K (.list l.length (y0s l)) (.slice A l.length c)) (H:Hp w0 w K M):
  Calls Tryz.prog 88 #[.slice A l.length c] w fun e w'=>∃K' A' c' vs,e= .returned (.slice A' l.length c')∧Sat K' K∧RL K' (y0s l) vs∧Hp w0 w' K' (.row 52 10 (.slice A' l.length c') l.length vs::M):=by
 have hn:=Qah (y0o y2b l) hm;have HX:=hide (show ∀x∈l,y1j x≤9000000 from fun x hx=>by obtain ⟨k,hk⟩:=Qaq hx;have:=y5e (f:=y1j) hk;omega);obtain ⟨n,hn2⟩: ∃x,l.length=x:=⟨_,rfl⟩;rw [hn2] at hd hn ⊢;have HN:=hide hn2;clear hn2 hm;go_enter Tryz.func88,Tryz.ntmps88
 go_wp2_with fail
 replace H:=H.nilRow 52 10
 go_loopw [3,4] (fun v i wr=>∃(K':World) (k:Nat) (A':Option Addr) (c':Nat) (vs:List Value),k≤n∧i= .int .i64 k∧v= .slice A' k c'∧Sat K' K∧RL K' (y0s (l.take k)) vs∧Hp w0 wr K' (.row 52 10 (.slice A' k c') k vs::M)) (fun _ i _=>n - (intOf i).toNat)
 case atStart=>exact ⟨K,0,none,0,[],Qak _,rfl,rfl,Sat.refl _,.nil (Qab _),H⟩
 case round=>
  clear H;obtain ⟨K',k,A',c',vs,hk,rfl,rfl,hle,hvs,H⟩:=hrel;replace hd:=hd.sat hle;by_cases hlt:k<n
  ·obtain ⟨x,ad,us,hx,rfl,hxl,hat⟩:=el_k (m:=10) (f:=y07) (fun _=>rfl) hd (by rw [HN.out];exact hlt) (by decide);obtain ⟨hkI,hwr⟩:=wr_k hlt hn;have hxn:=HX.out x (Qaf hx);have HT:=hide (y0n hx);obtain ⟨⟨nh,nb,nt⟩,dn,args,⟨tn,tw⟩,ds,dl,dc⟩:=x;obtain ⟨Aa,ca,Ad,cd,rfl,has,hds⟩:=y1r hxl;simp only [y1j] at hxn;have hc:=fun {w K M} (h:Hp w0 w K M) (hd:RD K (.list args.length (y0k args)) (.slice Aa args.length ca))=>z6d (by omega) hd h;have hc2:=fun {w K M} (h:Hp w0 w K M) (hd:RD K (.list ds.length (y2a ds)) (.slice Ad ds.length cd))=>z2u (by omega) hd h;clear hx hxl
   go_wp2_with (first|(refine oL H ?_)|(refine oA 5 H ?_;clear H;intro w gx H)|(refine oP H ?_;clear H;intro w _ H)|((with_reducible refine (hc H has).mono ?_);clear H;rintro e w ⟨K2,Ab,cb,rfl,hle2,H,hb⟩;clear hc;replace hds:=hds.sat hle2)|((with_reducible refine (hc2 H hds).mono ?_);clear H;rintro e w ⟨K3,Ae,ce,rfl,hle3,H,hde⟩;clear hc2)|(refine oQ H ?_;clear H;intro A' c' w _ _ H;dsimp only [List.set] at H))
   have hpe:=y37 (nh:=nh) (nb:=nb) (nt:=nt) (dn:=dn) (tn:=tn) (tw:=tw) (dl:=dl) (dc:=dc) (hb.sat hle3) hde;go_roundw
   case rel=>exact ⟨K3,k+1,_,_,_,by omega,by go_num,rfl,hle3.trans (hle2.trans hle),by rw [HT.out,y2f];exact (hvs.sat (hle3.trans hle2)).app (y7c (f:=y07) hpe),H.fin⟩
   case measure=>simp [intOf];omega
  ·obtain rfl:k=n:=by omega
   rw [Qaj (by rw [HN.out];exact Qab _)] at hvs
   go_wp2_with fail
   go_ret;exact ⟨K',A',c',vs,rfl,hle,hvs,H⟩
theorem z6e {l:List FieldD} {A:Option Addr} {c:Nat} (hm:sumN y1j l≤9000000) (hd:RD K (.list l.length (y0s l)) (.slice A l.length c)) (H:Hp w0 w K M):
  Calls Tryz.prog 88 #[.slice A l.length c] w fun e w'=>∃K' A' c',e= .returned (.slice A' l.length c')∧Sat K' K∧Hp w0 w' K' M∧RD K' (.list l.length (y0s l)) (.slice A' l.length c'):=
 (z4t hm hd H).mono fun e w' ⟨K',A',c',vs,he,hle,hvs,H⟩=>by
   obtain ⟨K2,hle2,H,hd⟩:=H.freezeRow hvs;exact ⟨K2,A',c',he,hle2.trans hle,H,hd⟩
theorem z4u {l:List ValueD} {A:Option Addr} {c:Nat} (hm:sumN y2n l≤9000000) (hd:RD K (.list l.length (y1c l)) (.slice A l.length c)) (H:Hp w0 w K M):
  Calls Tryz.prog 131 #[.slice A l.length c] w fun e w'=>∃K' A' c' vs,e= .returned (.slice A' l.length c')∧Sat K' K∧RL K' (y1c l) vs∧Hp w0 w' K' (.row 133 7 (.slice A' l.length c') l.length vs::M):=by
 have hn:=Qah (y0o y4a l) hm;have HX:=hide (show ∀x∈l,y2n x≤9000000 from fun x hx=>by obtain ⟨k,hk⟩:=Qaq hx;have:=y5e (f:=y2n) hk;omega);obtain ⟨n,hn2⟩: ∃x,l.length=x:=⟨_,rfl⟩;rw [hn2] at hd hn ⊢;have HN:=hide hn2;clear hn2 hm;go_enter Tryz.func131,Tryz.ntmps131
 go_wp2_with fail
 replace H:=H.nilRow 133 7
 go_loopw [3,4] (fun v i wr=>∃(K':World) (k:Nat) (A':Option Addr) (c':Nat) (vs:List Value),k≤n∧i= .int .i64 k∧v= .slice A' k c'∧Sat K' K∧RL K' (y1c (l.take k)) vs∧Hp w0 wr K' (.row 133 7 (.slice A' k c') k vs::M)) (fun _ i _=>n - (intOf i).toNat)
 case atStart=>exact ⟨K,0,none,0,[],Qak _,rfl,rfl,Sat.refl _,.nil (Qab _),H⟩
 case round=>
  clear H;obtain ⟨K',k,A',c',vs,hk,rfl,rfl,hle,hvs,H⟩:=hrel;replace hd:=hd.sat hle;by_cases hlt:k<n
  ·obtain ⟨x,ad,us,hx,rfl,hxl,hat⟩:=el_k (m:=7) (f:=y5p) (fun _=>rfl) hd (by rw [HN.out];exact hlt) (by decide);obtain ⟨hkI,hwr⟩:=wr_k hlt hn;have hxn:=HX.out x (Qaf hx);have HT:=hide (y0n hx);obtain ⟨⟨nh,nb,nt⟩,dn,ds,dl,dc⟩:=x;obtain ⟨Ad,cd,rfl,hds⟩:=z3j hxl;simp only [y2n] at hxn;have hc:=fun {w M} (h:Hp w0 w K' M)=>z2u (by omega) hds h;clear hx hxl
   go_wp2_with (first|(refine oL H ?_)|(refine oA 5 H ?_;clear H;intro w gx H)|(refine oP H ?_;clear H;intro w _ H)|((with_reducible refine (hc H).mono ?_);clear H;rintro e w ⟨K3,Ae,ce,rfl,hle3,H,hde⟩;clear hc)|(refine oQ H ?_;clear H;intro A' c' w _ _ H;dsimp only [List.set] at H))
   have hpe:=y8d (nh:=nh) (nb:=nb) (nt:=nt) (dn:=dn) (dl:=dl) (dc:=dc) hde;go_roundw
   case rel=>exact ⟨K3,k+1,_,_,_,by omega,by go_num,rfl,hle3.trans hle,by rw [HT.out,y3e];exact (hvs.sat hle3).app (y7c (f:=y5p) hpe),H.fin⟩
   case measure=>simp [intOf];omega
  ·obtain rfl:k=n:=by omega
   rw [Qaj (by rw [HN.out];exact Qab _)] at hvs
   go_wp2_with fail
   go_ret;exact ⟨K',A',c',vs,rfl,hle,hvs,H⟩
theorem x6u {l:List ValueD} {A:Option Addr} {c:Nat} (hm:sumN y2n l≤9000000) (hd:RD K (.list l.length (y1c l)) (.slice A l.length c)) (H:Hp w0 w K M):
  Calls Tryz.prog 131 #[.slice A l.length c] w fun e w'=>∃K' A' c',e= .returned (.slice A' l.length c')∧Sat K' K∧Hp w0 w' K' M∧RD K' (.list l.length (y1c l)) (.slice A' l.length c'):=
 (z4u hm hd H).mono fun e w' ⟨K',A',c',vs,he,hle,hvs,H⟩=>by
   obtain ⟨K2,hle2,H,hd⟩:=H.freezeRow hvs;exact ⟨K2,A',c',he,hle2.trans hle,H,hd⟩
theorem y8u {l:List NamedD} {A:Option Addr} {c n:Nat} (hn:n≤9000000) (hd:RD K (.list n (y0t l)) (.slice A n c)) (hl:l.length=n) (H:Hp w0 w K M):
  Calls Tryz.prog 128 #[.slice A n c] w fun e w'=>∃A' c' vs,e= .returned (.slice A' n c')∧RL K (y0t l) vs∧Hp w0 w' K (.row 113 3 (.slice A' n c') n vs::M):=by
 subst hl;go_enter Tryz.func128,Tryz.ntmps128
 go_wp2_with (refine oN H ?_;clear H;intro u A' c' w q _ _ H)
 go_ret;exact ⟨A',c',u,rfl,q,H⟩
theorem x0b {l:List NamedD} {A:Option Addr} {c n:Nat} (hn:n≤9000000) (hd:RD K (.list n (y0t l)) (.slice A n c)) (hl:l.length=n) (H:Hp w0 w K M):
  Calls Tryz.prog 128 #[.slice A n c] w fun e w'=>∃K' A' c',e= .returned (.slice A' n c')∧Sat K' K∧Hp w0 w' K' M∧RD K' (.list n (y0t l)) (.slice A' n c'):=
 (y8u hn hd hl H).mono fun e w' ⟨A',c',vs,he,hvs,H⟩=>by
   obtain ⟨K2,hle2,H,hd⟩:=H.freezeRow hvs;exact ⟨K2,A',c',he,hle2,H,hd⟩
theorem z6f {l:List RootD} {A:Option Addr} {c n:Nat} (hn:n≤9000000) (hd:RD K (.list n (y2k l)) (.slice A n c)) (hl:l.length=n) (H:Hp w0 w K M):
  Calls Tryz.prog 132 #[.slice A n c] w fun e w'=>∃A' c' vs,e= .returned (.slice A' n c')∧RL K (y2k l) vs∧Hp w0 w' K (.row 100 4 (.slice A' n c') n vs::M):=by
 subst hl;go_enter Tryz.func132,Tryz.ntmps132
 go_wp2_with (refine oN H ?_;clear H;intro u A' c' w q _ _ H)
 go_ret;exact ⟨A',c',u,rfl,q,H⟩
theorem q0w {l:List RootD} {A:Option Addr} {c n:Nat} (hn:n≤9000000) (hd:RD K (.list n (y2k l)) (.slice A n c)) (hl:l.length=n) (H:Hp w0 w K M):
  Calls Tryz.prog 132 #[.slice A n c] w fun e w'=>∃K' A' c',e= .returned (.slice A' n c')∧Sat K' K∧Hp w0 w' K' M∧RD K' (.list n (y2k l)) (.slice A' n c'):=
 (z6f hn hd hl H).mono fun e w' ⟨A',c',vs,he,hvs,H⟩=>by
   obtain ⟨K2,hle2,H,hd⟩:=H.freezeRow hvs;exact ⟨K2,A',c',he,hle2,H,hd⟩
end
section
variable {P : Program} {w0 w K K' : World} {M N : List Ent} {ops : Array Oper} {Q : Exit → Act → World → Prop} {F : List Nat} {fuel : Nat} {listed : Array Bool} {a : Act} {oi : Oper}
theorem rR (i:Nat) (H:Hp w0 w K' N) {s x:Operand} {t e:TypeId} {size bytes n m c r:Nat} {A:Option Addr} {ls:List Leaf} {v:Value} {vs:List Value} {a':Option Addr→Nat→Act}
  (h: ∀us A' c' w',RL K' ls us→n+m≤c'→c'≤maxLen→Hp w0 w' K' (N.set r (.row e size (.slice A' (n+m) c') (n+m) (vs++us)))→AnyL P .any ops Q (Ov w0 K M) F fuel (listed.setIfInBounds i true) (a' A' c') w')
  (hr:Region.ready .any ops listed=[i]:=by kernel_rfl) (hi:ops[i]?=some oi:=by (simp only [List.getElem?_toArray,List.getElem?_cons_zero,List.getElem?_cons_succ];try rfl))
  (ho:oi.op= .call {callee:=.builtin .append,args:= #[s,x],argTypes:= #[t,t]}:=by rfl) (hx:a.eval x= .slice A m c:=by first|exact (rfl:_=Value.slice _ _ _)|rfl|fail) (hsl:Sli P t e size bytes:=by infer_instance) (hs:a.eval s=v:=by first|exact (rfl:_=Value.slice _ _ _)|rfl|fail)
  (hri:N[r]?=some (.row e size v n vs):=by ((repeat (first|exact i0|apply iS))<;>fail)) (hd:RD K' (.list m ls) (.slice A m c):=by assumption) (hlen:ls.length=m*size:=by simp only [y39,z0f,y9i,y9j,y9k,y44])
  (hb:(n+m)*bytes≤140737488355328:=by omega) (ha: ∀A' c',a.put oi.dst (.slice A' (n+m) c')=a' A' c':=by (intro A c;simp only [Act.put,List.getElem_toArray,List.getElem_cons_zero,List.getElem_cons_succ,List.setIfInBounds_toArray,List.set_cons_zero,List.set_cons_succ];try rfl))
  (hgd:oi.guard=none:=by rfl) (hle:Sat K' K:=by first|exact Sat.refl _|assumption|fail) (hsf: ∀A' c' us,Inc M (N.set r (.row e size (.slice A' (n+m) c') (n+m) (vs++us))):=by (intro A c us;dsimp only [List.set];first|((repeat (first|exact n0|exact nN|apply nD))<;>fail)|((repeat (first|exact n0|exact nN|refine nS (by ((repeat (first|exact u0|apply uS))<;>fail)) ?_|apply nD))<;>fail)|fail)):AnyL P .any ops Q (Ov w0 K M) F (fuel+1) listed a w:=
 held.step hr hi fun Kq hKq=>by
  obtain ⟨ti,z,hu,hti,hz,hsz,hby,hzs,h0,hb0⟩:=hsl.h;obtain ⟨us,h1,h2,h3,h4⟩:=x07 H hd;have hown:w.ownsRow 0 e size v n vs:=H.ok _ (Qaf hri);have hmul:(n+m)*1≤(n+m)*bytes:=Qb3 _ hb0;rw [if_pos (z3l hgd)];obtain ⟨v',w',hrun,g2,g3,g4⟩:=y90 (P:=P) w 0 t oi.type e ti z size bytes hu hti hz hsz hby hzs h0 v n vs hown w.heap.size A m c us (h3.trans hlen) h2 h4 (by simp only [maxLen];omega) hb (Qak _);unfold Oper.wp execOp;simp only [ho,resolve,invoke,builtin,Sem.run_bind,Sem.run_pure,Result.andThen_ok,List.map_toArray,List.map_cons,List.map_nil,hs,hx,hrun];have H':=H.setAt (e':=.row e size v' (n+m) (vs++us)) hri g3 g2 (g4.imp id fun h=>⟨_,h,Qab _⟩);obtain ⟨A',c',rfl,q2,q3⟩:=H'.slice (i:=r) (Qbv (Qac.1 hri).1);exact hKq.out _ _ (fun _=>⟨K',_,hle,H',hsf A' c' us⟩) (fun _=>by rw [ha A' c'];exact h us A' c' w' h1 q2 q3 H')
end
section
variable {w0 w K : World} {M : List Ent}
theorem y75 (d:DefD) (cs:Array Value) (H:Hp w0 w K M) (hm:defN d≤9000000) (hd:RL K (defL d) cs.toList):
  Calls Tryz.prog 86 #[.agg cs] w fun e w'=>∃K' V,e= .returned (.agg (DV.cells d V).toArray)∧Sat K' K∧Hp w0 w' K' (DV.rows d V++M)∧V.ok K' d:=by
 obtain ⟨kind,ext,⟨nh,nb,nt⟩,name,li,ld,lf,lp,lm,lv,lr,rep,lq,dl,dc⟩:=d;obtain ⟨A6,c6,A7,c7,A8,c8,A9,c9,A10,c10,A11,c11,A12,c12,A14,c14,hcs,h6,h7,h8,h9,h10,h11,h12,h14⟩:=y0c hd;obtain rfl:cs= #[_,_,_,_,_,_,_,_,_,_,_,_,_,_,_,_,_]:=Qal.1 hcs;dsimp only at h6 h7 h8 h9 h10 h11 h12 h14;simp only [defN] at hm
 have b6:li.length≤9000000∧sumN dirN ld≤9000000∧sumN y1j lf≤9000000∧sumN y1w lp≤9000000∧lm.length≤9000000∧sumN y2n lv≤9000000∧lr.length≤9000000∧lq.length≤9000000:=by omega
 obtain ⟨b6,b7,b8,b9,b10,b11,b12,b14⟩:=b6;clear hcs hd hm;have k6:=fun {w K M} (h:Hp w0 w K M) (hd:RD K (.list li.length (y0t li)) (.slice A6 li.length c6))=>y8u b6 hd rfl h;have k10:=fun {w K M} (h:Hp w0 w K M) (hd:RD K (.list lm.length (y0t lm)) (.slice A10 lm.length c10))=>y8u b10 hd rfl h;have k14:=fun {w K M} (h:Hp w0 w K M) (hd:RD K (.list lq.length (y0t lq)) (.slice A14 lq.length c14))=>y8u b14 hd rfl h;have k12:=fun {w K M} (h:Hp w0 w K M) (hd:RD K (.list lr.length (y2k lr)) (.slice A12 lr.length c12))=>z6f b12 hd rfl h;have k7:=fun {w K M} (h:Hp w0 w K M) (hd:RD K (.list ld.length (y2a ld)) (.slice A7 ld.length c7))=>x0a b7 hd h;have k8:=fun {w K M} (h:Hp w0 w K M) (hd:RD K (.list lf.length (y0s lf)) (.slice A8 lf.length c8))=>z4t b8 hd h;have k9:=fun {w K M} (h:Hp w0 w K M) (hd:RD K (.list lp.length (y0k lp)) (.slice A9 lp.length c9))=>z4s b9 hd h;have k11:=fun {w K M} (h:Hp w0 w K M) (hd:RD K (.list lv.length (y1c lv)) (.slice A11 lv.length c11))=>z4u b11 hd h;go_enter Tryz.func86,Tryz.ntmps86
 go_wp2_with (first|(refine oL H ?_)|(refine oP H ?_;clear H;intro w _ H)|((with_reducible refine (k6 H h6).mono ?_);clear H;rintro e w ⟨B6,e6,u6,rfl,q6,H⟩;clear k6)|((with_reducible refine (k7 H h7).mono ?_);clear H;rintro e w ⟨K2,B7,e7,u7,rfl,hle2,q7,H⟩;clear k7;replace q6:=q6.sat hle2;replace h8:=h8.sat hle2;replace h9:=h9.sat hle2;replace h10:=h10.sat hle2;replace h11:=h11.sat hle2;replace h12:=h12.sat hle2;replace h14:=h14.sat hle2)|((with_reducible refine (k8 H h8).mono ?_);clear H;rintro e w ⟨K3,B8,e8,u8,rfl,hle3,q8,H⟩;clear k8;replace q6:=q6.sat hle3;replace q7:=q7.sat hle3;replace h9:=h9.sat hle3;replace h10:=h10.sat hle3;replace h11:=h11.sat hle3;replace h12:=h12.sat hle3;replace h14:=h14.sat hle3)|((with_reducible refine (k9 H h9).mono ?_);clear H;rintro e w ⟨K4,B9,e9,u9,rfl,hle4,q9,H⟩;clear k9;replace q6:=q6.sat hle4;replace q7:=q7.sat hle4;replace q8:=q8.sat hle4;replace h10:=h10.sat hle4;replace h11:=h11.sat hle4;replace h12:=h12.sat hle4;replace h14:=h14.sat hle4)|((with_reducible refine (k10 H h10).mono ?_);clear H;rintro e w ⟨B10,e10,u10,rfl,q10,H⟩;clear k10)|((with_reducible refine (k11 H h11).mono ?_);clear H;rintro e w ⟨K5,B11,e11,u11,rfl,hle5,q11,H⟩;clear k11;replace q6:=q6.sat hle5;replace q7:=q7.sat hle5;replace q8:=q8.sat hle5;replace q9:=q9.sat hle5;replace q10:=q10.sat hle5;replace h12:=h12.sat hle5;replace h14:=h14.sat hle5)|((with_reducible refine (k12 H h12).mono ?_);clear H;rintro e w ⟨B12,e12,u12,rfl,q12,H⟩;clear k12)|((with_reducible refine (k14 H h14).mono ?_);clear H;rintro e w ⟨B14,e14,u14,rfl,q14,H⟩;clear k14))
 refine oB H ?_;refine ⟨K5,⟨.slice B8 lf.length e8,.slice B11 lv.length e11,.slice B6 li.length e6,.slice B10 lm.length e10,.slice B14 lq.length e14,.slice B12 lr.length e12,.slice B9 lp.length e9,.slice B7 ld.length e7,u8,u11,u6,u10,u14,u12,u9,u7⟩,rfl,((hle5.trans hle4).trans hle3).trans hle2,?_,q8,q11,q6,q10,q14,q12,q9,q7⟩;dsimp only [DV.rows];exact H.fin
theorem z6g (d:DefD) (cs:Array Value) (H:Hp w0 w K M) (hm:defN d≤9000000) (hd:RL K (defL d) cs.toList):
  Calls Tryz.prog 86 #[.agg cs] w fun e w'=>∃K' cs',e= .returned (.agg cs')∧Sat K' K∧Hp w0 w' K' M∧RL K' (defL d) cs'.toList:=
 (y75 d cs H hm hd).mono fun e w' ⟨K',V,he,hle,H,hV⟩=>by
   obtain ⟨K2,hle2,H,h⟩:=DV.freeze H hV;exact ⟨K2,_,he,hle2.trans hle,H,h⟩
theorem z4v (d more:DefD) (V:DV) (cs2:Array Value) (H:Hp w0 w K (DV.rows d V++M)) (hV:V.ok K d) (hm:defN d+defN more≤9000000) (hd2:RL K (defL more) cs2.toList):
  Calls Tryz.prog 120 #[.agg (DV.cells d V).toArray,.agg cs2] w fun e w'=>∃K' V',e= .returned (.agg (DV.cells (y0z d more) V').toArray)∧Sat K' K∧Hp w0 w' K' (DV.rows (y0z d more) V'++M)∧V'.ok K' (y0z d more):=by
 obtain ⟨v8,v11,v6,v10,v14,v12,v9,v7,x8,x11,x6,x10,x14,x12,x9,x7⟩:=V;obtain ⟨r8,r11,r6,r10,r14,r12,r9,r7⟩:=hV;dsimp only at r8 r11 r6 r10 r14 r12 r9 r7;obtain ⟨D6,f6,D7,f7,D8,f8,D9,f9,D10,f10,D11,f11,D12,f12,D14,f14,hcs,h6,h7,h8,h9,h10,h11,h12,h14⟩:=y0c hd2;obtain rfl:cs2= #[_,_,_,_,_,_,_,_,_,_,_,_,_,_,_,_,_]:=Qal.1 hcs;dsimp only [DV.rows,DV.cells,List.cons_append,List.nil_append] at H ⊢;obtain ⟨V8,c8,rfl,-,-⟩:=H.slice (i:=0) rfl;obtain ⟨V11,c11,rfl,-,-⟩:=H.slice (i:=1) rfl;obtain ⟨V6,c6,rfl,-,-⟩:=H.slice (i:=2) rfl;obtain ⟨V10,c10,rfl,-,-⟩:=H.slice (i:=3) rfl;obtain ⟨V14,c14,rfl,-,-⟩:=H.slice (i:=4) rfl;obtain ⟨V12,c12,rfl,-,-⟩:=H.slice (i:=5) rfl;obtain ⟨V9,c9,rfl,-,-⟩:=H.slice (i:=6) rfl;obtain ⟨V7,c7,rfl,-,-⟩:=H.slice (i:=7) rfl;have s7:=y0o y4f d.dirs;have s8:=y0o y2b d.fields;have s9:=y0o y2u d.inputs;have s11:=y0o y4a d.values;have t7:=y0o y4f more.dirs;have t8:=y0o y2b more.fields;have t9:=y0o y2u more.inputs;have t11:=y0o y4a more.values;simp only [defN] at hm
 have b:more.ifaces.length≤9000000∧sumN dirN more.dirs≤9000000∧sumN y1j more.fields≤9000000∧sumN y1w more.inputs≤9000000∧more.members.length≤9000000∧sumN y2n more.values≤9000000∧more.roots.length≤9000000∧
   d.ifaces.length+more.ifaces.length≤9000000∧d.dirs.length+more.dirs.length≤9000000∧d.fields.length+more.fields.length≤9000000∧d.inputs.length+more.inputs.length≤9000000∧d.members.length+more.members.length≤9000000∧d.values.length+more.values.length≤9000000∧d.roots.length+more.roots.length≤9000000:=by omega
 obtain ⟨b6,b7,b8,b9,b10,b11,b12,e6,e7,e8,e9,e10,e11,e12⟩:=b;clear hm s7 s8 s9 s11 t7 t8 t9 t11 hcs hd2 h14;have k6:=fun {w K M} (h:Hp w0 w K M) (hd:RD K (.list more.ifaces.length (y0t more.ifaces)) (.slice D6 more.ifaces.length f6))=>x0b b6 hd rfl h;have k10:=fun {w K M} (h:Hp w0 w K M) (hd:RD K (.list more.members.length (y0t more.members)) (.slice D10 more.members.length f10))=>x0b b10 hd rfl h;have k12:=fun {w K M} (h:Hp w0 w K M) (hd:RD K (.list more.roots.length (y2k more.roots)) (.slice D12 more.roots.length f12))=>q0w b12 hd rfl h;have k7:=fun {w K M} (h:Hp w0 w K M) (hd:RD K (.list more.dirs.length (y2a more.dirs)) (.slice D7 more.dirs.length f7))=>z2u b7 hd h;have k8:=fun {w K M} (h:Hp w0 w K M) (hd:RD K (.list more.fields.length (y0s more.fields)) (.slice D8 more.fields.length f8))=>z6e b8 hd h;have k9:=fun {w K M} (h:Hp w0 w K M) (hd:RD K (.list more.inputs.length (y0k more.inputs)) (.slice D9 more.inputs.length f9))=>z6d b9 hd h;have k11:=fun {w K M} (h:Hp w0 w K M) (hd:RD K (.list more.values.length (y1c more.values)) (.slice D11 more.values.length f11))=>x6u b11 hd h;clear b6 b7 b8 b9 b10 b11 b12;have hK:=Sat.refl K;go_enter Tryz.func120,Tryz.ntmps120
 go_upto_region 1 with (first|(refine oL H ?_)|(refine oA 2 H ?_;clear H;intro w gd H)|(refine oA 3 H ?_;clear H;intro w gx H)|(refine oA 4 H ?_;clear H;intro w go H)|(refine oP H ?_;clear H;intro w _ H))
 refine rN [.box gd _ _,.box gx _ _] [7] H ?_;clear H;intro w H;refine rT 0 H ?_;refine rT 1 H ?_;refine rT 2 H ?_;refine rT 3 H ?_;refine rC 4 (k6 H h6) ?_;clear H;rintro e w ⟨K2,B,b,rfl,hle,H,hb⟩;refine rX H ?_;refine rR 5 H ?_;clear H;intro z A' c' w z6 _ _ H;dsimp only [List.set] at H;refine rT 6 H ?_;refine rL 7 H ?_;clear H;intro w _ H;refine rE ?_;replace hK:=hle.trans hK;clear k6 h6;replace h7:=h7.sat hle;replace h8:=h8.sat hle;replace h9:=h9.sat hle;replace h10:=h10.sat hle;replace h11:=h11.sat hle;replace h12:=h12.sat hle;clear hb hle
 go_wp2_with fail
 refine rN [.box gd _ _,.box gx _ _] [7] H ?_;clear H;intro w H;refine rT 0 H ?_;refine rT 1 H ?_;refine rT 2 H ?_;refine rT 3 H ?_;refine rC 4 (k7 H h7) ?_;clear H;rintro e w ⟨K2,B,b,rfl,hle,H,hb⟩;refine rX H ?_;refine rR 5 H ?_;clear H;intro z A' c' w z7 _ _ H;dsimp only [List.set] at H;refine rT 6 H ?_;refine rL 7 H ?_;clear H;intro w _ H;refine rE ?_;replace hK:=hle.trans hK;clear k7 h7;replace z6:=z6.sat hle;replace h8:=h8.sat hle;replace h9:=h9.sat hle;replace h10:=h10.sat hle;replace h11:=h11.sat hle;replace h12:=h12.sat hle;clear hb hle
 go_wp2_with fail
 refine rN [.box gd _ _,.box gx _ _] [7] H ?_;clear H;intro w H;refine rT 0 H ?_;refine rT 1 H ?_;refine rT 2 H ?_;refine rT 3 H ?_;refine rC 4 (k8 H h8) ?_;clear H;rintro e w ⟨K2,B,b,rfl,hle,H,hb⟩;refine rX H ?_;refine rR 5 H ?_;clear H;intro z A' c' w z8 _ _ H;dsimp only [List.set] at H;refine rT 6 H ?_;refine rL 7 H ?_;clear H;intro w _ H;refine rE ?_;replace hK:=hle.trans hK;clear k8 h8;replace z6:=z6.sat hle;replace z7:=z7.sat hle;replace h9:=h9.sat hle;replace h10:=h10.sat hle;replace h11:=h11.sat hle;replace h12:=h12.sat hle;clear hb hle
 go_wp2_with fail
 refine rN [.box gd _ _,.box gx _ _] [7] H ?_;clear H;intro w H;refine rT 0 H ?_;refine rT 1 H ?_;refine rT 2 H ?_;refine rT 3 H ?_;refine rC 4 (k9 H h9) ?_;clear H;rintro e w ⟨K2,B,b,rfl,hle,H,hb⟩;refine rX H ?_;refine rR 5 H ?_;clear H;intro z A' c' w z9 _ _ H;dsimp only [List.set] at H;refine rT 6 H ?_;refine rL 7 H ?_;clear H;intro w _ H;refine rE ?_;replace hK:=hle.trans hK;clear k9 h9;replace z6:=z6.sat hle;replace z7:=z7.sat hle;replace z8:=z8.sat hle;replace h10:=h10.sat hle;replace h11:=h11.sat hle;replace h12:=h12.sat hle;clear hb hle
 go_wp2_with fail
 refine rN [.box gd _ _,.box gx _ _] [7] H ?_;clear H;intro w H;refine rT 0 H ?_;refine rT 1 H ?_;refine rT 2 H ?_;refine rT 3 H ?_;refine rC 4 (k10 H h10) ?_;clear H;rintro e w ⟨K2,B,b,rfl,hle,H,hb⟩;refine rX H ?_;refine rR 5 H ?_;clear H;intro z A' c' w z10 _ _ H;dsimp only [List.set] at H;refine rT 6 H ?_;refine rL 7 H ?_;clear H;intro w _ H;refine rE ?_;replace hK:=hle.trans hK;clear k10 h10;replace z6:=z6.sat hle;replace z7:=z7.sat hle;replace z8:=z8.sat hle;replace z9:=z9.sat hle;replace h11:=h11.sat hle;replace h12:=h12.sat hle;clear hb hle
 go_wp2_with fail
 refine rN [.box gd _ _,.box gx _ _] [7] H ?_;clear H;intro w H;refine rT 0 H ?_;refine rT 1 H ?_;refine rT 2 H ?_;refine rT 3 H ?_;refine rC 4 (k11 H h11) ?_;clear H;rintro e w ⟨K2,B,b,rfl,hle,H,hb⟩;refine rX H ?_;refine rR 5 H ?_;clear H;intro z A' c' w z11 _ _ H;dsimp only [List.set] at H;refine rT 6 H ?_;refine rL 7 H ?_;clear H;intro w _ H;refine rE ?_;replace hK:=hle.trans hK;clear k11 h11;replace z6:=z6.sat hle;replace z7:=z7.sat hle;replace z8:=z8.sat hle;replace z9:=z9.sat hle;replace z10:=z10.sat hle;replace h12:=h12.sat hle;clear hb hle
 go_wp2_with fail
 refine rN [.box gd _ _,.box gx _ _] [7] H ?_;clear H;intro w H;refine rT 0 H ?_;refine rT 1 H ?_;refine rT 2 H ?_;refine rT 3 H ?_;refine rC 4 (k12 H h12) ?_;clear H;rintro e w ⟨K2,B,b,rfl,hle,H,hb⟩;refine rX H ?_;refine rR 5 H ?_;clear H;intro z A' c' w z12 _ _ H;dsimp only [List.set] at H;refine rT 6 H ?_;refine rL 7 H ?_;clear H;intro w _ H;refine rE ?_;replace hK:=hle.trans hK;clear k12 h12;replace z6:=z6.sat hle;replace z7:=z7.sat hle;replace z8:=z8.sat hle;replace z9:=z9.sat hle;replace z10:=z10.sat hle;replace z11:=z11.sat hle;clear hb hle
 go_wp2_with (first|(refine oL H ?_)|(refine oP H ?_;clear H;intro w _ H))
 refine oB H ?_;simp only [←Qae] at H ⊢;refine ⟨_,⟨_,_,_,_,.slice V14 d.places.length c14,_,_,_,_,_,_,_,_,_,_,_⟩,rfl,hK,H.fin,?_⟩;exact ⟨by dsimp only [y0z];rw [y2f];exact (r8.sat hK).app z8,by dsimp only [y0z];rw [y3e];exact (r11.sat hK).app z11,by dsimp only [y0z];rw [y3f];exact (r6.sat hK).app z6,by dsimp only [y0z];rw [y3f];exact (r10.sat hK).app z10,r14.sat hK,by dsimp only [y0z];rw [y3i];exact (r12.sat hK).app z12,by dsimp only [y0z];rw [y36];exact (r9.sat hK).app z9,by dsimp only [y0z];rw [y5c];exact (r7.sat hK).app z7⟩
end
def x2e (c:UInt8):Bool:=c==33||c==93
def refA (s:Txt):Nat:=(s.takeWhile (· ==91)).length
def refZ (s:Txt):Nat:=s.length - (s.reverse.takeWhile x2e).length
def refF (s:Txt):Txt×Txt:=((s.take (refZ s)).drop (refA s),s.drop (refZ s))
theorem z0x {α:Type} {p:α→Bool}: ∀(l:List α) (k:Nat),(k<(l.takeWhile p).length→ ∃x,l[k]?=some x∧p x=true)∧(k=(l.takeWhile p).length→ ∀x,l[k]?=some x→p x=false)
 |[],k=>⟨fun h=>by simp at h,fun h x hx=>by simp at hx⟩
 |y::r,k=>by
  by_cases hy:p y=true
  ·rw [List.takeWhile_cons_of_pos hy,List.length_cons]
   cases k with
   |zero=>exact ⟨fun _=>⟨y,rfl,hy⟩,fun h=>by omega⟩
   |succ k=>
    have ih:=z0x r k (p:=p);exact ⟨fun h=>by rw [List.getElem?_cons_succ];exact ih.1 (by omega),fun h=>by rw [List.getElem?_cons_succ];exact ih.2 (by omega)⟩
  ·rw [List.takeWhile_cons_of_neg hy]
   exact ⟨fun h=>by simp at h,fun h x hx=>by
    simp only [List.length_nil] at h;subst h;simp only [List.getElem?_cons_zero,Option.some.injEq] at hx
    subst hx;simpa using hy⟩
theorem x0c {α:Type} {p:α→Bool} (l:List α):(l.takeWhile p).length≤l.length:=(List.takeWhile_sublist p).length_le
instance sli27:Sli Tryz.prog 27 9 1 16:=⟨sli Tryz.underlying27 (z:=.string ⟨#[]⟩) (by kernel_rfl)⟩
section
variable {w0 w K : World} {M : List Ent}
theorem z2v (s:Txt) (hs:s.length≤1000000) (H:Hp w0 w K M):
  Calls Tryz.prog 121 #[.string (str s)] w fun e w'=>∃K' A c,e= .returned (.slice A (y1f s).length c)∧Sat K' K∧Hp w0 w' K' M∧RD K' (.list (y1f s).length (y03 (y1f s))) (.slice A (y1f s).length c):=by
 have hsz:=y2s s;go_enter Tryz.func121,Tryz.ntmps121
 go_wp2_with fail
 replace H:=H.nilRow 9 1
 go_loopw [3,4,5] (fun v f i wr=>∃(k:Nat) (A':Option Addr) (c':Nat) (vs:List Value),k≤s.length+1∧i= .int .i64 k∧f= .int .i64 (y0r s k).1∧v= .slice A' (y0r s k).2.length c'∧RL K (y03 (y0r s k).2) vs∧Hp w0 wr K (.row 9 1 (.slice A' (y0r s k).2.length c') (y0r s k).2.length vs::M)) (fun _ _ i _=>s.length+1 - (intOf i).toNat)
 case atStart=>exact ⟨0,none,0,[],Qak _,rfl,rfl,rfl,.nil (Qab _),H⟩
 case round=>
  clear H;obtain ⟨k,A',c',vs,hk,rfl,rfl,rfl,hvs,H⟩:=hrel;have hle:=y5n s k;by_cases hlt:k<s.length+1
  ·have hkI:(k:Int)≤(s.length:Int):=by omega
   have hwr:IntKind.i64.wrap ((k:Int)+1)=k+1:=IntWalk.i64_in _ (by omega);by_cases hin:k<s.length∧s[k]?≠some 32
   ·have E1:=hide (x2m hin);have h1:=hin.1
    have h1I:(k:Int)<(s.length:Int):=by omega
    have h2: ∀hq:k<(str s).size,((((str s)[k]'hq).toNat:Int) !=32)=true:=fun hq=>by
     rw [y4n h1 hq,Qa8];intro e;exact hin.2 (by rw [Qad h1];exact congrArg some (Qb2.1 (show _=32 by omega)))
    have h2:=h2 (by rw [hsz];exact h1);clear hin
    go_wp2_with fail
    go_roundw
    case rel=>exact ⟨k+1,A',c',vs,by omega,by go_num,by rw [E1.out],by rw [E1.out],by rw [E1.out];exact hvs,by rw [E1.out];exact H⟩
    case measure=>simp [intOf];omega
   ·have hg: ∀hq:k<(str s).size,((((str s)[k]'hq).toNat:Int) !=32)=false:=fun hq=>by
     have h1:k<s.length:=by rw [←hsz];exact hq
     have h3:s[k]?=some 32:=Qbl fun h=>hin ⟨h1,h⟩;rw [Qad h1] at h3;injection h3 with h3;have e:=(y4n h1 hq).trans h3;rw [e];rfl
    have HG:=hide hg
    have hks:k≤(str s).size:=by omega
    by_cases hf:(y0r s k).1<k
    ·have E1:=hide (z7z hin hf)
     have hfI:((y0r s k).1:Int)<(k:Int):=by omega
     have hfk:(y0r s k).1≤k:=by omega
     clear hin hg;rcases Qbm k s.length with h1|h1
     ·have h1I:(k:Int)<(s.length:Int):=by omega
      have h2:=HG.out (by rw [hsz];exact h1)
      go_wp2_with (first|(refine oL H ?_)|(refine oP H ?_;clear H;intro w _ H)|(refine oQ H ?_;clear H;intro A' c' w _ _ H;dsimp only [List.set] at H))
      go_roundw
      case rel=>exact ⟨k+1,_,_,_,by omega,by go_num,by rw [E1.out];rfl,by rw [E1.out,Qae];rfl,by rw [E1.out];exact z4f hvs,by rw [E1.out,Qae];rw [y29] at H;exact H.fin⟩
      case measure=>simp [intOf];omega
     ·have h1I: ¬((k:Int)<(s.length:Int)):=by omega
      go_wp2_with (first|(refine oL H ?_)|(refine oP H ?_;clear H;intro w _ H)|(refine oQ H ?_;clear H;intro A' c' w _ _ H;dsimp only [List.set] at H))
      go_roundw
      case rel=>exact ⟨k+1,_,_,_,by omega,by go_num,by rw [E1.out];rfl,by rw [E1.out,Qae];rfl,by rw [E1.out];exact z4f hvs,by rw [E1.out,Qae];rw [y29] at H;exact H.fin⟩
      case measure=>simp [intOf];omega
    ·have E1:=hide (z44 hin hf)
     have hfI: ¬(((y0r s k).1:Int)<(k:Int)):=by omega
     have hfk:(y0r s k).1≤k:=by omega
     clear hin hg;rcases Qbm k s.length with h1|h1
     ·have h1I:(k:Int)<(s.length:Int):=by omega
      have h2:=HG.out (by rw [hsz];exact h1)
      go_wp2_with fail
      go_roundw
      case rel=>exact ⟨k+1,A',c',vs,by omega,by go_num,by rw [E1.out];rfl,by rw [E1.out],by rw [E1.out];exact hvs,by rw [E1.out];exact H⟩
      case measure=>simp [intOf];omega
     ·have h1I: ¬((k:Int)<(s.length:Int)):=by omega
      go_wp2_with fail
      go_roundw
      case rel=>exact ⟨k+1,A',c',vs,by omega,by go_num,by rw [E1.out];rfl,by rw [E1.out],by rw [E1.out];exact hvs,by rw [E1.out];exact H⟩
      case measure=>simp [intOf];omega
  ·obtain rfl:k=s.length+1:=by omega
   have hkI: ¬(((s.length+1:Nat):Int)≤(s.length:Int)):=by omega
   go_wp2_with fail
   go_ret;obtain ⟨K2,hle2,H,hd⟩:=H.freezeRow hvs;exact ⟨K2,A',c',rfl,hle2,H,hd⟩
theorem z4w (s:Txt) (hs:s.length≤1000000) (hok:refA s<refZ s) (H:Hp w0 w K M):
  Calls Tryz.prog 125 #[.string (str s)] w fun e w'=>e= .returned (.agg #[.string (str (refF s).1),.string (str (refF s).2)])∧Hp w0 w' K M:=by
 have hsz:=y2s s;obtain ⟨a,ha⟩: ∃a,refA s=a:=⟨_,rfl⟩;obtain ⟨z,hz⟩: ∃z,refZ s=z:=⟨_,rfl⟩;obtain ⟨n,hn⟩: ∃n,s.length=n:=⟨_,rfl⟩
 have hzn:z≤n:=by rw [←hz,←hn];exact Nat.sub_le _ _
 have hF:refF s=((s.take z).drop a,s.drop z):=by rw [←ha,←hz];rfl
 rw [ha,hz] at hok;rw [hF]
 have h1: ∀k,k<a→ ∀hq:k<(str s).size,((((str s)[k]'hq).toNat:Int)==91)=true:=fun k hk hq=>by
  obtain ⟨x,hx,hp⟩:=(z0x s k (p:=(· ==91))).1 (by unfold refA at ha;omega);have hk2:k<s.length:=(Qac.1 hx).1;rw [Qad hk2] at hx;injection hx with hx;have e:=(y4n hk2 hq).trans hx;rw [e,eq_of_beq hp];rfl
 have h2: ∀hq:a<(str s).size,((((str s)[a]'hq).toNat:Int)==91)=false:=fun hq=>by
  have hk2:a<s.length:=by rw [←hsz];exact hq
  rw [y4n hk2 hq];have hp:=(z0x s a (p:=(· ==91))).2 (by unfold refA at ha;omega) _ (Qad hk2);rw [Qa3] at hp ⊢;exact fun e=>hp (Qb2.1 (show _=91 by omega))
 have hrev: ∀k,k<n→s.reverse[k]?=s[n - 1 - k]?:=fun k hk=>by rw [List.getElem?_reverse (by omega),hn]
 have h3: ∀k,z≤k→k<n→ ∀hq:k<(str s).size,((((str s)[k]'hq).toNat:Int)==33)=true∨(((((str s)[k]'hq).toNat:Int)==33)=false∧((((str s)[k]'hq).toNat:Int)==93)=true):=fun k hk hkn hq=>by
  have hl:=x0c (p:=x2e) s.reverse;rw [List.length_reverse] at hl;obtain ⟨x,hx,hp⟩:=(z0x s.reverse (n - 1 - k) (p:=x2e)).1 (by unfold refZ at hz;omega);rw [hrev _ (by omega),show n - 1 - (n - 1 - k)=k by omega] at hx
  have hk2:k<s.length:=by omega
  rw [Qad hk2] at hx;injection hx with hx;have e:=(y4n hk2 hq).trans hx;rw [e];unfold x2e at hp;rw [Bool.or_eq_true] at hp;rcases hp with hp|hp
  ·rw [eq_of_beq hp];exact .inl rfl
  ·rw [eq_of_beq hp];exact .inr ⟨rfl,rfl⟩
 have h4: ∀hq:z - 1<(str s).size,((((str s)[z - 1]'hq).toNat:Int)==33)=false∧((((str s)[z - 1]'hq).toNat:Int)==93)=false:=fun hq=>by
  have hl:=x0c (p:=x2e) s.reverse;rw [List.length_reverse] at hl
  have hk2:z - 1<s.length:=by omega
  have hp:=(z0x s.reverse (n - z) (p:=x2e)).2 (by unfold refZ at hz;omega) s[z - 1] (by rw [hrev _ (by omega),show n - 1 - (n - z)=z - 1 by omega];exact Qad hk2);rw [y4n hk2 hq];unfold x2e at hp;rw [Bool.or_eq_false_iff,Qa3,Qa3] at hp;exact ⟨Qa3.2 fun e=>hp.1 (Qb2.1 (show _=33 by omega)),Qa3.2 fun e=>hp.2 (Qb2.1 (show _=93 by omega))⟩
 rw [hn] at hs hsz;have S1:=hide h1;have S2:=hide h2;have S3:=hide h3;have S4:=hide h4;clear h1 h2 h3 h4 hrev ha hz hF;go_enter Tryz.func125,Tryz.ntmps125
 go_upto_region 2 with (first|(refine oL H ?_)|(refine oA 2 H ?_;clear H;intro w g2 H)|(refine oP H ?_;clear H;intro w _ H))
 go_loopw [3] (fun i wr=>∃k:Nat,k≤a∧i= .int .i64 k∧Hp w0 wr K (.box g2 [.string ⟨#[]⟩,.string ⟨#[]⟩] 50::M)) (fun i _=>a - (intOf i).toNat)
 case atStart=>exact ⟨0,Qak _,rfl,H⟩
 case round=>
  clear H;obtain ⟨k,hk,rfl,H⟩:=hrel
  have hkn:k<(str s).size:=by omega
  by_cases hlt:k<a
  ·have hb:=S1.out k hlt hkn;have hwr:IntKind.i64.wrap ((k:Int)+1)=k+1:=IntWalk.i64_in _ (by omega)
   go_wp2_with fail
   go_roundw
   case rel=>exact ⟨k+1,by omega,by go_num,H⟩
   case measure=>simp [intOf];omega
  ·obtain rfl:k=a:=by omega
   have hb:=S2.out hkn
   go_wp2_with fail
   go_loopw [4] (fun i wr=>∃t:Nat,z≤t∧t≤n∧i= .int .i64 t∧Hp w0 wr K (.box g2 [.string ⟨#[]⟩,.string ⟨#[]⟩] 50::M)) (fun i _=>(intOf i).toNat - z)
   case atStart=>exact ⟨n,hzn,Qab _,rfl,H⟩
   case round=>
    clear H hb;obtain ⟨t,hzt,htn,rfl,H⟩:=hrel
    have ht0:t - 1<(str s).size:=by omega
    have hwr:IntKind.i64.wrap ((t:Int) - 1)=((t - 1:Nat):Int):=by rw [IntWalk.i64_in _ (by omega)];omega
    by_cases hlt:z<t
    ·rcases S3.out (t - 1) (by omega) (by omega) ht0 with hb|⟨hb,hb2⟩
     ·go_wp2_with fail
      go_roundw
      case rel=>exact ⟨t - 1,by omega,by omega,by go_num,H⟩
      case measure=>simp [intOf];omega
     ·go_wp2_with fail
      go_roundw
      case rel=>exact ⟨t - 1,by omega,by omega,by go_num,H⟩
      case measure=>simp [intOf];omega
    ·obtain rfl:t=z:=by omega
     obtain ⟨hb,hb2⟩:=S4.out ht0
     go_wp2_with fail
     have hfk:k≤t:=by omega
     have hks:t≤(str s).size:=by omega
     have e1:=y29 s k t;have e2:=y29 s t (str s).size;refine rB [8] H ?_;clear H;intro w H;refine rT 0 H ?_;refine rT 1 H ?_;refine rT 2 H ?_;refine rT 3 H ?_;refine rT 4 H ?_;refine rT 5 H ?_;refine rT 6 H ?_;refine rT 7 H ?_;refine rL 8 H ?_;clear H;intro w _ H;refine rE ?_
     go_wp2_with fail
     refine oB H ?_;refine ⟨?_,H.fin⟩;rw [List.drop_take,←e1];rw [Qaj (by rw [Qav];omega)] at e2;rw [←e2,hsz]
theorem y46 (s:ByteArray) (A:Option Addr) (n c:Nat) (H:Hp w0 w K M):
  Calls Tryz.prog 122 #[.string s,.slice A n c] w fun e w'=>e= .returned (.agg #[.int .i64 3,.bool false,.bool false,.bool false,.string ⟨#[]⟩,.string s,.slice none 0 0,.slice none 0 0,.slice A n c,.slice none 0 0,.slice none 0 0,.slice none 0 0,.slice none 0 0,.bool false,.slice none 0 0,.int .i64 0,.int .i64 0])∧Hp w0 w' K M:=by
 go_enter Tryz.func122,Tryz.ntmps122
 go_wp2_with (first|(refine oL H ?_)|(refine oP H ?_;clear H;intro w _ H))
 refine oB H ?_;exact ⟨rfl,H.fin⟩
theorem y7a {l:List Txt} {n c k:Nat} {A:Option Addr} (h:RD K (.list n (y03 l)) (.slice A n c)) (hk:k<l.length): ∃ad x,A=some ad∧l[k]?=some x∧At K (ad.add k) [.string (str x)]:=by
 obtain ⟨ad,vs,h1,h2,_,_,h5,h6⟩:=y7u (m:=1) (f:=fun x=>[str' x]) (fun _=>rfl) (y9u l▸h) (Qad hk) (by omega);obtain ⟨r0,rfl,h0⟩:=h2.lit_inv;obtain rfl:=h0.nil_inv;rw [Nat.mul_one] at h5 h6;exact ⟨ad,_,h1,Qad hk,h5,h6⟩
theorem z6h (s:Txt) (hs:s.length≤1000000) (H:Hp w0 w K M) {l:List Txt} (hl:y1f s=l):
  Calls Tryz.prog 124 #[.string (str s)] w fun e w'=>∃K' A c,e= .returned (.slice A l.length c)∧Sat K' K∧Hp w0 w' K' M∧RD K' (.list l.length (y1c (l.map valD))) (.slice A l.length c):=by
 have hw:=(y5n s (s.length+1)).2;have hsp:=fun {w K M} (H:Hp w0 w K M)=>z2v s hs H;rw [show (y0r s (s.length+1)).2=y1f s from rfl,hl] at hw;rw [hl] at hsp;obtain ⟨n,hn⟩: ∃n,l.length=n:=⟨_,rfl⟩;rw [hn] at hw hsp ⊢;have HN:=hide hn;clear hn hl;go_enter Tryz.func124,Tryz.ntmps124
 go_upto_region 3 with (first|(refine oL H ?_)|(refine oP H ?_;clear H;intro w _ H)|((with_reducible refine (hsp H).mono ?_);clear H;rintro e w ⟨K1,A1,c1,rfl,hle1,H,hd⟩))
 clear hsp
 go_wp2_with fail
 replace H:=H.nilRow 133 7
 go_loopw [3,5] (fun v i wr=>∃(k:Nat) (A':Option Addr) (c':Nat) (vs:List Value),k≤n∧i= .int .i64 k∧v= .slice A' k c'∧RL K1 (y1c ((l.take k).map valD)) vs∧Hp w0 wr K1 (.row 133 7 (.slice A' k c') k vs::M)) (fun _ i _=>n - (intOf i).toNat)
 case atStart=>exact ⟨0,none,0,[],Qak _,rfl,rfl,.nil (Qab _),H⟩
 case round=>
  clear H;obtain ⟨k,A',c',vs,hk,rfl,rfl,hvs,H⟩:=hrel;by_cases hlt:k<n
  ·obtain ⟨ad,x,rfl,hx,hat⟩:=y7a hd (by rw [HN.out];exact hlt);obtain ⟨hkI,hwr⟩:=wr_k hlt (by omega);have HX:=hide (y0n hx);clear hx
   go_wp2_with (first|(refine oL H ?_)|(refine oP H ?_;clear H;intro w _ H)|(refine oQ H ?_;clear H;intro A' c' w _ _ H;dsimp only [List.set] at H))
   go_roundw
   case rel=>exact ⟨k+1,_,_,_,by omega,by go_num,rfl,by rw [HX.out,Qas,y3e];exact hvs.app (y7c (f:=y5p) (y8d RD.z)),H.fin⟩
   case measure=>simp [intOf];omega
  ·obtain rfl:k=n:=by omega
   rw [Qaj (by rw [HN.out];exact Qab _)] at hvs
   go_wp2_with fail
   go_ret;obtain ⟨K2,hle2,H,hd⟩:=H.freezeRow hvs;exact ⟨K2,A',c',rfl,hle2.trans hle1,H,hd⟩
theorem z1s (s:Txt) (hs:s.length≤1000000) (H:Hp w0 w K M) {l:List Txt} (hl:y1f s=l):
  Calls Tryz.prog 126 #[.string (str s)] w fun e w'=>∃K' A c,e= .returned (.slice A l.length c)∧Sat K' K∧Hp w0 w' K' M∧RD K' (.list l.length (y0t (l.map plD))) (.slice A l.length c):=by
 have hw:=(y5n s (s.length+1)).2;have hsp:=fun {w K M} (H:Hp w0 w K M)=>z2v s hs H;rw [show (y0r s (s.length+1)).2=y1f s from rfl,hl] at hw;rw [hl] at hsp;obtain ⟨n,hn⟩: ∃n,l.length=n:=⟨_,rfl⟩;rw [hn] at hw hsp ⊢;have HN:=hide hn;clear hn hl;go_enter Tryz.func126,Tryz.ntmps126
 go_upto_region 3 with (first|(refine oL H ?_)|(refine oP H ?_;clear H;intro w _ H)|((with_reducible refine (hsp H).mono ?_);clear H;rintro e w ⟨K1,A1,c1,rfl,hle1,H,hd⟩))
 clear hsp
 go_wp2_with fail
 replace H:=H.nilRow 113 3
 go_loopw [3,5] (fun v i wr=>∃(k:Nat) (A':Option Addr) (c':Nat) (vs:List Value),k≤n∧i= .int .i64 k∧v= .slice A' k c'∧RL K1 (y0t ((l.take k).map plD)) vs∧Hp w0 wr K1 (.row 113 3 (.slice A' k c') k vs::M)) (fun _ i _=>n - (intOf i).toNat)
 case atStart=>exact ⟨0,none,0,[],Qak _,rfl,rfl,.nil (Qab _),H⟩
 case round=>
  clear H;obtain ⟨k,A',c',vs,hk,rfl,rfl,hvs,H⟩:=hrel;by_cases hlt:k<n
  ·obtain ⟨ad,x,rfl,hx,hat⟩:=y7a hd (by rw [HN.out];exact hlt);obtain ⟨hkI,hwr⟩:=wr_k hlt (by omega);have HX:=hide (y0n hx);clear hx
   go_wp2_with (first|(refine oL H ?_)|(refine oP H ?_;clear H;intro w _ H)|(refine oQ H ?_;clear H;intro A' c' w _ _ H;dsimp only [List.set] at H))
   go_roundw
   case rel=>exact ⟨k+1,_,_,_,by omega,by go_num,rfl,by rw [HX.out,Qas,y3f];exact hvs.app (y7c (f:=y7p) (.lit (.lit (.lit (.nil (Qab _)))))),H.fin⟩
   case measure=>simp [intOf];omega
  ·obtain rfl:k=n:=by omega
   rw [Qaj (by rw [HN.out];exact Qab _)] at hvs
   go_wp2_with fail
   go_ret;obtain ⟨K2,hle2,H,hd⟩:=H.freezeRow hvs;exact ⟨K2,A',c',rfl,hle2.trans hle1,H,hd⟩
end
def argD (x:Txt):InputD:=⟨y2v,x,(y8m,[]),true,.mk 5 q41 false [] [] 0 0,[],0,0⟩
def wAt (s:Txt) (i:Nat):Txt:=(y1f s).getD i []
def z2l (s:Txt):FieldD:=⟨y2v,wAt s 0,if (y1f s).length=3 then [argD (wAt s 2)] else [],refF (wAt s 1),[],0,0⟩
structure LineOk (s:Txt):Prop where
 n:(y1f s).length=2∨(y1f s).length=3
 l:s.length≤1000000
 r:(wAt s 1).length≤1000000
 ok:refA (wAt s 1)<refZ (wAt s 1)
theorem w_at {s:Txt} {i:Nat} {x:Txt} (h:(y1f s)[i]?=some x):x=wAt s i:=by unfold wAt;rw [List.getD_eq_getElem?_getD,h];rfl
section
variable {w0 w K : World} {M : List Ent}
theorem x6v (H:Hp w0 w K M):Calls Tryz.prog 125 #[.string ⟨#[66,111,111,108,101,97,110]⟩] w fun e w'=>e= .returned (.agg #[.string ⟨#[66,111,111,108,101,97,110]⟩,.string ⟨#[]⟩])∧Hp w0 w' K M:=by
 have h:=z4w y8m (by decide) (by decide+kernel) H;rw [show refF y8m=(y8m,[]) by decide+kernel] at h;exact h
theorem y47 {L:List Txt} {n c:Nat} {A:Option Addr} (hok: ∀x∈L,LineOk x) (hL:L.length=n) (hn:n≤100000) (hd:RD K (.list n (y03 L)) (.slice A n c)) (H:Hp w0 w K M):
  Calls Tryz.prog 123 #[.slice A n c] w fun e w'=>∃K' A' c',e= .returned (.slice A' n c')∧Sat K' K∧Hp w0 w' K' M∧RD K' (.list n (y0s (L.map z2l))) (.slice A' n c'):=by
 have HN:=hide hL;have HOK:=hide hok;clear hL hok;go_enter Tryz.func123,Tryz.ntmps123
 go_wp2_with fail
 replace H:=H.nilRow 52 10
 go_loopw [3,4] (fun v i wr=>∃(K':World) (k:Nat) (A':Option Addr) (c':Nat) (vs:List Value),k≤n∧i= .int .i64 k∧v= .slice A' k c'∧Sat K' K∧RL K' (y0s ((L.take k).map z2l)) vs∧Hp w0 wr K' (.row 52 10 (.slice A' k c') k vs::M)) (fun _ i _=>n - (intOf i).toNat)
 case atStart=>exact ⟨K,0,none,0,[],Qak _,rfl,rfl,Sat.refl _,.nil (Qab _),H⟩
 case round=>
  clear H;obtain ⟨K',k,A',c',vs,hk,rfl,rfl,hle,hvs,H⟩:=hrel;replace hd:=hd.sat hle;by_cases hlt:k<n
  ·obtain ⟨ad,x,rfl,hx,hat⟩:=y7a hd (by rw [HN.out];exact hlt);obtain ⟨hkI,hwr⟩:=wr_k hlt (by omega);obtain ⟨hwn,hxl,hrl,hro⟩:=HOK.out x (Qaf hx);have HX:=hide (y0n hx);have hsp:=fun {w K M} (H:Hp w0 w K M)=>z2v x hxl H;have hrf:=fun {w K M} (H:Hp w0 w K M)=>z4w (wAt x 1) hrl hro H;clear hx hrl hro hd
   go_upto_region 6 with (first|(refine oL H ?_)|((with_reducible refine (hsp H).mono ?_);clear H;rintro e w ⟨K2,Aw,cw,rfl,hle2,H,hw⟩))
   clear hsp hat;rcases hwn with hm|hm
   ·rw [hm] at hw ⊢;obtain ⟨aw,y,rfl,hy,hat0⟩:=y7a hw (k:=0) (by omega);obtain rfl:=w_at hy;obtain ⟨aw2,y,e2,hy1,hat1⟩:=y7a hw (k:=1) (by omega);obtain rfl:=w_at hy1;injection e2 with e2;subst e2;clear hw hy hy1
    have hlx:z2l x=⟨y2v,wAt x 0,[],refF (wAt x 1),[],0,0⟩:=by unfold z2l;rw [hm,if_neg (by decide)]
    have HLX:=hide hlx;clear hlx hm;refine rB [9] H ?_;clear H;intro w H;refine rT 0 H ?_;refine rT 1 H ?_;refine rT 2 H ?_;refine rT 3 H ?_;refine rT 4 H ?_;refine rT 5 H ?_;refine r2 6 8 ?_ ?_
    ·refine aC (hrf H) ?_;clear H;rintro e w ⟨rfl,H⟩;refine rX H ?_;refine rT 7 H ?_;refine rW 8 H ?_;clear H;intro w g6 H;refine rL 9 H ?_;clear H;intro w _ H;refine rE ?_
     go_upto_region 10 with fail
     go_wp2_with (first|(refine oL H ?_)|(refine oP H ?_;clear H;intro w _ H)|(refine oQ H ?_;clear H;intro A' c' w _ _ H;dsimp only [List.set] at H))
     have hpe:=y37 (nh:=false) (nb:=false) (nt:=[]) (dn:=wAt x 0) (tn:=(refF (wAt x 1)).1) (tw:=(refF (wAt x 1)).2) (args:=[]) (dirs:=[]) (dl:=0) (dc:=0) (RD.z (K:=K2)) RD.z;go_roundw
     case rel=>exact ⟨K2,k+1,_,_,_,by omega,by go_num,rfl,hle2.trans hle,by rw [HX.out,Qas,y2f,List.map_singleton,HLX.out];exact (hvs.sat hle2).app (y7c (f:=y07) hpe),H.fin⟩
     case measure=>simp [intOf];omega
    ·refine aW H ?_;clear H;intro w g6 H;refine rC 6 (hrf H) ?_;clear H;rintro e w ⟨rfl,H⟩;refine rX H ?_;refine rT 7 H ?_;refine rL 9 H ?_;clear H;intro w _ H;refine rE ?_
     go_upto_region 10 with fail
     go_wp2_with (first|(refine oL H ?_)|(refine oP H ?_;clear H;intro w _ H)|(refine oQ H ?_;clear H;intro A' c' w _ _ H;dsimp only [List.set] at H))
     have hpe:=y37 (nh:=false) (nb:=false) (nt:=[]) (dn:=wAt x 0) (tn:=(refF (wAt x 1)).1) (tw:=(refF (wAt x 1)).2) (args:=[]) (dirs:=[]) (dl:=0) (dc:=0) (RD.z (K:=K2)) RD.z;go_roundw
     case rel=>exact ⟨K2,k+1,_,_,_,by omega,by go_num,rfl,hle2.trans hle,by rw [HX.out,Qas,y2f,List.map_singleton,HLX.out];exact (hvs.sat hle2).app (y7c (f:=y07) hpe),H.fin⟩
     case measure=>simp [intOf];omega
   ·rw [hm] at hw ⊢;obtain ⟨aw,y,rfl,hy,hat0⟩:=y7a hw (k:=0) (by omega);obtain rfl:=w_at hy;obtain ⟨aw2,y,e2,hy1,hat1⟩:=y7a hw (k:=1) (by omega);obtain rfl:=w_at hy1;injection e2 with e2;subst e2;obtain ⟨aw2,y,e2,hy2,hat2⟩:=y7a hw (k:=2) (by omega);obtain rfl:=w_at hy2;injection e2 with e2;subst e2;clear hw hy hy1 hy2
    have hlx:z2l x=⟨y2v,wAt x 0,[argD (wAt x 2)],refF (wAt x 1),[],0,0⟩:=by unfold z2l;rw [hm,if_pos rfl]
    have HLX:=hide hlx;have hrb:=fun {w K M} (H:Hp w0 w K M)=>x6v H;clear hlx hm;refine rB [9] H ?_;clear H;intro w H;refine rT 0 H ?_;refine rT 1 H ?_;refine rT 2 H ?_;refine rT 3 H ?_;refine rT 4 H ?_;refine rT 5 H ?_;refine r2 6 8 ?_ ?_
    ·refine aC (hrf H) ?_;clear H;rintro e w ⟨rfl,H⟩;refine rX H ?_;refine rT 7 H ?_;refine rW 8 H ?_;clear H;intro w g6 H;refine rL 9 H ?_;clear H;intro w _ H;refine rE ?_
     go_upto_region 9 with (first|(refine oL H ?_)|(refine oA 7 H ?_;clear H;intro w g7 H)|(refine oP H ?_;clear H;intro w _ H))
     refine rN [.box g7 _ _,.box g6 _ _] [8] H ?_;clear H;intro w H;refine rT 0 H ?_;refine rT 1 H ?_;refine rT 2 H ?_;refine rT 4 H ?_;refine rC 3 (hrb H) ?_;clear H;rintro e w ⟨rfl,H⟩;refine rX H ?_;refine rT 5 H ?_;refine rW 6 H ?_;clear H;intro w gs H;refine rT 7 H ?_;refine rL 8 H ?_;clear H;intro w _ H;refine rE ?_
     go_wp2_with (first|(refine oL H ?_)|(refine oP H ?_;clear H;intro w _ H)|(refine oQ H ?_;clear H;intro A' c' w _ _ H;dsimp only [List.set] at H))
     replace H:Hp _ _ _ (.box gs _ _:: .row 52 10 _ _ _::M):=H.fin;obtain ⟨K3,hle3,H,hda⟩:=H.freezeBox (n:=1) (ls:=y0k [argD (wAt x 2)]) (by unfold argD;exact .lit (.lit (.lit (.lit (.lit (.lit (.lit (.lit (.lit (.lit (.cons RD.z (.cons RD.z (.lit (.lit (.cons RD.z (.lit (.lit RL.z))))))))))))))))) (by simp [maxLen]);have hpe:=y37 (nh:=false) (nb:=false) (nt:=[]) (dn:=wAt x 0) (tn:=(refF (wAt x 1)).1) (tw:=(refF (wAt x 1)).2) (args:=[argD (wAt x 2)]) (dirs:=[]) (dl:=0) (dc:=0) hda RD.z;go_roundw
     case rel=>exact ⟨K3,k+1,_,_,_,by omega,by go_num,rfl,hle3.trans (hle2.trans hle),by rw [HX.out,Qas,y2f,List.map_singleton,HLX.out];exact (hvs.sat (hle3.trans hle2)).app (y7c (f:=y07) hpe),H⟩
     case measure=>simp [intOf];omega
    ·refine aW H ?_;clear H;intro w g6 H;refine rC 6 (hrf H) ?_;clear H;rintro e w ⟨rfl,H⟩;refine rX H ?_;refine rT 7 H ?_;refine rL 9 H ?_;clear H;intro w _ H;refine rE ?_
     go_upto_region 9 with (first|(refine oL H ?_)|(refine oA 7 H ?_;clear H;intro w g7 H)|(refine oP H ?_;clear H;intro w _ H))
     refine rN [.box g7 _ _,.box g6 _ _] [8] H ?_;clear H;intro w H;refine rT 0 H ?_;refine rT 1 H ?_;refine rT 2 H ?_;refine rT 4 H ?_;refine rC 3 (hrb H) ?_;clear H;rintro e w ⟨rfl,H⟩;refine rX H ?_;refine rT 5 H ?_;refine rW 6 H ?_;clear H;intro w gs H;refine rT 7 H ?_;refine rL 8 H ?_;clear H;intro w _ H;refine rE ?_
     go_wp2_with (first|(refine oL H ?_)|(refine oP H ?_;clear H;intro w _ H)|(refine oQ H ?_;clear H;intro A' c' w _ _ H;dsimp only [List.set] at H))
     replace H:Hp _ _ _ (.box gs _ _:: .row 52 10 _ _ _::M):=H.fin;obtain ⟨K3,hle3,H,hda⟩:=H.freezeBox (n:=1) (ls:=y0k [argD (wAt x 2)]) (by unfold argD;exact .lit (.lit (.lit (.lit (.lit (.lit (.lit (.lit (.lit (.lit (.cons RD.z (.cons RD.z (.lit (.lit (.cons RD.z (.lit (.lit RL.z))))))))))))))))) (by simp [maxLen]);have hpe:=y37 (nh:=false) (nb:=false) (nt:=[]) (dn:=wAt x 0) (tn:=(refF (wAt x 1)).1) (tw:=(refF (wAt x 1)).2) (args:=[argD (wAt x 2)]) (dirs:=[]) (dl:=0) (dc:=0) hda RD.z;go_roundw
     case rel=>exact ⟨K3,k+1,_,_,_,by omega,by go_num,rfl,hle3.trans (hle2.trans hle),by rw [HX.out,Qas,y2f,List.map_singleton,HLX.out];exact (hvs.sat (hle3.trans hle2)).app (y7c (f:=y07) hpe),H⟩
     case measure=>simp [intOf];omega
  ·obtain rfl:k=n:=by omega
   rw [Qaj (by rw [HN.out];exact Qab _)] at hvs
   go_wp2_with fail
   go_ret;obtain ⟨K2,hle2,H,hd⟩:=H.freezeRow hvs;exact ⟨K2,A',c',rfl,hle2.trans hle,H,hd⟩
end
end Go.Proofs.YtbpgkkoeehopjaaGreat.hp
