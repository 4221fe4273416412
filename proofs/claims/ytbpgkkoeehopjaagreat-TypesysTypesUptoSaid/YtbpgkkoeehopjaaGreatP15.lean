/- Part 15 of 17 of a proof: see the last part. -/
import Derived.Test.YtbpgkkoeehopjaaGreatP7
import Derived.Test.YtbpgkkoeehopjaaGreatP11
import Derived.Test.YtbpgkkoeehopjaaGreatP12
import Derived.Test.YtbpgkkoeehopjaaGreatP14
import Derived.Shelf.SlSortCmp.Whole1
import Derived.KernelRfl
import Derived.Shelf.SlSortCmp.NoneTotal
import Derived.Deep.QuietTactic
import Derived.BigQuiet
set_option linter.unusedVariables false
set_option linter.unusedSimpArgs false
namespace Go.Proofs
open Go.Shelf
def Tryz.laysSlF6_f67_ren:Go.Shelf.Ren:=⟨fun|6=>67|15=>118|14=>117|28=>163|29=>164|20=>155|21=>156|22=>157|23=>158|24=>159|25=>160|26=>161|27=>162|46=>181|47=>182|48=>183|49=>184|50=>185|57=>199|n=>n,fun|22=>27|24=>9|25=>104|3=>3|39=>168|0=>0|53=>216|55=>218|4=>4|46=>210|45=>209|50=>93|5=>5|9=>9|66=>236|70=>240|76=>249|77=>250|n=>n,fun|n=>n⟩
theorem Tryz.laysSlF6_f67:Go.Proofs.SlLaysF.n6 Tryz.prog Tryz.laysSlF6_f67_ren:={
 mixed:=by kernel_rfl
 f6:=⟨Tryz.f67.name,by decide,Tryz.func67.trans (congrArg some (by kernel_rfl))⟩
 f14:=⟨Tryz.f117.name,by decide,Tryz.func117.trans (congrArg some (by kernel_rfl))⟩
 f15:=Tryz.func118.trans (congrArg some (by kernel_rfl))
 f20:=⟨Tryz.f155.name,by decide,Tryz.func155.trans (congrArg some (by kernel_rfl))⟩
 f21:=⟨Tryz.f156.name,by decide,Tryz.func156.trans (congrArg some (by kernel_rfl))⟩
 f22:=⟨Tryz.f157.name,by decide,Tryz.func157.trans (congrArg some (by kernel_rfl))⟩
 f23:=⟨Tryz.f158.name,by decide,Tryz.func158.trans (congrArg some (by kernel_rfl))⟩
 f24:=⟨Tryz.f159.name,by decide,Tryz.func159.trans (congrArg some (by kernel_rfl))⟩
 f25:=⟨Tryz.f160.name,by decide,Tryz.func160.trans (congrArg some (by kernel_rfl))⟩
 f26:=⟨Tryz.f161.name,by decide,Tryz.func161.trans (congrArg some (by kernel_rfl))⟩
 f27:=⟨Tryz.f162.name,by decide,Tryz.func162.trans (congrArg some (by kernel_rfl))⟩
 f28:=Tryz.func163.trans (congrArg some (by kernel_rfl))
 f29:=Tryz.func164.trans (congrArg some (by kernel_rfl))
 f46:=⟨Tryz.f181.name,by decide,Tryz.func181.trans (congrArg some (by kernel_rfl))⟩
 f47:=Tryz.func182.trans (congrArg some (by kernel_rfl))
 f48:=Tryz.func183.trans (congrArg some (by kernel_rfl))
 f49:=⟨Tryz.f184.name,by decide,Tryz.func184.trans (congrArg some (by kernel_rfl))⟩
 f50:=⟨Tryz.f185.name,by decide,Tryz.func185.trans (congrArg some (by kernel_rfl))⟩
 f57:=⟨Tryz.f199.name,by decide,Tryz.func199.trans (congrArg some (by kernel_rfl))⟩
 t0:=Tryz.underlying0
 a0:=Tryz.isAgg0
 z0:=Tryz.sizeOf0
 v0:=Tryz.zeroValue0
 t3:=Tryz.underlying3
 a3:=Tryz.isAgg3
 z3:=Tryz.sizeOf3
 v3:=Tryz.zeroValue3
 t4:=Tryz.underlying4
 a4:=Tryz.isAgg4
 z4:=Tryz.sizeOf4
 v4:=Tryz.zeroValue4
 t5:=Tryz.underlying5
 a5:=Tryz.isAgg5
 z5:=Tryz.sizeOf5
 v5:=Tryz.zeroValue5
 t9:=Tryz.underlying9
 a9:=Tryz.isAgg9
 z9:=Tryz.sizeOf9
 v9:=Tryz.zeroValue9
 t22:=Tryz.underlying27
 a22:=Tryz.isAgg27
 z22:=Tryz.sizeOf27
 v22:=Tryz.zeroValue27
 a24:=Tryz.isAgg9
 z24:=Tryz.sizeOf9
 t25:=Tryz.underlying104
 a25:=Tryz.isAgg104
 z25:=Tryz.sizeOf104
 v25:=Tryz.zeroValue104
 t39:=Tryz.underlying168
 a39:=Tryz.isAgg168
 z39:=Tryz.sizeOf168
 v39:=Tryz.zeroValue168
 t45:=Tryz.underlying209
 a45:=Tryz.isAgg209
 z45:=Tryz.sizeOf209
 v45:=Tryz.zeroValue209
 t46:=Tryz.underlying210
 a46:=Tryz.isAgg210
 z46:=Tryz.sizeOf210
 v46:=Tryz.zeroValue210
 t50:=Tryz.underlying93
 a50:=Tryz.isAgg93
 z50:=Tryz.sizeOf93
 v50:=Tryz.zeroValue93
 t53:=Tryz.underlying216
 a53:=Tryz.isAgg216
 z53:=Tryz.sizeOf216
 v53:=Tryz.zeroValue216
 t55:=Tryz.underlying218
 a55:=Tryz.isAgg218
 z55:=Tryz.sizeOf218
 v55:=Tryz.zeroValue218
 t66:=Tryz.underlying236
 a66:=Tryz.isAgg236
 z66:=Tryz.sizeOf236
 v66:=Tryz.zeroValue236
 t70:=Tryz.underlying240
 a70:=Tryz.isAgg240
 z70:=Tryz.sizeOf240
 v70:=Tryz.zeroValue240
 t76:=Tryz.underlying249
 a76:=Tryz.isAgg249
 z76:=Tryz.sizeOf249
 v76:=Tryz.zeroValue249
 t77:=Tryz.underlying250
 a77:=Tryz.isAgg250
 z77:=Tryz.sizeOf250
 v77:=Tryz.zeroValue250}
open Go.RowKit Go.Lib Go.Sort in
theorem Tryz.slices_SortFunc {α:Type} [Inhabited α] (enc:α→Value) (h1:OneCell enc) (cf:α→α→Int) (hO:SWO (ltOf cf)) (g:Nat) (cb:Array Value) (blk off cap:Nat) (d:Array α) (w:World) (eg: ∀args w,(callFunc g args).run Tryz.prog w= .ok (.enter g args) w) (hcmp:CmpLays1 Tryz.prog g cb enc cf blk off d.size w) (hH:Holds enc w blk off d) (hblk:blk<w.heap.size) (hsz:d.size<4611686018427387904):
  Calls Tryz.prog 67 #[.slice (some ⟨blk,off,none⟩) d.size cap,.func (.func g) #[] cb] w fun e w'=>
   e= .returned (.tuple #[])∧ ∃d' n os,PermIn 0 d.size d d'∧SortedIn (ltOf cf) 0 d.size d'∧w'=sortWorld enc w blk off n d' os:=Any.slices_SortFunc Tryz.laysSlF6_f67 enc h1 cf hO g cb blk off cap d w eg hcmp hH hblk hsz
end Go.Proofs
namespace Go.Proofs.YtbpgkkoeehopjaaGreat.hp
open Go.RowKit words enc tree gram lex rd dec dat held ty
section
variable {w0 w K : World} {M : List Ent} {enc : Txt → Value}
theorem x3d (w:World) (os:Array Obj) {k:Nat} (h:k<w.heap.size):(Go.Sort.grow w os).heap[k]?=w.heap[k]?:=by
 show (w.heap++os)[k]?=_
 rw [Array.getElem?_append_left h]
theorem x3e (w:World) (blk off n:Nat) (d:Array Txt) (os:Array Obj) {k:Nat} (h:k<w.heap.size) (hb:k≠blk):(sortWorld enc w blk off n d os).heap[k]?=w.heap[k]?:=by
 unfold sortWorld;rw [x3d _ _ (by simpa using h)]
 show ((w.heap).modify blk _)[k]?=_
 rw [Array.getElem?_modify,if_neg (Ne.symm hb)]
theorem z9g (w:World) (blk off n:Nat) (d:Array Txt) (os:Array Obj):w.heap.size≤(sortWorld enc w blk off n d os).heap.size:=by
 unfold sortWorld
 show _≤((Go.Sort.putRow enc (Go.Sort.ahead w n) blk off d).heap++os).size
 rw [Array.size_append];have:=Go.Sort.size_putRow enc (Go.Sort.ahead w n) blk off d;have h2:(Go.Sort.ahead w n).heap.size=w.heap.size:=rfl;omega
theorem x5y (w:World) (blk off n:Nat) (d:Array Txt) (os:Array Obj):w.grownBy (sortWorld enc w blk off n d os) (some blk):=
 ⟨rfl,rfl,rfl,z9g w blk off n d os,fun k hk hne=>x3e w blk off n d os hk (fun e=>hne (by rw [e]))⟩
theorem q23 (d:Array Txt) (cur:Array Value) (h:d.size≤cur.size):(Go.Sort.putCells enc 0 d cur).toList.take d.size=d.toList.map enc:=by
 apply Qbz;intro j;rw [Qbb,Qb0,Array.getElem?_toList,Array.getElem?_toList];unfold Go.Sort.putCells;split
 ·rename_i hj;have hj:j<d.size:=hj
  have hj2:j<cur.size:=by omega
  rw [Array.getElem?_mapIdx,Qbq hj2,Qbq hj];simp only [Option.map_some,Qak,Nat.zero_add,hj,and_self,if_true,Nat.sub_zero];rw [getElem!_pos d j hj]
 ·rename_i hj;have hj: ¬j<d.size:=hj;rw [Array.getElem?_eq_none (by omega)];rfl
theorem Hp.sorted {m c blk:Nat} {vs:List Value} (H:Hp w0 w K (.row 9 1 (.slice (some ⟨blk,0,none⟩) m c) m vs::M)) (n:Nat) (d:Array Txt) (os:Array Obj) (hd:d.size=m):
  Hp w0 (sortWorld enc w blk 0 n d os) K (.row 9 1 (.slice (some ⟨blk,0,none⟩) m c) m (d.toList.map enc)::M):=by
 have ho:w.ownsRow 0 9 1 (.slice (some ⟨blk,0,none⟩) m c) m vs:=H.ok _ (Qaz ..);refine H.setAt (i:=0) rfl (x5y w blk 0 n d os) ?_ (.inl rfl);rcases ho.2 with ⟨h,_⟩|⟨g',c',cur,he,hb0,hb,h1,h2,h3,h4⟩
 ·cases h
 ·injection he with e1 _ e3;injection e1 with e1;injection e1 with e1;subst e1 e3;have hlt:=(Qan.1 hb).1;refine ⟨by rw [Qay,Array.length_toList,hd,Nat.mul_one],.inr ⟨blk,c,Go.Sort.putCells enc 0 d cur,rfl,hb0,?_,h1,h2,?_,?_⟩⟩
  ·unfold sortWorld;rw [x3d _ _ (by simpa using hlt)]
   show ((w.heap).modify blk _)[blk]?=_
   rw [Array.getElem?_modify,if_pos rfl,hb];rfl
  ·unfold Go.Sort.putCells;simpa using h3
  ·rw [Nat.mul_one,←hd];exact q23 d cur (by rw [h3];omega)
theorem q5r (f:Txt→Int):Go.Sort.SWO (ltOf fun x y=>f x - f y):=by
 refine ⟨fun x=>?_,fun x y z h1 h2=>?_,fun x y z h1 h2=>?_⟩
 ·simp [ltOf]
 ·simp only [ltOf,decide_eq_true_eq] at*;omega
 ·simp only [ltOf,decide_eq_false_iff_not] at*;omega
theorem q5s {m c blk g:Nat} {cb:Array Value} {l:List Txt} (f:Txt→Int) (H:Hp w0 w K (.row 9 1 (.slice (some ⟨blk,0,none⟩) m c) m (l.map ks)::M)) (hl:l.length=m) (hm:m≤20000000)
  (eg: ∀args w,(callFunc g args).run Tryz.prog w= .ok (.enter g args) w)
  (hcmp: ∀W,W.heap.size≥w.heap.size→(∀k,k<w.heap.size→k≠blk→W.heap[k]?=w.heap[k]?)→ ∀x y:Txt,Calls Tryz.prog g (#[ks x,ks y]++cb) W fun e w'=>e= .returned (.int .i64 (f x - f y))∧w'=W):
  Calls Tryz.prog 67 #[.slice (some ⟨blk,0,none⟩) m c,.func (.func g) #[] cb] w fun e w'=>e= .returned (.tuple #[])∧ ∃l':List Txt,l'.Perm l∧l'.Pairwise (fun a b=>f a≤f b)∧Hp w0 w' K (.row 9 1 (.slice (some ⟨blk,0,none⟩) m c) m (l'.map ks)::M):=by
 have hds:l.toArray.size=m:=by simpa using hl
 have hblk:blk<w.heap.size:=H.lt (i:=0) rfl rfl
 have hH:Go.Sort.Holds ks w blk 0 l.toArray:=by
  intro j hj;rw [hds] at hj
  have hjl:j<l.length:=by omega
  rw [Nat.zero_add];refine ⟨H.rowCell (i:=0) rfl ?_,H.rowFrozen (i:=0) rfl j⟩;rw [Qb0,Qad hjl,getElem!_pos l.toArray j (by simpa using hjl)];rfl
 have hc:CmpLays1 Tryz.prog g cb ks (fun x y=>f x - f y) blk 0 l.toArray.size w:=by
  intro n os dk hdk x y;refine (hcmp (sortWorld ks w blk 0 n dk os) (z9g ..) (fun k hk hb=>x3e w blk 0 n dk os hk hb) x y).mono ?_;rintro e w' ⟨he,rfl⟩;exact ⟨he,0, #[],by simp [Go.Sort.grow_empty,World.drewN]⟩
 have h:=Tryz.slices_SortFunc ks (fun _=>rfl) (fun x y=>f x - f y) (q5r f) g cb blk 0 c l.toArray w eg hc hH hblk (by rw [hds];omega);rw [hds] at h;refine h.mono ?_;rintro e w' ⟨he,d',n,os,hp,hs,rfl⟩;have hd':d'.size=m:=hp.1.trans hds
 have hperm:d'.toList.Perm l:=by
  have:=hp.2.2
  have e1:(d'.extract 0 m).toList=d'.toList:=by rw [←hd',Array.extract_size]
  have e2:(l.toArray.extract 0 m).toList=l:=by rw [←hds,Array.extract_size]
  rw [e1,e2] at this;exact this
 refine ⟨he,d'.toList,hperm,?_,H.sorted n d' os hd'⟩;rw [List.pairwise_iff_getElem];intro i j hi hj hij
 have hi':i<d'.size:=by simpa using hi
 have hj':j<d'.size:=by simpa using hj
 have:=hs i j (Qak _) hij (by omega);simp only [ltOf,decide_eq_false_iff_not] at this;rw [getElem!_pos d' j hj',getElem!_pos d' i hi'] at this;simp only [Array.getElem_toList];omega
theorem z9h (v:Value) (c:Nat) (p:Option Addr) (w:World):Calls Tryz.prog 67 #[.slice p 0 c,v] w fun e w'=>e= .returned (.tuple #[])∧w'=w:=
 AnyF.slices_SortFunc_none {Tryz.laysSlF6_f67 with} p c v w
end
set_option maxRecDepth 100000
attribute [local go_sem ↓] Go.wp_at_zero Go.wp_at_succ
theorem z7a {K:World}: ∀l:List Txt,RL K (y0p l) (l.map ks)
 |[]=>RL.z
 |x::r=>.lit (z7a r)
def y8f (S:List (Txt×Value)) (k:Nat):Txt:=((S[k]?).map (·.1)).getD []
theorem x5z (S:List (Txt×Value)):(List.range S.length).map (y8f S)=S.map (·.1):=by
 apply Qbz;intro j;rw [Qb0,Qb0];rcases Qbm j S.length with h|h
 ·rw [List.getElem?_range h,Qad h];simp [y8f,Qad h]
 ·rw [Qbg (by simpa using h),Qbg h];rfl
theorem x91 {n:Nat} {s:Array Nat} (h:SeenOk n s) (hall: ∀k,k<n→k∈s):s.toList.Perm (List.range n):=
 (List.perm_ext_iff_of_nodup h.1 List.nodup_range).2 fun k=>by
   rw [List.mem_range];exact ⟨fun hk=>h.2 k hk,fun hk=>by simpa using hall k hk⟩
def numV (q:Txt×Value):Nat:=match q.2 with| .int _ n=>n.toNat|_=>0
theorem q5t {f:Nat→Option Txt} {s:List (Txt×Value)} {B:Nat} (h:SOk f s) (hB: ∀n x,f n=some x→n<B):s.length≤B:=by
 have hk:List.Pairwise (fun q q':Txt×Value=>q.1≠q'.1) s:=by
  have:=h.1;unfold List.Nodup at this;rw [List.pairwise_map] at this;exact this
 have hn:(s.map numV).Nodup:=by
  unfold List.Nodup;rw [List.pairwise_map];refine List.Pairwise.imp_of_mem (fun {q q'} hq hq' hne he=>?_) hk;obtain ⟨n,h1,h2⟩:=h.2 q hq;obtain ⟨n',h1',h2'⟩:=h.2 q' hq';simp only [numV,h1,h1',Int.toNat_natCast] at he;subst he;rw [h2] at h2';injection h2' with h2';exact hne h2'
 have:=z69 B (s.map numV) hn (fun x hx=>by
  obtain ⟨q,hq,rfl⟩:=Qbe.1 hx;obtain ⟨n,h1,h2⟩:=h.2 q hq;simp only [numV,h1,Int.toNat_natCast]
  exact hB n _ h2)
 simpa using this
theorem x50 {n:Nat} (h:n=0) (v:Value) (c:Nat) (p:Option Addr) (w:World):Calls Tryz.prog 67 #[.slice p n c,v] w fun e w'=>e= .returned (.tuple #[])∧w'=w:=by
 subst h;exact z9h v c p w
theorem q5u (f:Txt→Int) (mv:Value) (gb:Nat) (W:World) (hc:W.cell? ⟨gb,0,none⟩=some mv) (hl: ∀x,(Instr.lookup 87 mv (.string (str x)) false).run Tryz.prog W= .ok (.int .i64 (f x)) W) (hf: ∀x,0≤f x∧f x≤20000000) (x y:Txt):
  Calls Tryz.prog 68 #[ks x,ks y,.pointer (some ⟨gb,0,none⟩)] W fun e w'=>e= .returned (.int .i64 (f x - f y))∧w'=W:=by
 have hx:=hl x;have hy:=hl y;have bx:=hf x;have hby:=hf y
 have hw:IntKind.i64.wrap (f x - f y)=f x - f y:=by simp [IntKind.wrap,IntKind.bits,IntKind.signed];omega
 go_enter Tryz.func68,Tryz.ntmps68
 go_wp2_with (first
  |((with_reducible show wpList _ _ _ (_::_) _ _);refine z1b (by rfl) (.tmp 6) (.tmp 7) 87 false (by rfl) (by first|rfl|simp [Act.eval,Act.put]) (by first|rfl|simp [Act.eval,Act.put]) hx ?_)
  |((with_reducible show wpList _ _ _ (_::_) _ _);refine z1b (by rfl) (.tmp 9) (.tmp 10) 87 false (by rfl) (by first|rfl|simp [Act.eval,Act.put]) (by first|rfl|simp [Act.eval,Act.put]) hy ?_))
 go_ret;exact ⟨by first|rfl|(rw [hw];rfl)|simp [hw],rfl⟩
def PosP (D:TysD) (x:Txt) (w0 K:World) (M:List Ent) (e:Ending) (w':World):Prop:=
 ∃K' l v,e= .returned v∧Sat K' K∧Hp w0 w' K' M∧RD K' (.list l.length (y0p l)) v∧l.Perm ((y6q D.objects x).map (·.1))∧l.Pairwise (fun a b=>z65 (y6q D.objects x) a≤z65 (y6q D.objects x) b)
set_option maxHeartbeats 16000000 in
theorem x51 (v:Value) (x:Txt) (D:TysD) (w0 w K:World) (M:List Ent) (H:Hp w0 w K M) (hv:Tp K v D) (hW:TyW D):
  Calls Tryz.prog 27 #[v,.string (str x)] w (PosP D x w0 K M):=by
 have hK:=Sat.refl K;obtain ⟨k0,hk0,k0z,k0s,k0b⟩:=info_parts z23;have hSO:=q2m hW.o x
 have hfb: ∀y,0≤z65 (y6q D.objects x) y∧z65 (y6q D.objects x) y≤20000000:=by
  intro y;have hN:=hW.nT;unfold z65;rcases x25 hSO y with ⟨h,_⟩|⟨n,h,hn,_⟩
  ·rw [h];exact ⟨by simp,by simp⟩
  ·rw [h];have:=x9k hn;exact ⟨by simp,by simp only;omega⟩
 have hnv:=x9i hSO;have hSL:(y6q D.objects x).length≤3002000:=q5t hSO (fun n y hy=>Qap (x9k hy) hW.nT);obtain ⟨S,hS0⟩: ∃S,y6q D.objects x=S:=⟨_,rfl⟩;have HS:=hide hS0;rw [hS0] at hfb hnv hSL;clear hSO;go_enter Tryz.func27,Tryz.ntmps27
 go_upto_region 1 with (fail)
 have h1:=fun OB go w ho=>y05 (P:=Tryz.prog) (w:=w) (t:=89) (kt:=9) (et:=87) (l:=y1v OB) (b:=go) Tryz.underlying89 (y1e Tryz.underlying9) (.map none) (z0e w) ho x false
 have hmv: ∀(K5:World) (ga gd gf go:Nat) (sch:List Value) (VT VD:Value) (OB:List (Txt×Nat×List (Txt×Value))) (g9:Nat),Tys K5 g9 D ga gd gf go sch VT VD OB→ ∃mv,(∀w,Km w go (y0y ks (y1v OB))→(Instr.lookup 89 (.map (some go)) (.string (str x)) false).run Tryz.prog w= .ok mv w)∧((mv= .map none∧S=[])∨ ∃b,mv= .map (some b)∧Km K5 b (y0y ks S)):=by
  intro K5 ga gd gf go sch VT VD OB g9 T;rcases oset x OB with ⟨hf,hS⟩|⟨p,hp,hf,hS⟩
  ·exact ⟨.map none,fun w ho=>by rw [h1 OB go w ho,hf];rfl,.inl ⟨rfl,by rw [←HS.out,T.om,hS]⟩⟩
  ·exact ⟨.map (some p.2.1),fun w ho=>by rw [h1 OB go w ho,hf];rfl,.inr ⟨_,rfl,by rw [←HS.out,T.om,hS];exact T.sets p hp⟩⟩
 clear h1
 go_upto_region 3 with (first
  |(go_at_call 64;refine (z4n _ D _ _ K _ H hv).mono ?_;clear H;rintro e w5 ⟨K5,g9,rfl,hle,H,hT5⟩;replace hK:=hle.trans hK;obtain ⟨ga,gd,gf,go,sch,VT,VD,OB,T⟩:=hT5;have h22:=H.kcell T.a.box T.a.c22)
  |((with_reducible show wpList _ _ _ (_::_) _ _);obtain ⟨mv,hlk,hmk⟩:=hmv _ _ _ _ _ _ _ _ _ _ T;refine z1b (by rfl) (.tmp 12) (.tmp 13) 89 false (by rfl) (by first|rfl|simp [Act.eval,Act.put]) (by first|rfl|simp [Act.eval,Act.put]) (hlk _ (H.kmap T.objects)) ?_)
  |((with_reducible show wpList _ _ _ (_::_) _ _);refine x2e (by rfl) 87 (by rfl) [.map none] (by kernel_rfl) (some 5) (by rfl) H ?_;clear H;intro w6 g5 H hg5;clear hg5)
  |((with_reducible show wpList _ _ _ (_::_) _ _);refine z6p (by rfl) 87 (.tmp 5) (.tmp 14) (by rfl) g5 0 (by first|rfl|simp [Act.eval,Act.put]) mv (by first|rfl|simp [Act.eval,Act.put]) [mv] (by rcases hmk with ⟨rfl,_⟩|⟨b,rfl,_⟩<;>rfl) (by rcases hmk with ⟨rfl,_⟩|⟨b,rfl,_⟩<;>simp [Value.oneCell']) (by kernel_rfl) H 0 [.map none] [mv] 87 (by rfl) (Qbn (by rfl)) (by rfl) ?_;clear H;intro w7 H;replace H:Hp w0 w7 K5 (.box g5 [mv] 87::M):=H;have hc5:(w7).cell? ⟨g5,0,none⟩=some mv:=H.cell (i:=0) rfl rfl))
 rcases hmk with ⟨rfl,hSn⟩|⟨b,rfl,hSk⟩
 ·go_wp2_with (first
   |((with_reducible show wpList _ _ _ (_::_) _ _);refine z9d (by rfl) 87 (.tmp 15) (by rfl) Tryz.underlying87 (by first|rfl|simp [Act.eval,Act.put]) (some 16) (by rfl) H ?_;clear H;intro w8 r H))
  try simp only [Act.put,List.getElem_toArray,List.getElem_cons_zero,List.getElem_cons_succ,List.setIfInBounds_toArray,List.set_cons_zero,List.set_cons_succ]
  go_loopw [6,17] (fun o _ wr=>o= .slice none 0 0∧Hp w0 wr K5 (q5o r:: .box g5 [.map none] 87::M)) (fun _ _ _=>0)
  case atStart=>exact ⟨rfl,H⟩
  case round=>
   clear H;obtain ⟨rfl,H⟩:=hrel
   go_upto_region 7 with (first
    |((with_reducible show wpList _ _ _ (_::_) _ _);refine x1l (by rfl) (.tmp 16) (by rfl) (by first|rfl|simp [Act.eval,Act.put]) H 0 (by rfl) ?_))
   have hsn:=z9h (.func (.func 68) #[] #[.pointer (some ⟨g5,0,none⟩)]) 0 none wr
   go_wp2_with (first
    |(go_at_call 67;refine hsn.mono ?_;clear hsn;rintro e w9 ⟨rfl,rfl⟩))
   replace H:=Hp.tail (Hp.tail H);go_ret;exact ⟨K5,[],_,rfl,hK,H,RD.z,by rw [HS.out,hSn];exact List.Perm.nil,List.Pairwise.nil⟩
 ·obtain ⟨n,hn⟩: ∃n,(y0y ks S).length=n:=⟨_,rfl⟩
  have hSl:S.length=n:=by rw [←hn];unfold y0y;rw [Qay]
  go_wp2_with (first
   |((with_reducible show wpList _ _ _ (_::_) _ _);refine q20 (by rfl) 87 (.tmp 15) (by rfl) Tryz.underlying87 b (y0y ks S) (H.kmap hSk) (by first|rfl|simp [Act.eval,Act.put]) (some 16) (by rfl) H ?_;clear H;intro w8 r H))
  try simp only [Act.put,List.getElem_toArray,List.getElem_cons_zero,List.getElem_cons_succ,List.setIfInBounds_toArray,List.set_cons_zero,List.set_cons_succ]
  rw [hn] at H;have heg: ∀args w,(callFunc 68 args).run Tryz.prog w= .ok (.enter 68 args) w:=enters_of Tryz.func68 (by kernel_rfl) rfl
  go_loopw [6,17] (fun o _ wr=>∃s:Array Nat,SeenOk n s∧Hp w0 wr K5 (.row 9 1 o s.size ((s.toList.map (y8f S)).map ks)::iter r b n s:: .box g5 [.map (some b)] 87::M)) (fun _ _ wr=>n - q5q wr r)
  case atStart=>exact ⟨#[],⟨List.nodup_nil,fun _ h=>by cases h⟩,H.nilRow 9 1⟩
  case round=>
   clear H
   obtain ⟨s,hs,H,hrow⟩: ∃(s:Array Nat) (hs:SeenOk n s) (H:Hp w0 wr K5 (.row 9 1 _ s.size ((s.toList.map (y8f S)).map ks)::iter r b n s:: .box g5 [.map (some b)] 87::M)),True:=by
    obtain ⟨s,hs,H⟩:=hrel;exact ⟨s,hs,H,trivial⟩
   obtain ⟨Av,cv,hov,hcv1,hcv2⟩:=H.slice (i:=0) rfl;subst hov;have hsn:=z9f H.tail;have hsle:=hs.le
   have H0:Hp w0 wr K5 (.row 9 1 (.slice Av s.size cv) s.size ((s.toList.map (y8f S)).map ks)::iter r b (y0y ks S).length s:: .box g5 [.map (some b)] 87::M):=by rw [hn];exact H
   go_wp2_with (first
    |((with_reducible show wpList _ _ _ (_::_) _ _);refine q5p (by rfl) (.tmp 16) (by rfl) (by first|rfl|simp [Act.eval,Act.put]) H0 1 b (y0y ks S) s (by rfl) (H.kmap hSk) ?_ ?_))
   ·intro hall
    have hperm:(s.toList.map (y8f S)).Perm (S.map (·.1)):=by
     rw [←x5z,hSl];exact (x91 hs (fun k hk=>by simpa using hall k hk)).map (y8f S)
    have hLl:(s.toList.map (y8f S)).length=s.size:=by simp
    by_cases h0:s.size=0
    ·have hsn:=x50 h0 (.func (.func 68) #[] #[.pointer (some ⟨g5,0,none⟩)]) cv Av wr;have he:s.toList.map (y8f S)=[]:=Qa0 (by rw [hLl,h0]);have he:=hide he;clear h0 hall
     go_wp2_with (first
      |(go_at_call 67;refine hsn.mono ?_;clear hsn;rintro e w9 ⟨rfl,rfl⟩))
     obtain ⟨K6,hle6,H,hr⟩:=Hp.freezeRow H (z7a (s.toList.map (y8f S)));replace H:=Hp.tail (Hp.tail H);go_ret;exact ⟨K6,s.toList.map (y8f S),_,rfl,hle6.trans hK,H,by rw [hLl];exact hr,by rw [HS.out];exact hperm,by rw [he.out];exact List.Pairwise.nil⟩
    ·obtain ⟨blk,cb,hbv,-,-,-⟩:=H.rowAt (i:=0) rfl (by omega);injection hbv with e1 _ e3;subst e1 e3;have hg5:g5≠blk:=fun e=>(List.pairwise_cons.1 H.nd).1 _ (Qa2 _ (Qaz ..)) blk rfl (by rw [←e];rfl)
     have hbb:b≠blk:=fun e=>by
      have hF:=(H.fr _ (Qaz ..) blk rfl).2;have:=hF _ (e▸hSk);cases this
     have hltg:=H.lt (i:=2) rfl rfl;have hltb:=(Qan.1 (H.kmap hSk)).1;have hcb:=H.cell (i:=2) (j:=0) rfl rfl;have hsort:=q5s (cb:= #[.pointer (some ⟨g5,0,none⟩)]) (z65 S) H hLl (by omega) heg (fun W _ hW x y=>q5u (z65 S) (.map (some b)) g5 W ((World.cell?_of_block (hW g5 hltg hg5)).trans hcb) (fun z=>(y05 (w:=W) Tryz.underlying87 (y1e Tryz.underlying9) (.int .i64 0) (y0t W) ((hW b hltb hbb).trans (H.kmap hSk)) z false).trans (by rw [if_neg Bool.false_ne_true,hnv])) hfb x y);clear hbb hg5 hltg hltb hcb
     go_wp2_with (first
      |(go_at_call 67;refine hsort.mono ?_;clear hsort H H0;rintro e w9 ⟨rfl,L,hLp,hLs,H⟩))
     have hLL:L.length=s.size:=hLp.length_eq.trans hLl;obtain ⟨K6,hle6,H,hr⟩:=Hp.freezeRow H (z7a L);replace H:=Hp.tail (Hp.tail H);go_ret;exact ⟨K6,L,_,rfl,hle6.trans hK,H,by rw [hLL];exact hr,by rw [HS.out];exact hLp.trans hperm,by rw [HS.out];exact hLs⟩
   ·intro k x1 x2 w9 hkx hks H9;obtain ⟨q,hq,he⟩:=q22 hkx;injection he with e1 e2;subst e1 e2
    have hkn:k<n:=by rw [←hn];exact (Qac.1 hkx).1
    have hsp:=hs.push hkn hks;have hspl:=hsp.le
    have hkey:y8f S k=q.1:=by simp [y8f,hq]
    have H7:Hp w0 w9 K5 (.row 9 1 (.slice Av s.size cv) s.size ((s.toList.map (y8f S)).map ks)::iter r b (y0y ks S).length (s.push k):: .box g5 [.map (some b)] 87::M):=by rw [hn,List.map_map];exact H9
    clear H H0 H9;have H:=H7;rw [hn] at H
    go_wp2_with (first
     |(refine y2n (by rfl) 27 9 1 _ (by rfl) (some 23) (by rfl) Tryz.underlying27 [.string (str q.1)] (by kernel_rfl) H ?_;clear H;intro w1 g23 H)
     |(at_builtin;refine y37 (by rfl) _ _ 27 (by rfl) 9 k0 _ 1 16 Tryz.underlying27 hk0 k0z k0s k0b (by rfl) (by decide) H 1 (.slice Av s.size cv) (s.size) (((s.toList.map (y8f S)).map ks)) (by rfl) (by first|rfl|simp [Act.eval,Act.put]) (some ⟨g23,0,none⟩) 1 1 [.string (str q.1)] (by first|rfl|simp [Act.eval,Act.put]) (by rfl) (H.rd (i:=0) rfl) (by simp [Value.oneCell']) (by simp only [maxLen];omega) (by omega) ?_;clear H;intro V2 w2 H;replace H:Hp w0 w2 K5 (.box g23 [.string (str q.1)] 9:: .row 9 1 (V2) (s.size+1) (((s.toList.map (y8f S)).map ks)++[.string (str q.1)])::(iter r b n (s.push k):: .box g5 [.map (some b)] 87::M)):=H;obtain ⟨V2A,V2c,rfl,V2l,V2m⟩:=H.slice (i:=1) rfl)
     |((with_reducible show wpList _ _ _ (_::_) _ _);refine q21 (by rfl) (.tmp 16) (by rfl) (by first|rfl|simp [Act.eval,Act.put]) H7 1 b (y0y ks S) s k (ks q.1,q.2) (by rfl) (H7.kmap hSk) hkx ?_))
    replace H:=H.sub (Qai _ (Qaa _ (Qam _)));have hsn6:=z9f H.tail;go_roundw
    case rel=>
     refine ⟨s.push k,hsp,?_⟩;rw [Array.size_push,Array.toList_push,Qas,Qas];simp only [List.map_cons,List.map_nil,hkey];exact H
    case measure=>
     rw [hsn6,hsn];rw [Array.size_push] at hspl ⊢;omega
end Go.Proofs.YtbpgkkoeehopjaaGreat.hp
namespace Go.Proofs.YtbpgkkoeehopjaaGreat.hp
open Go.RowKit lex gram rd tree dat ty
theorem q24 {ts:List DefD} {x:Txt} {d:DefD} (h:q2o ts x=some d):d.name=x∧ ∃i,ts[i]?=some d∧y1h ts x=some i:=by
 unfold q2o at h
 cases hi:y1h ts x with
 |none=>rw [hi] at h;cases h
 |some i=>
  rw [hi] at h;obtain ⟨e,he,hn⟩:=y1j hi;have:ts[i]?=some d:=h;rw [this] at he;injection he with he;subst he;exact ⟨hn,i,this,rfl⟩
section
variable {ts : List DefD} (hn : (y0a ts).Nodup)
include hn
end
end Go.Proofs.YtbpgkkoeehopjaaGreat.hp
namespace Go.Proofs.YtbpgkkoeehopjaaGreat.ty
open Go.RowKit lex gram rd tree dat hp
def y3x (d acc x:DefD):DefD:=if x.ext=true∧x.kind=d.kind∧x.name=d.name then y0w acc x else acc
def x1m (defs:List DefD) (d:DefD):DefD:=defs.foldl (y3x d) d
def y17 (defs out:List DefD) (d:DefD):List DefD:=if IsTy d∧d.name∉y0a out∧d.name∉y0a givenT then out++[x1m defs d] else out
def y3e (defs:List DefD):List DefD:=defs.foldl (y17 defs) []
def y1n (out:List DefD) (d:DefD):List DefD:=if d.kind=8∧d.name∉y0a out∧d.name∉y0a givenDirsD then out++[d] else out
def y5h (defs:List DefD):List DefD:=defs.foldl y1n []
def y7m (s x:DefD):DefD:=if x.kind=1∧x.ext=true then y0w s x else s
def y46 (defs own:List DefD):DefD:=
 match defs.find? y1a with
 |none=>{y3t with roots:=y44 own}
 |some d=>defs.foldl y7m d
def q25 (defs:List DefD):Prop:=∀x∈defs,x.kind=1→x.ifaces=[]∧x.fields=[]∧x.inputs=[]∧x.members=[]∧x.values=[]
theorem x52 (defs:List DefD) (d:DefD):(x1m defs d).name=d.name:=
 y4r (Q:=fun e:DefD=>e.name=d.name) (fun b a h=>by unfold y3x;split<;>exact h) defs d rfl
theorem x1n (defs l:List DefD):y0a (l.map (x1m defs))=y0a l:=by
 simp only [y0a,List.map_map];exact List.map_congr_left fun d _=>x52 defs d
theorem z9i (p:List DefD×List DefD) (d:DefD):(y2a p d).1=if IsTy d∧d.name∉y0a p.1∧d.name∉y0a givenT then p.1++[d] else p.1:=by
 unfold y2a addD;by_cases h8:d.kind=8
 ·rw [if_pos h8];exact (if_neg (fun h=>by have:=h.1.2.1;omega)).symm
 ·rw [if_neg h8];by_cases ht:IsTy d
  ·rw [if_pos ht];dsimp only;by_cases h1:d.name∈y0a givenT
   ·rw [if_pos h1,if_neg (fun h=>h.2.2 h1)]
   ·rw [if_neg h1];by_cases h2:d.name∈y0a p.1
    ·rw [if_pos h2,if_neg (fun h=>h.2.1 h2)]
    ·rw [if_neg h2,if_pos ⟨ht,h2,h1⟩]
  ·rw [if_neg ht,if_neg (fun h=>ht h.1)]
theorem z9j (p:List DefD×List DefD) (d:DefD):(y2a p d).2=y1n p.2 d:=by
 unfold y2a addD y1n;by_cases h8:d.kind=8
 ·rw [if_pos h8];dsimp only;by_cases h1:d.name∈y0a givenDirsD
  ·rw [if_pos h1,if_neg (fun h=>h.2.2 h1)]
  ·rw [if_neg h1];by_cases h2:d.name∈y0a p.2
   ·rw [if_pos h2,if_neg (fun h=>h.2.1 h2)]
   ·rw [if_neg h2,if_pos ⟨h8,h2,h1⟩]
 ·rw [if_neg h8,if_neg (fun h:d.kind=8∧_=>h8 h.1)]
  split<;>rfl
theorem x3f (defs:List DefD): ∀(l:List DefD) (p:List DefD×List DefD),l.foldl (y17 defs) (p.1.map (x1m defs))=(l.foldl y2a p).1.map (x1m defs)
 |[],p=>rfl
 |d::r,p=>by
  rw [List.foldl_cons,List.foldl_cons,←x3f defs r (y2a p d),z9i]
  congr 1
  unfold y17;rw [x1n];split
  ·rw [Qas];rfl
  ·rfl
theorem z9k: ∀(l:List DefD) (p:List DefD×List DefD),l.foldl y1n p.2=(l.foldl y2a p).2
 |[],p=>rfl
 |d::r,p=>by rw [List.foldl_cons,List.foldl_cons,←z9k r (y2a p d),z9j]
theorem x1o: ∀(g l:List DefD),(y0a (l++g)).Nodup→g.foldl addD l=l++g
 |[],l,_=>by rw [List.append_nil];rfl
 |d::r,l,h=>by
  have hd:d.name∉y0a l:=by
   intro hm;simp only [y0a,Qas,List.map_cons] at h;rw [Qbr] at h;exact h.2.2 _ hm _ (Qaz ..) rfl
  rw [List.foldl_cons,addD,if_neg hd,x1o r (l++[d]) (by rw [Qat];exact h),Qat];rfl
theorem z7b (defs:List DefD):(∀d∈(bare defs).1,IsTy d∧d.name∉y0a givenT)∧ ∀d∈(bare defs).2,d.name∉y0a givenDirsD:=by
 refine y4r (Q:=fun p:List DefD×List DefD=>(∀d∈p.1,IsTy d∧d.name∉y0a givenT)∧ ∀d∈p.2,d.name∉y0a givenDirsD) ?_ defs ([],[]) ⟨fun _ h=>absurd h (List.not_mem_nil),fun _ h=>absurd h (List.not_mem_nil)⟩;intro p d h;rw [z9i,z9j];refine ⟨fun e he=>?_,fun e he=>?_⟩
 ·split at he
  ·rename_i hc;rcases Qbf.1 he with he|he
   ·exact h.1 e he
   ·obtain rfl:=Qax.1 he;exact ⟨hc.1,hc.2.2⟩
  ·exact h.1 e he
 ·unfold y1n at he;split at he
  ·rename_i hc;rcases Qbf.1 he with he|he
   ·exact h.2 e he
   ·obtain rfl:=Qax.1 he;exact hc.2.2
  ·exact h.2 e he
theorem z9l {a b:List DefD} (ha:(y0a a).Nodup) (hb:(y0a b).Nodup) (hf: ∀d∈a,d.name∉y0a b):(y0a (a++b)).Nodup:=by
 simp only [y0a,Qas];rw [Qbr];refine ⟨ha,hb,fun x hx y hy e=>?_⟩;obtain ⟨d,hd,rfl⟩:=Qbe.1 hx;exact hf d hd (e▸hy)
theorem z4c:(y0a givenT).Nodup∧(y0a givenDirsD).Nodup:=by decide+kernel
theorem x53 (defs:List DefD):y39 defs=(bare defs).1++givenT:=
 x1o _ _ (z9l (y77 defs).1 z4c.1 fun d hd=>((z7b defs).1 d hd).2)
theorem q26 (defs:List DefD):y3i defs=y5h defs++givenDirsD:=by
 unfold y3i;rw [x1o _ _ (z9l (y77 defs).2 z4c.2 (z7b defs).2)];exact congrArg (· ++givenDirsD) (z9k defs ([],[])).symm
def ext2 (e d:DefD):DefD:=if d.ext=true∧d.kind=e.kind∧d.kind≠1∧d.name=e.name∧d.name∉y0a givenT then y0w e d else e
theorem x92 {l:List DefD} (hn:(y0a l).Nodup) (d:DefD):step2 l d=l.map fun e=>ext2 e d:=by
 have hself: ∀e:DefD,d.name≠e.name→ext2 e d=e:=fun e he=>if_neg fun h=>he h.2.2.2.1;unfold step2
 cases hq:y1h l d.name with
 |none=>
  have hq:=y52 hq;have:l.map (fun e=>ext2 e d)=l.map id:=List.map_congr_left fun e he=>hself e fun h=>hq (h▸List.mem_map_of_mem he);rw [this,List.map_id]
 |some i=>
  obtain ⟨e,hi,hne⟩:=y1j hq;simp only [hi];have hother: ∀j x,l[j]?=some x→j≠i→ext2 x d=x:=fun j x hx hj=>hself x fun h=>hj (q2p hn hx hi (by rw [hne,h]));split
  ·rename_i hc;apply Qbz;intro j;rw [Qb0,List.getElem?_set];by_cases hj:i=j
   ·subst hj;rw [if_pos rfl,if_pos (Qac.1 hi).1,hi,Option.map_some]
    congr 1
    unfold ext2;rw [if_pos ⟨hc.1,hc.2.1,hc.2.2.1,hne.symm,hc.2.2.2⟩]
   ·rw [if_neg hj]
    cases hx:l[j]? with
    |none=>rfl
    |some x=>rw [Option.map_some,hother j x hx (Ne.symm hj)]
  ·rename_i hc
   have:l.map (fun e=>ext2 e d)=l.map id:=List.map_congr_left fun x hx=>by
    obtain ⟨j,hj⟩:=Qbp.1 hx;by_cases hji:j=i
    ·subst hji
     rw [hi] at hj;injection hj with hj;subst hj
     exact if_neg fun h=>hc ⟨h.1,h.2.1,h.2.2.1,h.2.2.2.2⟩
    ·exact hother j x hj hji
   rw [this,List.map_id]
theorem z9m: ∀(defs l:List DefD),(y0a l).Nodup→defs.foldl step2 l=l.map fun e=>defs.foldl ext2 e
 |[],l,_=>by simp
 |d::r,l,hn=>by
  rw [List.foldl_cons,z9m r _ (by rw [z32];exact hn),x92 hn,List.map_map];rfl
theorem z5s {e:DefD} (he:IsTy e) (hg:e.name∉y0a givenT): ∀(l:List DefD) (acc:DefD),acc.name=e.name→acc.kind=e.kind→l.foldl ext2 acc=l.foldl (y3x e) acc
 |[],_,_,_=>rfl
 |d::r,acc,h1,h2=>by
  have hs:ext2 acc d=y3x e acc d:=by
   unfold ext2 y3x;rw [h1,h2];by_cases h:d.ext=true∧d.kind=e.kind∧d.name=e.name
   ·rw [if_pos h,if_pos ⟨h.1,h.2.1,by have:=he.1;omega,h.2.2,by rw [h.2.2];exact hg⟩]
   ·rw [if_neg h,if_neg fun h'=>h ⟨h'.1,h'.2.1,h'.2.2.2.1⟩]
  rw [List.foldl_cons,List.foldl_cons,hs];refine z5s he hg r _ ?_ ?_
  ·unfold y3x;split<;>exact h1
  ·unfold y3x;split<;>exact h2
theorem z5t {e:DefD} (hg:e.name∈y0a givenT): ∀l:List DefD,l.foldl ext2 e=e
 |[]=>rfl
 |d::r=>by
  rw [List.foldl_cons,show ext2 e d=e from if_neg fun h=>h.2.2.2.2 (by rw [h.2.2.2.1];exact hg),z5t hg r]
theorem z9n (defs:List DefD):y1i defs=y3e defs++givenT:=by
 unfold y1i;rw [z9m _ _ (z1u defs),x53,Qas]
 congr 1
 ·have hr:y3e defs=(bare defs).1.map (x1m defs):=x3f defs defs ([],[]);rw [hr]
  exact List.map_congr_left fun e he=>by
   have h:=(z7b defs).1 e he;exact z5s h.1 h.2 defs e rfl rfl
 ·have:givenT.map (fun e=>defs.foldl ext2 e)=givenT.map id:=List.map_congr_left fun e he=>z5t (List.mem_map_of_mem he) defs;rw [this,List.map_id]
theorem q5v {a b:List DefD} {x:Txt} (h:x∉y0a b):y1h (a++b) x=y1h a x:=by
 unfold y1h;rw [show y0a (a++b)=y0a a++y0a b from Qas,List.findIdx?_append]
 have:(y0a b).findIdx? (· ==x)=none:=by
  rw [List.findIdx?_eq_none_iff];intro y hy;exact Qa3.2 fun e=>h (e▸hy)
 rw [this]
 cases (y0a a).findIdx? (· ==x)<;>rfl
theorem q27 {a b:List DefD} {x:Txt} (h:x∉y0a b):y0x (a++b) x=y0x a x:=by
 unfold y0x;rw [q5v h]
 cases hq:y1h a x with
 |none=>rfl
 |some i=>
  obtain ⟨d,hd,_⟩:=y1j hq;simp only [Option.bind_some];rw [Qa9 (Qac.1 hd).1]
theorem x93 (a:List DefD):y44 (a++givenT)=y44 a:=by
 have hr: ∀x∈rootN,x∉y0a givenT:=by decide+kernel
 unfold y44
 congr 1
 refine List.filter_congr fun p hp=>?_;have hm:p.1∈rootN:=(List.mem_zipIdx' hp).2▸List.getElem_mem _;rw [q27 (hr p.1 hm)]
theorem x3g: ∀(l:List DefD) (s:DefD),q25 l→l.foldl y3u s=l.foldl y7m s
 |[],s,_=>rfl
 |d::r,s,h=>by
  have hs:y3u s d=y7m s d:=by
   unfold y3u y7m;split
   ·rename_i hc;obtain ⟨e1,e2,e3,e4,e5⟩:=h d (Qaz ..) hc.1;unfold y0w;rw [e1,e2,e3,e4,e5];simp only [List.append_nil]
   ·rfl
  rw [List.foldl_cons,List.foldl_cons,hs];exact x3g r _ fun x hx=>h x (Qa2 _ hx)
theorem x1p {defs:List DefD} (h:q25 defs):y2w defs (y1i defs)=y46 defs (y3e defs):=by
 unfold y2w y46
 cases defs.find? y1a with
 |none=>dsimp only;rw [z9n,x93]
 |some d=>exact x3g defs d h
end Go.Proofs.YtbpgkkoeehopjaaGreat.ty
namespace Go.Proofs.YtbpgkkoeehopjaaGreat.hp
open Go.RowKit lex gram rd tree dat ty
def SchD (d:DefD):Prop:=d.kind=1→d.ifaces=[]∧d.fields=[]∧d.inputs=[]∧d.members=[]∧d.values=[]
theorem q28 {toks:List TokD} {L f:Nat} {h:NoteD×Bool×TokD×Nat} {q:DefD×Nat} (hb:y48 toks L f h=some q):SchD q.1:=by
 unfold y48 at hb;split at hb
 ·simp only [y8z,Qag] at hb;obtain ⟨_,_,_,_,hq⟩:=hb;injection hq with hq;subst hq;exact fun _=>⟨rfl,rfl,rfl,rfl,rfl⟩
 ·simp only [y80,Qag] at hb;obtain ⟨_,_,_,_,hq⟩:=hb;injection hq with hq;subst hq
  exact fun h=>by simp at h
 ·simp only [y4c,Qag] at hb;obtain ⟨_,_,_,_,_,_,_,_,hq⟩:=hb;injection hq with hq;subst hq
  exact fun h=>by simp at h
 ·simp only [y4c,Qag] at hb;obtain ⟨_,_,_,_,_,_,_,_,hq⟩:=hb;injection hq with hq;subst hq
  exact fun h=>by simp at h
 ·simp only [z2x,Qag] at hb;obtain ⟨_,_,_,_,_,_,hq⟩:=hb;injection hq with hq;subst hq
  exact fun h=>by simp at h
 ·simp only [x0l,Qag] at hb;obtain ⟨_,_,_,_,_,_,hq⟩:=hb;injection hq with hq;subst hq
  exact fun h=>by simp at h
 ·simp only [z2y,Qag] at hb;obtain ⟨_,_,_,_,_,_,hq⟩:=hb;injection hq with hq;subst hq
  exact fun h=>by simp at h
 ·simp only [dirF,Qag] at hb;obtain ⟨_,_,_,_,_,_,_,_,_,_,_,_,hq⟩:=hb;injection hq with hq;subst hq
  exact fun h=>by simp at h
 ·cases hb
theorem x3h (toks:List TokD) (L f:Nat): ∀(fu k:Nat) (l:List DefD),y36 toks L f fu k=some l→ ∀x∈l,SchD x
 |0,_,_,h=>by cases h
 |fu+1,k,l,h=>by
  simp only [y36,Qag] at h;obtain ⟨t,_,h⟩:=h;split at h
  ·injection h with h;subst h;exact fun x hx=>by cases hx
  ·simp only [Qag,defF] at h;obtain ⟨q,⟨_,_,hb⟩,r,hr,hl⟩:=h;injection hl with hl;subst hl;intro x hx;rcases Qbd.1 hx with rfl|hx
   ·exact q28 hb
   ·exact x3h toks L f fu q.2 r hr x hx
theorem q29 (src:Txt) (hlen:src.length≤2200000):q25 (z1y src):=by
 obtain ⟨toks,e,hA,h2,⟨hr,hd,hN⟩|⟨e0,p1,p2,h0,hr,hd⟩⟩:=z01 src hlen
 ·exact x3h _ _ _ _ _ _ hd
 ·rw [hd];exact fun x hx=>by cases hx
end Go.Proofs.YtbpgkkoeehopjaaGreat.hp
namespace Go.Proofs.YtbpgkkoeehopjaaGreat.hp
open Go.RowKit words enc tree gram lex rd dec dat held
set_option maxRecDepth 100000
set_option maxHeartbeats 40000000
attribute [local go_sem ↓] Go.wp_at_zero Go.wp_at_succ
section
variable {w0 w K : World} {M : List Ent}
theorem z9o {p:Addr} {us vs ws:List Value} {k:Nat} (h:At K p (us++vs++ws)) (hk:us.length=k+1):At K ⟨p.block,p.off+(k+1),none⟩ vs:=by
 have e: ∀i u,vs[i]?=some u→(us++vs++ws)[k+i+1]?=some u:=by
  intro i u hu;rw [Qat,Qba (by omega),hk,show k+i+1 - (k+1)=i by omega,Qa9 (Qac.1 hu).1];exact hu
 refine ⟨fun u hu=>h.2 k u (e 0 u hu),fun i u hu=>?_⟩;have:=h.2 _ _ (e _ _ hu);rwa [show p.off+(k+(i+1)+1)=p.off+(k+1)+(i+1) by omega] at this
theorem z5u: ∀(m:Nat) (d:LitD) (cs:Array Value) (w0 w K:World) (M:List Ent),litN d≤m→m≤9000000→RL K (litL d) cs.toList→Hp w0 w K M→
  Calls Tryz.prog 165 #[.agg cs] w fun e w'=>∃K' cs',e= .returned (.agg cs')∧Sat K' K∧Hp w0 w' K' M∧RL K' (litL d) cs'.toList:=by
 intro m
 induction m with
 |zero=>intro d cs w0 w K M h;have:=y6e d;omega
 |succ m ih=>
 intro d cs w0 w K M hn hm hd H;obtain ⟨kind,text,block,items,fields,line,col⟩:=d;obtain ⟨Ai,ci,Af,cf,hcs,hi,hf⟩:=y0i hd;obtain rfl:cs= #[_,_,_,_,_,_,_]:=Qal.1 hcs
 have hni:items.length≤9000000:=by have:=z15 items;simp only [litN] at hn;omega
 have hnf:fields.length≤9000000:=by have:=y4z fields;simp only [litN] at hn;omega
 have HI:=hide (show ∀x∈items,litN x≤m from fun x hx=>by obtain ⟨k,hk⟩:=Qaq hx;have:=z6n hk;simp only [litN] at hn;omega);have HF:=hide (show ∀x∈fields,pairN x≤m from fun x hx=>by obtain ⟨k,hk⟩:=Qaq hx;have:=y6f hk;simp only [litN] at hn;omega);have HIH:=hide ih;rw [y6b] at hi;rw [y2s] at hf;clear ih hcs hd hn;obtain ⟨ni,hni2⟩: ∃x,items.length=x:=⟨_,rfl⟩;obtain ⟨nf,hnf2⟩: ∃x,fields.length=x:=⟨_,rfl⟩;rw [hni2] at hi hni ⊢;rw [hnf2] at hf hnf ⊢;have HNI:=hide hni2;have HNF:=hide hnf2;clear hni2 hnf2;go_enter Tryz.func165,Tryz.ntmps165
 go_wp2_with (first|(refine oL H ?_)|(refine oA 1 H ?_;clear H;intro w gv H)|(refine oA 2 H ?_;clear H;intro w gz H)|(refine oA 3 H ?_;clear H;intro w gw H)|(refine oP H ?_;clear H;intro w _ H))
 replace H:=H.nilRow 121 7
 go_loopw [4] (fun i wr=>∃(K':World) (k:Nat) (A':Option Addr) (c':Nat) (vs:List Value),k≤ni∧i= .int .i64 k∧Sat K' K∧RL K' (litsL (items.take k)) vs∧Hp w0 wr K' (.row 121 7 (.slice A' k c') k vs:: .box gw [.int .i64 kind,.string (str text),.bool block,.slice A' k c',.slice none 0 0,.int .i64 line,.int .i64 col] 121:: .box gz [.int .i64 0,.string ⟨#[]⟩,.bool false,.slice none 0 0,.slice none 0 0,.int .i64 0,.int .i64 0] 121:: .box gv [.int .i64 kind,.string (str text),.bool block,.slice Ai ni ci,.slice Af nf cf,.int .i64 line,.int .i64 col] 121::M)) (fun i _=>ni - (intOf i).toNat)
 case atStart=>exact ⟨K,0,none,0,[],Qak _,rfl,Sat.refl _,.nil (Qab _),H⟩
 case round=>
  clear H;obtain ⟨K',k,A',c',vs,hk,rfl,hle,hvs,H⟩:=hrel;replace hi:=hi.sat hle;replace hf:=hf.sat hle;by_cases hlt:k<ni
  ·obtain ⟨x,ad,us,hx,rfl,hxl,hat⟩:=el_k y5a hi (by rw [HNI.out];exact hlt) (by decide);obtain ⟨hkI,hwr⟩:=wr_k hlt hni;have hxn:=HI.out x (Qaf hx);have HX:=hide (y0k hx);obtain ⟨dk,dt,db,di,df,dln,dcl⟩:=x;obtain ⟨Xi,xi,Xf,xf,rfl,-,-⟩:=y0i hxl;have hc:=fun {w M} (h:Hp w0 w K' M)=>HIH.out _ #[_,_,_,_,_,_,_] w0 w K' M hxn (by omega) hxl h;clear hx
   go_wp2_with (first|(refine oL H ?_)|(refine oA 5 H ?_;clear H;intro w gx H)|(refine oP H ?_;clear H;intro w _ H)|((with_reducible refine (hc H).mono ?_);clear H;rintro e w ⟨K2,cs,rfl,hle2,H,he⟩;obtain ⟨Bi,bi,Bf,bf,hcs,-,-⟩:=y0i he;obtain rfl:cs= #[_,_,_,_,_,_,_]:=Qal.1 hcs;clear hcs)|(refine oQ H ?_;clear H;intro A' c' w _ _ H;dsimp only [List.set] at H))
   go_roundw
   case rel=>exact ⟨K2,k+1,_,_,_,by omega,by go_num,hle2.trans hle,by rw [HX.out,z2u];exact (hvs.sat hle2).app (by simpa [litsL] using he),H.fin⟩
   case measure=>simp [intOf];omega
  ·obtain rfl:k=ni:=by omega
   rw [Qaj (by rw [HNI.out];exact Qab _)] at hvs;clear hlt hi
   go_wp2_with (first|(refine oL H ?_)|(refine oP H ?_;clear H;intro w _ H))
   replace H:=H.nilRow 219 10
   go_loopw [6] (fun i wr=>∃(K2:World) (j:Nat) (A2:Option Addr) (c2:Nat) (vs2:List Value),j≤nf∧i= .int .i64 j∧Sat K2 K'∧RL K2 (pairsL (fields.take j)) vs2∧Hp w0 wr K2 (.row 219 10 (.slice A2 j c2) j vs2:: .row 121 7 (.slice A' k c') k vs:: .box gw [.int .i64 kind,.string (str text),.bool block,.slice A' k c',.slice A2 j c2,.int .i64 line,.int .i64 col] 121:: .box gz [.int .i64 0,.string ⟨#[]⟩,.bool false,.slice none 0 0,.slice none 0 0,.int .i64 0,.int .i64 0] 121:: .box gv [.int .i64 kind,.string (str text),.bool block,.slice Ai k ci,.slice Af nf cf,.int .i64 line,.int .i64 col] 121::M)) (fun i _=>nf - (intOf i).toNat)
   case atStart=>exact ⟨K',0,none,0,[],Qak _,rfl,Sat.refl _,.nil (Qab _),H.fin⟩
   case round=>
    clear H;obtain ⟨K2,j,A2,c2,vs2,hj,rfl,hle2,hvs2,H⟩:=hrel;replace hf:=hf.sat hle2;by_cases hlt:j<nf
    ·obtain ⟨x,ad,us,hx,rfl,hxl,hat⟩:=el_k y2r hf (by rw [HNF.out];exact hlt) (by decide);obtain ⟨hkI,hwr⟩:=wr_k hlt hnf;have hxn:=HF.out x (Qaf hx);have HX:=hide (y0k hx);obtain ⟨pn,⟨dk,dt,db,di,df,dln,dcl⟩,pl,pc⟩:=x;obtain ⟨ls,rfl,hvl⟩:=y1s hxl;obtain ⟨Xi,xi,Xf,xf,rfl,-,-⟩:=y0i hvl;have hc:=fun {w M} (h:Hp w0 w K2 M)=>HIH.out _ #[_,_,_,_,_,_,_] w0 w K2 M (by simp only [pairN] at hxn;omega) (by omega) hvl h;simp only [List.cons_append,List.nil_append] at hat;have hat1:At K2 ⟨(ad.add (j*10)).block,(ad.add (j*10)).off+1,none⟩ [_,_,_,_,_,_,_]:=z9o (us:=[_]) (vs:=[_,_,_,_,_,_,_]) (ws:=[_,_]) (k:=0) hat rfl;clear hx hxl
     go_upto_region 13 with (first|(refine oL H ?_)|(refine oA 7 H ?_;clear H;intro w gx H)|(refine oP H ?_;clear H;intro w _ H)|((with_reducible refine (hc H).mono ?_);clear H;rintro e w ⟨K3,cs,rfl,hle3,H,he⟩;obtain ⟨Bi,bi,Bf,bf,hcs,-,-⟩:=y0i he;obtain rfl:cs= #[_,_,_,_,_,_,_]:=Qal.1 hcs;clear hcs;replace hat:=At.sat hat hle3;clear hat1))
     have hat8:At K3 ⟨(ad.add (j*10)).block,(ad.add (j*10)).off+8,none⟩ [_,_]:=z9o (us:=[_,_,_,_,_,_,_,_]) (vs:=[_,_]) (ws:=[]) (k:=7) hat rfl;refine rN [.box gw _ _,.box gv _ _,.box gx _ _] [19] H ?_;clear H;intro w H;refine rT 0 H ?_;refine rT 1 H ?_;refine rT 2 H ?_;refine rT 3 H ?_;refine rT 4 H ?_;refine rT 5 H ?_;refine rT 6 H ?_;refine rT 7 H ?_;refine rT 8 H ?_;refine rT 9 H ?_;refine rT 10 H ?_;refine rT 11 H ?_;refine rT 12 H ?_;refine rT 13 H ?_;refine rT 14 H ?_;refine rT 15 H ?_;refine rW 16 H ?_;clear H;intro w _ H;refine rA 17 H ?_;clear H;intro A2 c2 w _ _ H;dsimp only [List.set] at H;refine rT 18 H ?_;refine rL 19 H ?_;clear H;intro w _ H;refine rE ?_;have hpe:RL K3 (pairL (.mk pn (.mk dk dt db di df dln dcl) pl pc)) [.string (str pn),.int .i64 dk,.string (str dt),.bool db,.slice Bi di.length bi,.slice Bf df.length bf,.int .i64 dln,.int .i64 dcl,.int .i64 pl,.int .i64 pc]:=DatL.lit (DatL.app he (DatL.lit (DatL.lit (DatL.nil he.le))))
     go_wp2_with (first|(refine oL H ?_)|(refine oP H ?_;clear H;intro w _ H))
     go_roundw
     case rel=>exact ⟨K3,j+1,_,_,_,by omega,by go_num,hle3.trans hle2,by rw [HX.out,y4o];exact (hvs2.sat hle3).app (by simpa [pairsL] using hpe),H.fin⟩
     case measure=>simp [intOf];omega
    ·obtain rfl:j=nf:=by omega
     rw [Qaj (by rw [HNF.out];exact Qab _)] at hvs2
     go_wp2_with (first|(refine oL H ?_)|(refine oP H ?_;clear H;intro w _ H))
     refine oB H ?_;replace H:Hp _ _ _ (.row 219 10 _ _ _:: .row 121 7 _ _ _::M):=H.fin;obtain ⟨K3,hle3,H,hd2⟩:=H.freezeRow hvs2;obtain ⟨K4,hle4,H,hd1⟩:=H.freezeRow (hvs.sat (hle3.trans hle2));refine ⟨K4,_,rfl,hle4.trans (hle3.trans (hle2.trans hle)),H,y2t ?_ ?_⟩
     ·rw [HNI.out];exact hd1
     ·rw [HNF.out];exact hd2.sat hle4
end
section
variable {w0 w K : World} {M : List Ent}
theorem z9p {l:List DirD} {A:Option Addr} {c:Nat} (hm:sumN dirN l≤9000000) (hd:RD K (.list l.length (y11 l)) (.slice A l.length c)) (H:Hp w0 w K M):
  Calls Tryz.prog 129 #[.slice A l.length c] w fun e w'=>∃K' A' c' vs,e= .returned (.slice A' l.length c')∧Sat K' K∧RL K' (y11 l) vs∧Hp w0 w' K' (.row 181 4 (.slice A' l.length c') l.length vs::M):=by
 have hn:=Qah (y0l y3y l) hm;have HX:=hide (show ∀x∈l,dirN x≤9000000 from fun x hx=>by obtain ⟨k,hk⟩:=Qaq hx;have:=y40 (f:=dirN) hk;omega);obtain ⟨n,hn2⟩: ∃x,l.length=x:=⟨_,rfl⟩;rw [hn2] at hd hn ⊢;have HN:=hide hn2;clear hn2 hm;go_enter Tryz.func129,Tryz.ntmps129
 go_wp2_with fail
 replace H:=H.nilRow 181 4
 go_loopw [3,4] (fun v i wr=>∃(K':World) (k:Nat) (A':Option Addr) (c':Nat) (vs:List Value),k≤n∧i= .int .i64 k∧v= .slice A' k c'∧Sat K' K∧RL K' (y11 (l.take k)) vs∧Hp w0 wr K' (.row 181 4 (.slice A' k c') k vs::M)) (fun _ i _=>n - (intOf i).toNat)
 case atStart=>exact ⟨K,0,none,0,[],Qak _,rfl,rfl,Sat.refl _,.nil (Qab _),H⟩
 case round=>
  clear H;obtain ⟨K',k,A',c',vs,hk,rfl,rfl,hle,hvs,H⟩:=hrel;replace hd:=hd.sat hle;by_cases hlt:k<n
  ·obtain ⟨x,ad,us,hx,rfl,hxl,hat⟩:=el_k (m:=4) (f:=dirL) (fun _=>rfl) hd (by rw [HN.out];exact hlt) (by decide);obtain ⟨hkI,hwr⟩:=wr_k hlt hn;have hxn:=HX.out x (Qaf hx);have HT:=hide (y0k hx);obtain ⟨dn,args,dl,dc⟩:=x;obtain ⟨Aa,ca,rfl,ha⟩:=y5v hxl;simp only [dirN] at hxn
   have hna:args.length≤9000000:=by have:=y4z args;omega
   have HF:=hide (show ∀x∈args,pairN x≤9000000 from fun x hx=>by obtain ⟨k,hk⟩:=Qaq hx;have:=y6f hk;omega);dsimp only at ha hat;rw [y2s] at ha;obtain ⟨na,hna2⟩: ∃x,args.length=x:=⟨_,rfl⟩;rw [hna2] at ha hna hat;have HNA:=hide hna2;clear hx hna2 hxn hxl;have hat8:At K' ⟨(ad.add (k*4)).block,(ad.add (k*4)).off+2,none⟩ [_,_]:=z9o (us:=[_,_]) (vs:=[_,_]) (ws:=[]) (k:=1) hat rfl
   go_upto_region 5 with (first|(refine oL H ?_)|(refine oP H ?_;clear H;intro w _ H))
   refine rB [12] H ?_;clear H;intro w H;refine rT 0 H ?_;refine rT 1 H ?_;refine rT 2 H ?_;refine rT 3 H ?_;refine rT 4 H ?_;refine rT 5 H ?_;refine rT 6 H ?_;refine rT 7 H ?_;refine rT 8 H ?_;refine rT 9 H ?_;refine rT 10 H ?_;refine rW 11 H ?_;clear H;intro w gd H;refine rL 12 H ?_;clear H;intro w _ H;refine rE ?_
   go_wp2_with (first|(refine oL H ?_)|(refine oP H ?_;clear H;intro w _ H))
   replace H:=H.nilRow 185 10
   go_loopw [6] (fun i wq=>∃(K2:World) (j:Nat) (A2:Option Addr) (c2:Nat) (vs2:List Value),j≤na∧i= .int .i64 j∧Sat K2 K'∧RL K2 (pairsL (args.take j)) vs2∧Hp w0 wq K2 (.row 185 10 (.slice A2 j c2) j vs2:: .box gd [.string (str dn),.slice A2 j c2,.int .i64 dl,.int .i64 dc] 181:: .row 181 4 (.slice A' k c') k vs::M)) (fun i _=>na - (intOf i).toNat)
   case atStart=>exact ⟨K',0,none,0,[],Qak _,rfl,Sat.refl _,.nil (Qab _),H⟩
   case round=>
    clear H;obtain ⟨K2,j,A2,c2,vs2,hj,rfl,hle2,hvs2,H⟩:=hrel;replace ha:=ha.sat hle2;replace hat:=At.sat hat hle2;by_cases hlt2:j<na
    ·obtain ⟨x,ad,us,hx,rfl,hxl,hat2⟩:=el_k y2r ha (by rw [HNA.out];exact hlt2) (by decide);obtain ⟨hjI,hwj⟩:=wr_k hlt2 hna;have hxn:=HF.out x (Qaf hx);have HY:=hide (y0k hx);obtain ⟨pn,⟨dk,dt,db,di,df,dln,dcl⟩,pl,pc⟩:=x;obtain ⟨ls,rfl,hvl⟩:=y1s hxl;obtain ⟨Xi,xi,Xf,xf,rfl,-,-⟩:=y0i hvl;have hc:=fun {w M} (h:Hp w0 w K2 M)=>z5u 9000000 _ #[_,_,_,_,_,_,_] w0 w K2 M (by simp only [pairN] at hxn;omega) (Qab _) hvl h;simp only [List.cons_append,List.nil_append] at hat2;clear hx hxl
     go_wp2_with (first|(refine oL H ?_)|(refine oA 7 H ?_;clear H;intro w gx H)|(refine oP H ?_;clear H;intro w _ H)|((with_reducible refine (hc H).mono ?_);clear H;rintro e w ⟨K3,cs,rfl,hle3,H,he⟩;obtain ⟨Bi,bi,Bf,bf,hcs,-,-⟩:=y0i he;obtain rfl:cs= #[_,_,_,_,_,_,_]:=Qal.1 hcs;clear hcs)|(refine oQ H ?_;clear H;intro A' c' w _ _ H;dsimp only [List.set] at H))
     have hpe:RL K3 (pairL (.mk pn (.mk dk dt db di df dln dcl) pl pc)) [.string (str pn),.int .i64 dk,.string (str dt),.bool db,.slice Bi di.length bi,.slice Bf df.length bf,.int .i64 dln,.int .i64 dcl,.int .i64 pl,.int .i64 pc]:=DatL.lit (DatL.app he (DatL.lit (DatL.lit (DatL.nil he.le))));go_roundw
     case rel=>exact ⟨K3,j+1,_,_,_,by omega,by go_num,hle3.trans hle2,by rw [HY.out,y4o];exact (hvs2.sat hle3).app (by simpa [pairsL] using hpe),H.fin⟩
     case measure=>simp [intOf];omega
    ·obtain rfl:j=na:=by omega
     rw [Qaj (by rw [HNA.out];exact Qab _)] at hvs2;obtain ⟨K3,hle3,H,hd1⟩:=H.freezeRow hvs2;replace hat:=At.sat hat hle3;have hde:RL K3 (dirL ⟨dn,args,dl,dc⟩) [.string (str dn),.slice A2 j c2,.int .i64 dl,.int .i64 dc]:=.lit (.cons (by rw [HNA.out];exact hd1) (.lit (.lit (.nil (Qab _)))))
     go_wp2_with (first|(refine oL H ?_)|(refine oP H ?_;clear H;intro w _ H)|(refine oQ H ?_;clear H;intro A' c' w _ _ H;dsimp only [List.set] at H))
     go_roundw
     case rel=>exact ⟨K3,k+1,_,_,_,by omega,by go_num,rfl,hle3.trans (hle2.trans hle),by rw [HT.out,y4x];exact (hvs.sat (hle3.trans hle2)).app (y8e (f:=dirL) hde),H.fin⟩
     case measure=>simp [intOf];omega
  ·obtain rfl:k=n:=by omega
   rw [Qaj (by rw [HN.out];exact Qab _)] at hvs
   go_wp2_with fail
   go_ret;exact ⟨K',A',c',vs,rfl,hle,hvs,H⟩
theorem z2d {l:List DirD} {A:Option Addr} {c:Nat} (hm:sumN dirN l≤9000000) (hd:RD K (.list l.length (y11 l)) (.slice A l.length c)) (H:Hp w0 w K M):
  Calls Tryz.prog 129 #[.slice A l.length c] w fun e w'=>∃K' A' c',e= .returned (.slice A' l.length c')∧Sat K' K∧Hp w0 w' K' M∧RD K' (.list l.length (y11 l)) (.slice A' l.length c'):=
 (z9p hm hd H).mono fun e w' ⟨K',A',c',vs,he,hle,hvs,H⟩=>by
   obtain ⟨K2,hle2,H,hd⟩:=H.freezeRow hvs;exact ⟨K2,A',c',he,hle2.trans hle,H,hd⟩
theorem z4d {l:List InputD} {A:Option Addr} {c:Nat} (hm:sumN y1q l≤9000000) (hd:RD K (.list l.length (y0j l)) (.slice A l.length c)) (H:Hp w0 w K M):
  Calls Tryz.prog 130 #[.slice A l.length c] w fun e w'=>∃K' A' c' vs,e= .returned (.slice A' l.length c')∧Sat K' K∧RL K' (y0j l) vs∧Hp w0 w' K' (.row 123 17 (.slice A' l.length c') l.length vs::M):=by
 have hn:=Qah (y0l y2l l) hm;have HX:=hide (show ∀x∈l,y1q x≤9000000 from fun x hx=>by obtain ⟨k,hk⟩:=Qaq hx;have:=y40 (f:=y1q) hk;omega);obtain ⟨n,hn2⟩: ∃x,l.length=x:=⟨_,rfl⟩;rw [hn2] at hd hn ⊢;have HN:=hide hn2;clear hn2 hm;go_enter Tryz.func130,Tryz.ntmps130
 go_wp2_with fail
 replace H:=H.nilRow 123 17
 go_loopw [3,4] (fun v i wr=>∃(K':World) (k:Nat) (A':Option Addr) (c':Nat) (vs:List Value),k≤n∧i= .int .i64 k∧v= .slice A' k c'∧Sat K' K∧RL K' (y0j (l.take k)) vs∧Hp w0 wr K' (.row 123 17 (.slice A' k c') k vs::M)) (fun _ i _=>n - (intOf i).toNat)
 case atStart=>exact ⟨K,0,none,0,[],Qak _,rfl,rfl,Sat.refl _,.nil (Qab _),H⟩
 case round=>
  clear H;obtain ⟨K',k,A',c',vs,hk,rfl,rfl,hle,hvs,H⟩:=hrel;replace hd:=hd.sat hle;by_cases hlt:k<n
  ·obtain ⟨x,ad,us,hx,rfl,hxl,hat⟩:=el_k y5u hd (by rw [HN.out];exact hlt) (by decide);obtain ⟨hkI,hwr⟩:=wr_k hlt hn;have hxn:=HX.out x (Qaf hx);have HT:=hide (y0k hx);obtain ⟨⟨nh,nb,nt⟩,dn,⟨tn,tw⟩,dh,⟨dk,dt,db,di,df,dln,dcl⟩,ds,dl,dc⟩:=x;obtain ⟨ls,Ad,cd,rfl,hvl,hds⟩:=y3o hxl;obtain ⟨Xi,xi,Xf,xf,rfl,-,-⟩:=y0i hvl;simp only [y1q] at hxn;have hc:=fun {w M} (h:Hp w0 w K' M)=>z5u 9000000 _ #[_,_,_,_,_,_,_] w0 w K' M (by omega) (Qab _) hvl h;have hc2:=fun {w K M} (h:Hp w0 w K M) (hd:RD K (.list ds.length (y11 ds)) (.slice Ad ds.length cd))=>z2d (by omega) hd h;simp only [List.cons_append,List.nil_append] at hat;clear hx hxl
   go_wp2_with (first|(refine oL H ?_)|(refine oP H ?_;clear H;intro w _ H)|((with_reducible refine (hc H).mono ?_);clear hc H;rintro e w ⟨K2,cs,rfl,hle2,H,he⟩;obtain ⟨Bi,bi,Bf,bf,hcs,-,-⟩:=y0i he;obtain rfl:cs= #[_,_,_,_,_,_,_]:=Qal.1 hcs;clear hcs;replace hds:=hds.sat hle2)|((with_reducible refine (hc2 H hds).mono ?_);clear hc2 H;rintro e w ⟨K3,Ae,ce,rfl,hle3,H,hde⟩)|(refine oQ H ?_;clear H;intro A' c' w _ _ H;dsimp only [List.set] at H))
   have hpe:=y7u (nh:=nh) (nb:=nb) (nt:=nt) (dn:=dn) (tn:=tn) (tw:=tw) (dh:=dh) (dl:=dl) (dc:=dc) (he.sat hle3) hde;go_roundw
   case rel=>exact ⟨K3,k+1,_,_,_,by omega,by go_num,rfl,hle3.trans (hle2.trans hle),by rw [HT.out,y3m];exact (hvs.sat (hle3.trans hle2)).app (y8e (f:=y3h) hpe),H.fin⟩
   case measure=>simp [intOf];omega
  ·obtain rfl:k=n:=by omega
   rw [Qaj (by rw [HN.out];exact Qab _)] at hvs
   go_wp2_with fail
   go_ret;exact ⟨K',A',c',vs,rfl,hle,hvs,H⟩
theorem z5v {l:List InputD} {A:Option Addr} {c:Nat} (hm:sumN y1q l≤9000000) (hd:RD K (.list l.length (y0j l)) (.slice A l.length c)) (H:Hp w0 w K M):
  Calls Tryz.prog 130 #[.slice A l.length c] w fun e w'=>∃K' A' c',e= .returned (.slice A' l.length c')∧Sat K' K∧Hp w0 w' K' M∧RD K' (.list l.length (y0j l)) (.slice A' l.length c'):=
 (z4d hm hd H).mono fun e w' ⟨K',A',c',vs,he,hle,hvs,H⟩=>by
   obtain ⟨K2,hle2,H,hd⟩:=H.freezeRow hvs;exact ⟨K2,A',c',he,hle2.trans hle,H,hd⟩
theorem z4e {l:List FieldD} {A:Option Addr} {c:Nat} (hm:sumN y19 l≤9000000) (hd:RD K (.list l.length (y0r l)) (.slice A l.length c)) (H:Hp w0 w K M):
  Calls Tryz.prog 88 #[.slice A l.length c] w fun e w'=>∃K' A' c' vs,e= .returned (.slice A' l.length c')∧Sat K' K∧RL K' (y0r l) vs∧Hp w0 w' K' (.row 52 10 (.slice A' l.length c') l.length vs::M):=by
 have hn:=Qah (y0l y2m l) hm;have HX:=hide (show ∀x∈l,y19 x≤9000000 from fun x hx=>by obtain ⟨k,hk⟩:=Qaq hx;have:=y40 (f:=y19) hk;omega);obtain ⟨n,hn2⟩: ∃x,l.length=x:=⟨_,rfl⟩;rw [hn2] at hd hn ⊢;have HN:=hide hn2;clear hn2 hm;go_enter Tryz.func88,Tryz.ntmps88
 go_wp2_with fail
 replace H:=H.nilRow 52 10
 go_loopw [3,4] (fun v i wr=>∃(K':World) (k:Nat) (A':Option Addr) (c':Nat) (vs:List Value),k≤n∧i= .int .i64 k∧v= .slice A' k c'∧Sat K' K∧RL K' (y0r (l.take k)) vs∧Hp w0 wr K' (.row 52 10 (.slice A' k c') k vs::M)) (fun _ i _=>n - (intOf i).toNat)
 case atStart=>exact ⟨K,0,none,0,[],Qak _,rfl,rfl,Sat.refl _,.nil (Qab _),H⟩
 case round=>
  clear H;obtain ⟨K',k,A',c',vs,hk,rfl,rfl,hle,hvs,H⟩:=hrel;replace hd:=hd.sat hle;by_cases hlt:k<n
  ·obtain ⟨x,ad,us,hx,rfl,hxl,hat⟩:=el_k (m:=10) (f:=y2d) (fun _=>rfl) hd (by rw [HN.out];exact hlt) (by decide);obtain ⟨hkI,hwr⟩:=wr_k hlt hn;have hxn:=HX.out x (Qaf hx);have HT:=hide (y0k hx);obtain ⟨⟨nh,nb,nt⟩,dn,args,⟨tn,tw⟩,ds,dl,dc⟩:=x;obtain ⟨Aa,ca,Ad,cd,rfl,has,hds⟩:=y4y hxl;simp only [y19] at hxn;have hc:=fun {w K M} (h:Hp w0 w K M) (hd:RD K (.list args.length (y0j args)) (.slice Aa args.length ca))=>z5v (by omega) hd h;have hc2:=fun {w K M} (h:Hp w0 w K M) (hd:RD K (.list ds.length (y11 ds)) (.slice Ad ds.length cd))=>z2d (by omega) hd h;clear hx hxl
   go_wp2_with (first|(refine oL H ?_)|(refine oA 5 H ?_;clear H;intro w gx H)|(refine oP H ?_;clear H;intro w _ H)|((with_reducible refine (hc H has).mono ?_);clear H;rintro e w ⟨K2,Ab,cb,rfl,hle2,H,hb⟩;clear hc;replace hds:=hds.sat hle2)|((with_reducible refine (hc2 H hds).mono ?_);clear H;rintro e w ⟨K3,Ae,ce,rfl,hle3,H,hde⟩;clear hc2)|(refine oQ H ?_;clear H;intro A' c' w _ _ H;dsimp only [List.set] at H))
   have hpe:=y3n (nh:=nh) (nb:=nb) (nt:=nt) (dn:=dn) (tn:=tn) (tw:=tw) (dl:=dl) (dc:=dc) (hb.sat hle3) hde;go_roundw
   case rel=>exact ⟨K3,k+1,_,_,_,by omega,by go_num,rfl,hle3.trans (hle2.trans hle),by rw [HT.out,y16];exact (hvs.sat (hle3.trans hle2)).app (y8e (f:=y2d) hpe),H.fin⟩
   case measure=>simp [intOf];omega
  ·obtain rfl:k=n:=by omega
   rw [Qaj (by rw [HN.out];exact Qab _)] at hvs
   go_wp2_with fail
   go_ret;exact ⟨K',A',c',vs,rfl,hle,hvs,H⟩
theorem x54 {l:List FieldD} {A:Option Addr} {c:Nat} (hm:sumN y19 l≤9000000) (hd:RD K (.list l.length (y0r l)) (.slice A l.length c)) (H:Hp w0 w K M):
  Calls Tryz.prog 88 #[.slice A l.length c] w fun e w'=>∃K' A' c',e= .returned (.slice A' l.length c')∧Sat K' K∧Hp w0 w' K' M∧RD K' (.list l.length (y0r l)) (.slice A' l.length c'):=
 (z4e hm hd H).mono fun e w' ⟨K',A',c',vs,he,hle,hvs,H⟩=>by
   obtain ⟨K2,hle2,H,hd⟩:=H.freezeRow hvs;exact ⟨K2,A',c',he,hle2.trans hle,H,hd⟩
theorem z4f {l:List ValueD} {A:Option Addr} {c:Nat} (hm:sumN y2e l≤9000000) (hd:RD K (.list l.length (y06 l)) (.slice A l.length c)) (H:Hp w0 w K M):
  Calls Tryz.prog 131 #[.slice A l.length c] w fun e w'=>∃K' A' c' vs,e= .returned (.slice A' l.length c')∧Sat K' K∧RL K' (y06 l) vs∧Hp w0 w' K' (.row 133 7 (.slice A' l.length c') l.length vs::M):=by
 have hn:=Qah (y0l y3q l) hm;have HX:=hide (show ∀x∈l,y2e x≤9000000 from fun x hx=>by obtain ⟨k,hk⟩:=Qaq hx;have:=y40 (f:=y2e) hk;omega);obtain ⟨n,hn2⟩: ∃x,l.length=x:=⟨_,rfl⟩;rw [hn2] at hd hn ⊢;have HN:=hide hn2;clear hn2 hm;go_enter Tryz.func131,Tryz.ntmps131
 go_wp2_with fail
 replace H:=H.nilRow 133 7
 go_loopw [3,4] (fun v i wr=>∃(K':World) (k:Nat) (A':Option Addr) (c':Nat) (vs:List Value),k≤n∧i= .int .i64 k∧v= .slice A' k c'∧Sat K' K∧RL K' (y06 (l.take k)) vs∧Hp w0 wr K' (.row 133 7 (.slice A' k c') k vs::M)) (fun _ i _=>n - (intOf i).toNat)
 case atStart=>exact ⟨K,0,none,0,[],Qak _,rfl,rfl,Sat.refl _,.nil (Qab _),H⟩
 case round=>
  clear H;obtain ⟨K',k,A',c',vs,hk,rfl,rfl,hle,hvs,H⟩:=hrel;replace hd:=hd.sat hle;by_cases hlt:k<n
  ·obtain ⟨x,ad,us,hx,rfl,hxl,hat⟩:=el_k (m:=7) (f:=y5b) (fun _=>rfl) hd (by rw [HN.out];exact hlt) (by decide);obtain ⟨hkI,hwr⟩:=wr_k hlt hn;have hxn:=HX.out x (Qaf hx);have HT:=hide (y0k hx);obtain ⟨⟨nh,nb,nt⟩,dn,ds,dl,dc⟩:=x;obtain ⟨Ad,cd,rfl,hds⟩:=z20 hxl;simp only [y2e] at hxn;have hc:=fun {w M} (h:Hp w0 w K' M)=>z2d (by omega) hds h;clear hx hxl
   go_wp2_with (first|(refine oL H ?_)|(refine oA 5 H ?_;clear H;intro w gx H)|(refine oP H ?_;clear H;intro w _ H)|((with_reducible refine (hc H).mono ?_);clear H;rintro e w ⟨K3,Ae,ce,rfl,hle3,H,hde⟩;clear hc)|(refine oQ H ?_;clear H;intro A' c' w _ _ H;dsimp only [List.set] at H))
   have hpe:=y7v (nh:=nh) (nb:=nb) (nt:=nt) (dn:=dn) (dl:=dl) (dc:=dc) hde;go_roundw
   case rel=>exact ⟨K3,k+1,_,_,_,by omega,by go_num,rfl,hle3.trans hle,by rw [HT.out,y22];exact (hvs.sat hle3).app (y8e (f:=y5b) hpe),H.fin⟩
   case measure=>simp [intOf];omega
  ·obtain rfl:k=n:=by omega
   rw [Qaj (by rw [HN.out];exact Qab _)] at hvs
   go_wp2_with fail
   go_ret;exact ⟨K',A',c',vs,rfl,hle,hvs,H⟩
theorem x55 {l:List ValueD} {A:Option Addr} {c:Nat} (hm:sumN y2e l≤9000000) (hd:RD K (.list l.length (y06 l)) (.slice A l.length c)) (H:Hp w0 w K M):
  Calls Tryz.prog 131 #[.slice A l.length c] w fun e w'=>∃K' A' c',e= .returned (.slice A' l.length c')∧Sat K' K∧Hp w0 w' K' M∧RD K' (.list l.length (y06 l)) (.slice A' l.length c'):=
 (z4f hm hd H).mono fun e w' ⟨K',A',c',vs,he,hle,hvs,H⟩=>by
   obtain ⟨K2,hle2,H,hd⟩:=H.freezeRow hvs;exact ⟨K2,A',c',he,hle2.trans hle,H,hd⟩
theorem y79 {l:List NamedD} {A:Option Addr} {c n:Nat} (hn:n≤9000000) (hd:RD K (.list n (y0q l)) (.slice A n c)) (hl:l.length=n) (H:Hp w0 w K M):
  Calls Tryz.prog 128 #[.slice A n c] w fun e w'=>∃A' c' vs,e= .returned (.slice A' n c')∧RL K (y0q l) vs∧Hp w0 w' K (.row 113 3 (.slice A' n c') n vs::M):=by
 subst hl;go_enter Tryz.func128,Tryz.ntmps128
 go_wp2_with (refine oN H ?_;clear H;intro u A' c' w q _ _ H)
 go_ret;exact ⟨A',c',u,rfl,q,H⟩
theorem z9q {l:List NamedD} {A:Option Addr} {c n:Nat} (hn:n≤9000000) (hd:RD K (.list n (y0q l)) (.slice A n c)) (hl:l.length=n) (H:Hp w0 w K M):
  Calls Tryz.prog 128 #[.slice A n c] w fun e w'=>∃K' A' c',e= .returned (.slice A' n c')∧Sat K' K∧Hp w0 w' K' M∧RD K' (.list n (y0q l)) (.slice A' n c'):=
 (y79 hn hd hl H).mono fun e w' ⟨A',c',vs,he,hvs,H⟩=>by
   obtain ⟨K2,hle2,H,hd⟩:=H.freezeRow hvs;exact ⟨K2,A',c',he,hle2,H,hd⟩
theorem z5w {l:List RootD} {A:Option Addr} {c n:Nat} (hn:n≤9000000) (hd:RD K (.list n (y18 l)) (.slice A n c)) (hl:l.length=n) (H:Hp w0 w K M):
  Calls Tryz.prog 132 #[.slice A n c] w fun e w'=>∃A' c' vs,e= .returned (.slice A' n c')∧RL K (y18 l) vs∧Hp w0 w' K (.row 100 4 (.slice A' n c') n vs::M):=by
 subst hl;go_enter Tryz.func132,Tryz.ntmps132
 go_wp2_with (refine oN H ?_;clear H;intro u A' c' w q _ _ H)
 go_ret;exact ⟨A',c',u,rfl,q,H⟩
theorem x94 {l:List RootD} {A:Option Addr} {c n:Nat} (hn:n≤9000000) (hd:RD K (.list n (y18 l)) (.slice A n c)) (hl:l.length=n) (H:Hp w0 w K M):
  Calls Tryz.prog 132 #[.slice A n c] w fun e w'=>∃K' A' c',e= .returned (.slice A' n c')∧Sat K' K∧Hp w0 w' K' M∧RD K' (.list n (y18 l)) (.slice A' n c'):=
 (z5w hn hd hl H).mono fun e w' ⟨A',c',vs,he,hvs,H⟩=>by
   obtain ⟨K2,hle2,H,hd⟩:=H.freezeRow hvs;exact ⟨K2,A',c',he,hle2,H,hd⟩
end
section
variable {P : Program} {w0 w K K' : World} {M N : List Ent} {ops : Array Oper} {Q : Exit → Act → World → Prop} {F : List Nat} {fuel : Nat} {listed : Array Bool} {a : Act} {oi : Oper}
theorem rR (i:Nat) (H:Hp w0 w K' N) {s x:Operand} {t e:TypeId} {size bytes n m c r:Nat} {A:Option Addr} {ls:List Leaf} {v:Value} {vs:List Value} {a':Option Addr→Nat→Act}
  (h: ∀us A' c' w',RL K' ls us→n+m≤c'→c'≤maxLen→Hp w0 w' K' (N.set r (.row e size (.slice A' (n+m) c') (n+m) (vs++us)))→AnyL P .any ops Q (Ov w0 K M) F fuel (listed.setIfInBounds i true) (a' A' c') w')
  (hr:Region.ready .any ops listed=[i]:=by kernel_rfl) (hi:ops[i]?=some oi:=by (simp only [List.getElem?_toArray,List.getElem?_cons_zero,List.getElem?_cons_succ];try rfl))
  (ho:oi.op= .call {callee:=.builtin .append,args:= #[s,x],argTypes:= #[t,t]}:=by rfl) (hx:a.eval x= .slice A m c:=by first|exact (rfl:_=Value.slice _ _ _)|rfl|fail) (hsl:Sli P t e size bytes:=by infer_instance) (hs:a.eval s=v:=by first|exact (rfl:_=Value.slice _ _ _)|rfl|fail)
  (hri:N[r]?=some (.row e size v n vs):=by ((repeat (first|exact i0|apply iS))<;>fail)) (hd:RD K' (.list m ls) (.slice A m c):=by assumption) (hlen:ls.length=m*size:=by simp only [y3p,y9y,y83,y84,y85,y4p])
  (hb:(n+m)*bytes≤140737488355328:=by omega) (ha: ∀A' c',a.put oi.dst (.slice A' (n+m) c')=a' A' c':=by (intro A c;simp only [Act.put,List.getElem_toArray,List.getElem_cons_zero,List.getElem_cons_succ,List.setIfInBounds_toArray,List.set_cons_zero,List.set_cons_succ];try rfl))
  (hgd:oi.guard=none:=by rfl) (hle:Sat K' K:=by first|exact Sat.refl _|assumption|fail) (hsf: ∀A' c' us,Inc M (N.set r (.row e size (.slice A' (n+m) c') (n+m) (vs++us))):=by (intro A c us;dsimp only [List.set];first|((repeat (first|exact n0|exact nN|apply nD))<;>fail)|((repeat (first|exact n0|exact nN|refine nS (by ((repeat (first|exact u0|apply uS))<;>fail)) ?_|apply nD))<;>fail)|fail)):AnyL P .any ops Q (Ov w0 K M) F (fuel+1) listed a w:=
 held.step hr hi fun Kq hKq=>by
  obtain ⟨ti,z,hu,hti,hz,hsz,hby,hzs,h0,hb0⟩:=hsl.h;obtain ⟨us,h1,h2,h3,h4⟩:=x0n H hd;have hown:w.ownsRow 0 e size v n vs:=H.ok _ (Qaf hri);have hmul:(n+m)*1≤(n+m)*bytes:=Qb3 _ hb0;rw [if_pos (z26 hgd)];obtain ⟨v',w',hrun,g2,g3,g4⟩:=y9k (P:=P) w 0 t oi.type e ti z size bytes hu hti hz hsz hby hzs h0 v n vs hown w.heap.size A m c us (h3.trans hlen) h2 h4 (by simp only [maxLen];omega) hb (Qak _);unfold Oper.wp execOp;simp only [ho,resolve,invoke,builtin,Sem.run_bind,Sem.run_pure,Result.andThen_ok,List.map_toArray,List.map_cons,List.map_nil,hs,hx,hrun];have H':=H.setAt (e':=.row e size v' (n+m) (vs++us)) hri g3 g2 (g4.imp id fun h=>⟨_,h,Qab _⟩);obtain ⟨A',c',rfl,q2,q3⟩:=H'.slice (i:=r) (Qbv (Qac.1 hri).1);exact hKq.out _ _ (fun _=>⟨K',_,hle,H',hsf A' c' us⟩) (fun _=>by rw [ha A' c'];exact h us A' c' w' h1 q2 q3 H')
end
section
variable {w0 w K : World} {M : List Ent}
theorem y7n (d:DefD) (cs:Array Value) (H:Hp w0 w K M) (hm:defN d≤9000000) (hd:RL K (defL d) cs.toList):
  Calls Tryz.prog 86 #[.agg cs] w fun e w'=>∃K' V,e= .returned (.agg (DV.cells d V).toArray)∧Sat K' K∧Hp w0 w' K' (DV.rows d V++M)∧V.ok K' d:=by
 obtain ⟨kind,ext,⟨nh,nb,nt⟩,name,li,ld,lf,lp,lm,lv,lr,rep,lq,dl,dc⟩:=d;obtain ⟨A6,c6,A7,c7,A8,c8,A9,c9,A10,c10,A11,c11,A12,c12,A14,c14,hcs,h6,h7,h8,h9,h10,h11,h12,h14⟩:=y0c hd;obtain rfl:cs= #[_,_,_,_,_,_,_,_,_,_,_,_,_,_,_,_,_]:=Qal.1 hcs;dsimp only at h6 h7 h8 h9 h10 h11 h12 h14;simp only [defN] at hm
 have b6:li.length≤9000000∧sumN dirN ld≤9000000∧sumN y19 lf≤9000000∧sumN y1q lp≤9000000∧lm.length≤9000000∧sumN y2e lv≤9000000∧lr.length≤9000000∧lq.length≤9000000:=by omega
 obtain ⟨b6,b7,b8,b9,b10,b11,b12,b14⟩:=b6;clear hcs hd hm;have k6:=fun {w K M} (h:Hp w0 w K M) (hd:RD K (.list li.length (y0q li)) (.slice A6 li.length c6))=>y79 b6 hd rfl h;have k10:=fun {w K M} (h:Hp w0 w K M) (hd:RD K (.list lm.length (y0q lm)) (.slice A10 lm.length c10))=>y79 b10 hd rfl h;have k14:=fun {w K M} (h:Hp w0 w K M) (hd:RD K (.list lq.length (y0q lq)) (.slice A14 lq.length c14))=>y79 b14 hd rfl h;have k12:=fun {w K M} (h:Hp w0 w K M) (hd:RD K (.list lr.length (y18 lr)) (.slice A12 lr.length c12))=>z5w b12 hd rfl h;have k7:=fun {w K M} (h:Hp w0 w K M) (hd:RD K (.list ld.length (y11 ld)) (.slice A7 ld.length c7))=>z9p b7 hd h;have k8:=fun {w K M} (h:Hp w0 w K M) (hd:RD K (.list lf.length (y0r lf)) (.slice A8 lf.length c8))=>z4e b8 hd h;have k9:=fun {w K M} (h:Hp w0 w K M) (hd:RD K (.list lp.length (y0j lp)) (.slice A9 lp.length c9))=>z4d b9 hd h;have k11:=fun {w K M} (h:Hp w0 w K M) (hd:RD K (.list lv.length (y06 lv)) (.slice A11 lv.length c11))=>z4f b11 hd h;go_enter Tryz.func86,Tryz.ntmps86
 go_wp2_with (first|(refine oL H ?_)|(refine oP H ?_;clear H;intro w _ H)|((with_reducible refine (k6 H h6).mono ?_);clear H;rintro e w ⟨B6,e6,u6,rfl,q6,H⟩;clear k6)|((with_reducible refine (k7 H h7).mono ?_);clear H;rintro e w ⟨K2,B7,e7,u7,rfl,hle2,q7,H⟩;clear k7;replace q6:=q6.sat hle2;replace h8:=h8.sat hle2;replace h9:=h9.sat hle2;replace h10:=h10.sat hle2;replace h11:=h11.sat hle2;replace h12:=h12.sat hle2;replace h14:=h14.sat hle2)|((with_reducible refine (k8 H h8).mono ?_);clear H;rintro e w ⟨K3,B8,e8,u8,rfl,hle3,q8,H⟩;clear k8;replace q6:=q6.sat hle3;replace q7:=q7.sat hle3;replace h9:=h9.sat hle3;replace h10:=h10.sat hle3;replace h11:=h11.sat hle3;replace h12:=h12.sat hle3;replace h14:=h14.sat hle3)|((with_reducible refine (k9 H h9).mono ?_);clear H;rintro e w ⟨K4,B9,e9,u9,rfl,hle4,q9,H⟩;clear k9;replace q6:=q6.sat hle4;replace q7:=q7.sat hle4;replace q8:=q8.sat hle4;replace h10:=h10.sat hle4;replace h11:=h11.sat hle4;replace h12:=h12.sat hle4;replace h14:=h14.sat hle4)|((with_reducible refine (k10 H h10).mono ?_);clear H;rintro e w ⟨B10,e10,u10,rfl,q10,H⟩;clear k10)|((with_reducible refine (k11 H h11).mono ?_);clear H;rintro e w ⟨K5,B11,e11,u11,rfl,hle5,q11,H⟩;clear k11;replace q6:=q6.sat hle5;replace q7:=q7.sat hle5;replace q8:=q8.sat hle5;replace q9:=q9.sat hle5;replace q10:=q10.sat hle5;replace h12:=h12.sat hle5;replace h14:=h14.sat hle5)|((with_reducible refine (k12 H h12).mono ?_);clear H;rintro e w ⟨B12,e12,u12,rfl,q12,H⟩;clear k12)|((with_reducible refine (k14 H h14).mono ?_);clear H;rintro e w ⟨B14,e14,u14,rfl,q14,H⟩;clear k14))
 refine oB H ?_;refine ⟨K5,⟨.slice B8 lf.length e8,.slice B11 lv.length e11,.slice B6 li.length e6,.slice B10 lm.length e10,.slice B14 lq.length e14,.slice B12 lr.length e12,.slice B9 lp.length e9,.slice B7 ld.length e7,u8,u11,u6,u10,u14,u12,u9,u7⟩,rfl,((hle5.trans hle4).trans hle3).trans hle2,?_,q8,q11,q6,q10,q14,q12,q9,q7⟩;dsimp only [DV.rows];exact H.fin
theorem y8a (d:DefD) (cs:Array Value) (H:Hp w0 w K M) (hm:defN d≤9000000) (hd:RL K (defL d) cs.toList):
  Calls Tryz.prog 86 #[.agg cs] w fun e w'=>∃K' cs',e= .returned (.agg cs')∧Sat K' K∧Hp w0 w' K' M∧RL K' (defL d) cs'.toList:=
 (y7n d cs H hm hd).mono fun e w' ⟨K',V,he,hle,H,hV⟩=>by
   obtain ⟨K2,hle2,H,h⟩:=DV.freeze H hV;exact ⟨K2,_,he,hle2.trans hle,H,h⟩
theorem z4g (d more:DefD) (V:DV) (cs2:Array Value) (H:Hp w0 w K (DV.rows d V++M)) (hV:V.ok K d) (hm:defN d+defN more≤9000000) (hd2:RL K (defL more) cs2.toList):
  Calls Tryz.prog 120 #[.agg (DV.cells d V).toArray,.agg cs2] w fun e w'=>∃K' V',e= .returned (.agg (DV.cells (y0w d more) V').toArray)∧Sat K' K∧Hp w0 w' K' (DV.rows (y0w d more) V'++M)∧V'.ok K' (y0w d more):=by
 obtain ⟨v8,v11,v6,v10,v14,v12,v9,v7,x8,x11,x6,x10,x14,x12,x9,x7⟩:=V;obtain ⟨r8,r11,r6,r10,r14,r12,r9,r7⟩:=hV;dsimp only at r8 r11 r6 r10 r14 r12 r9 r7;obtain ⟨D6,f6,D7,f7,D8,f8,D9,f9,D10,f10,D11,f11,D12,f12,D14,f14,hcs,h6,h7,h8,h9,h10,h11,h12,h14⟩:=y0c hd2;obtain rfl:cs2= #[_,_,_,_,_,_,_,_,_,_,_,_,_,_,_,_,_]:=Qal.1 hcs;dsimp only [DV.rows,DV.cells,List.cons_append,List.nil_append] at H ⊢;obtain ⟨V8,c8,rfl,-,-⟩:=H.slice (i:=0) rfl;obtain ⟨V11,c11,rfl,-,-⟩:=H.slice (i:=1) rfl;obtain ⟨V6,c6,rfl,-,-⟩:=H.slice (i:=2) rfl;obtain ⟨V10,c10,rfl,-,-⟩:=H.slice (i:=3) rfl;obtain ⟨V14,c14,rfl,-,-⟩:=H.slice (i:=4) rfl;obtain ⟨V12,c12,rfl,-,-⟩:=H.slice (i:=5) rfl;obtain ⟨V9,c9,rfl,-,-⟩:=H.slice (i:=6) rfl;obtain ⟨V7,c7,rfl,-,-⟩:=H.slice (i:=7) rfl;have s7:=y0l y3y d.dirs;have s8:=y0l y2m d.fields;have s9:=y0l y2l d.inputs;have s11:=y0l y3q d.values;have t7:=y0l y3y more.dirs;have t8:=y0l y2m more.fields;have t9:=y0l y2l more.inputs;have t11:=y0l y3q more.values;simp only [defN] at hm
 have b:more.ifaces.length≤9000000∧sumN dirN more.dirs≤9000000∧sumN y19 more.fields≤9000000∧sumN y1q more.inputs≤9000000∧more.members.length≤9000000∧sumN y2e more.values≤9000000∧more.roots.length≤9000000∧
   d.ifaces.length+more.ifaces.length≤9000000∧d.dirs.length+more.dirs.length≤9000000∧d.fields.length+more.fields.length≤9000000∧d.inputs.length+more.inputs.length≤9000000∧d.members.length+more.members.length≤9000000∧d.values.length+more.values.length≤9000000∧d.roots.length+more.roots.length≤9000000:=by omega
 obtain ⟨b6,b7,b8,b9,b10,b11,b12,e6,e7,e8,e9,e10,e11,e12⟩:=b;clear hm s7 s8 s9 s11 t7 t8 t9 t11 hcs hd2 h14;have k6:=fun {w K M} (h:Hp w0 w K M) (hd:RD K (.list more.ifaces.length (y0q more.ifaces)) (.slice D6 more.ifaces.length f6))=>z9q b6 hd rfl h;have k10:=fun {w K M} (h:Hp w0 w K M) (hd:RD K (.list more.members.length (y0q more.members)) (.slice D10 more.members.length f10))=>z9q b10 hd rfl h;have k12:=fun {w K M} (h:Hp w0 w K M) (hd:RD K (.list more.roots.length (y18 more.roots)) (.slice D12 more.roots.length f12))=>x94 b12 hd rfl h;have k7:=fun {w K M} (h:Hp w0 w K M) (hd:RD K (.list more.dirs.length (y11 more.dirs)) (.slice D7 more.dirs.length f7))=>z2d b7 hd h;have k8:=fun {w K M} (h:Hp w0 w K M) (hd:RD K (.list more.fields.length (y0r more.fields)) (.slice D8 more.fields.length f8))=>x54 b8 hd h;have k9:=fun {w K M} (h:Hp w0 w K M) (hd:RD K (.list more.inputs.length (y0j more.inputs)) (.slice D9 more.inputs.length f9))=>z5v b9 hd h;have k11:=fun {w K M} (h:Hp w0 w K M) (hd:RD K (.list more.values.length (y06 more.values)) (.slice D11 more.values.length f11))=>x55 b11 hd h;clear b6 b7 b8 b9 b10 b11 b12;have hK:=Sat.refl K;go_enter Tryz.func120,Tryz.ntmps120
 go_upto_region 1 with (first|(refine oL H ?_)|(refine oA 2 H ?_;clear H;intro w gd H)|(refine oA 3 H ?_;clear H;intro w gx H)|(refine oA 4 H ?_;clear H;intro w go H)|(refine oP H ?_;clear H;intro w _ H))
 refine rN [.box gd _ _,.box gx _ _] [7] H ?_;clear H;intro w H;refine rT 0 H ?_;refine rT 1 H ?_;refine rT 2 H ?_;refine rT 3 H ?_;refine rC 4 (k6 H h6) ?_;clear H;rintro e w ⟨K2,B,b,rfl,hle,H,hb⟩;refine rX H ?_;refine rR 5 H ?_;clear H;intro z A' c' w z6 _ _ H;dsimp only [List.set] at H;refine rT 6 H ?_;refine rL 7 H ?_;clear H;intro w _ H;refine rE ?_;replace hK:=hle.trans hK;clear k6 h6;replace h7:=h7.sat hle;replace h8:=h8.sat hle;replace h9:=h9.sat hle;replace h10:=h10.sat hle;replace h11:=h11.sat hle;replace h12:=h12.sat hle;clear hb hle
 go_wp2_with fail
 refine rN [.box gd _ _,.box gx _ _] [7] H ?_;clear H;intro w H;refine rT 0 H ?_;refine rT 1 H ?_;refine rT 2 H ?_;refine rT 3 H ?_;refine rC 4 (k7 H h7) ?_;clear H;rintro e w ⟨K2,B,b,rfl,hle,H,hb⟩;refine rX H ?_;refine rR 5 H ?_;clear H;intro z A' c' w z7 _ _ H;dsimp only [List.set] at H;refine rT 6 H ?_;refine rL 7 H ?_;clear H;intro w _ H;refine rE ?_;replace hK:=hle.trans hK;clear k7 h7;replace z6:=z6.sat hle;replace h8:=h8.sat hle;replace h9:=h9.sat hle;replace h10:=h10.sat hle;replace h11:=h11.sat hle;replace h12:=h12.sat hle;clear hb hle
 go_wp2_with fail
 refine rN [.box gd _ _,.box gx _ _] [7] H ?_;clear H;intro w H;refine rT 0 H ?_;refine rT 1 H ?_;refine rT 2 H ?_;refine rT 3 H ?_;refine rC 4 (k8 H h8) ?_;clear H;rintro e w ⟨K2,B,b,rfl,hle,H,hb⟩;refine rX H ?_;refine rR 5 H ?_;clear H;intro z A' c' w z8 _ _ H;dsimp only [List.set] at H;refine rT 6 H ?_;refine rL 7 H ?_;clear H;intro w _ H;refine rE ?_;replace hK:=hle.trans hK;clear k8 h8;replace z6:=z6.sat hle;replace z7:=z7.sat hle;replace h9:=h9.sat hle;replace h10:=h10.sat hle;replace h11:=h11.sat hle;replace h12:=h12.sat hle;clear hb hle
 go_wp2_with fail
 refine rN [.box gd _ _,.box gx _ _] [7] H ?_;clear H;intro w H;refine rT 0 H ?_;refine rT 1 H ?_;refine rT 2 H ?_;refine rT 3 H ?_;refine rC 4 (k9 H h9) ?_;clear H;rintro e w ⟨K2,B,b,rfl,hle,H,hb⟩;refine rX H ?_;refine rR 5 H ?_;clear H;intro z A' c' w z9 _ _ H;dsimp only [List.set] at H;refine rT 6 H ?_;refine rL 7 H ?_;clear H;intro w _ H;refine rE ?_;replace hK:=hle.trans hK;clear k9 h9;replace z6:=z6.sat hle;replace z7:=z7.sat hle;replace z8:=z8.sat hle;replace h10:=h10.sat hle;replace h11:=h11.sat hle;replace h12:=h12.sat hle;clear hb hle
 go_wp2_with fail
 refine rN [.box gd _ _,.box gx _ _] [7] H ?_;clear H;intro w H;refine rT 0 H ?_;refine rT 1 H ?_;refine rT 2 H ?_;refine rT 3 H ?_;refine rC 4 (k10 H h10) ?_;clear H;rintro e w ⟨K2,B,b,rfl,hle,H,hb⟩;refine rX H ?_;refine rR 5 H ?_;clear H;intro z A' c' w z10 _ _ H;dsimp only [List.set] at H;refine rT 6 H ?_;refine rL 7 H ?_;clear H;intro w _ H;refine rE ?_;replace hK:=hle.trans hK;clear k10 h10;replace z6:=z6.sat hle;replace z7:=z7.sat hle;replace z8:=z8.sat hle;replace z9:=z9.sat hle;replace h11:=h11.sat hle;replace h12:=h12.sat hle;clear hb hle
 go_wp2_with fail
 refine rN [.box gd _ _,.box gx _ _] [7] H ?_;clear H;intro w H;refine rT 0 H ?_;refine rT 1 H ?_;refine rT 2 H ?_;refine rT 3 H ?_;refine rC 4 (k11 H h11) ?_;clear H;rintro e w ⟨K2,B,b,rfl,hle,H,hb⟩;refine rX H ?_;refine rR 5 H ?_;clear H;intro z A' c' w z11 _ _ H;dsimp only [List.set] at H;refine rT 6 H ?_;refine rL 7 H ?_;clear H;intro w _ H;refine rE ?_;replace hK:=hle.trans hK;clear k11 h11;replace z6:=z6.sat hle;replace z7:=z7.sat hle;replace z8:=z8.sat hle;replace z9:=z9.sat hle;replace z10:=z10.sat hle;replace h12:=h12.sat hle;clear hb hle
 go_wp2_with fail
 refine rN [.box gd _ _,.box gx _ _] [7] H ?_;clear H;intro w H;refine rT 0 H ?_;refine rT 1 H ?_;refine rT 2 H ?_;refine rT 3 H ?_;refine rC 4 (k12 H h12) ?_;clear H;rintro e w ⟨K2,B,b,rfl,hle,H,hb⟩;refine rX H ?_;refine rR 5 H ?_;clear H;intro z A' c' w z12 _ _ H;dsimp only [List.set] at H;refine rT 6 H ?_;refine rL 7 H ?_;clear H;intro w _ H;refine rE ?_;replace hK:=hle.trans hK;clear k12 h12;replace z6:=z6.sat hle;replace z7:=z7.sat hle;replace z8:=z8.sat hle;replace z9:=z9.sat hle;replace z10:=z10.sat hle;replace z11:=z11.sat hle;clear hb hle
 go_wp2_with (first|(refine oL H ?_)|(refine oP H ?_;clear H;intro w _ H))
 refine oB H ?_;simp only [←Qae] at H ⊢;refine ⟨_,⟨_,_,_,_,.slice V14 d.places.length c14,_,_,_,_,_,_,_,_,_,_,_⟩,rfl,hK,H.fin,?_⟩;exact ⟨by dsimp only [y0w];rw [y16];exact (r8.sat hK).app z8,by dsimp only [y0w];rw [y22];exact (r11.sat hK).app z11,by dsimp only [y0w];rw [y23];exact (r6.sat hK).app z6,by dsimp only [y0w];rw [y23];exact (r10.sat hK).app z10,r14.sat hK,by dsimp only [y0w];rw [y26];exact (r12.sat hK).app z12,by dsimp only [y0w];rw [y3m];exact (r9.sat hK).app z9,by dsimp only [y0w];rw [y4x];exact (r7.sat hK).app z7⟩
end
def x1q (c:UInt8):Bool:=c==33||c==93
def refA (s:Txt):Nat:=(s.takeWhile (· ==91)).length
def refZ (s:Txt):Nat:=s.length - (s.reverse.takeWhile x1q).length
def refF (s:Txt):Txt×Txt:=((s.take (refZ s)).drop (refA s),s.drop (refZ s))
theorem z0h {α:Type} {p:α→Bool}: ∀(l:List α) (k:Nat),(k<(l.takeWhile p).length→ ∃x,l[k]?=some x∧p x=true)∧(k=(l.takeWhile p).length→ ∀x,l[k]?=some x→p x=false)
 |[],k=>⟨fun h=>by simp at h,fun h x hx=>by simp at hx⟩
 |y::r,k=>by
  by_cases hy:p y=true
  ·rw [List.takeWhile_cons_of_pos hy,List.length_cons]
   cases k with
   |zero=>exact ⟨fun _=>⟨y,rfl,hy⟩,fun h=>by omega⟩
   |succ k=>
    have ih:=z0h r k (p:=p);exact ⟨fun h=>by rw [List.getElem?_cons_succ];exact ih.1 (by omega),fun h=>by rw [List.getElem?_cons_succ];exact ih.2 (by omega)⟩
  ·rw [List.takeWhile_cons_of_neg hy]
   exact ⟨fun h=>by simp at h,fun h x hx=>by
    simp only [List.length_nil] at h;subst h;simp only [List.getElem?_cons_zero,Option.some.injEq] at hx
    subst hx;simpa using hy⟩
theorem z9r {α:Type} {p:α→Bool} (l:List α):(l.takeWhile p).length≤l.length:=(List.takeWhile_sublist p).length_le
instance sli27:Sli Tryz.prog 27 9 1 16:=⟨sli Tryz.underlying27 (z:=.string ⟨#[]⟩) (by kernel_rfl)⟩
section
variable {w0 w K : World} {M : List Ent}
theorem z2e (s:Txt) (hs:s.length≤1000000) (H:Hp w0 w K M):
  Calls Tryz.prog 121 #[.string (str s)] w fun e w'=>∃K' A c,e= .returned (.slice A (y08 s).length c)∧Sat K' K∧Hp w0 w' K' M∧RD K' (.list (y08 s).length (y0p (y08 s))) (.slice A (y08 s).length c):=by
 have hsz:=y2j s;go_enter Tryz.func121,Tryz.ntmps121
 go_wp2_with fail
 replace H:=H.nilRow 9 1
 go_loopw [3,4,5] (fun v f i wr=>∃(k:Nat) (A':Option Addr) (c':Nat) (vs:List Value),k≤s.length+1∧i= .int .i64 k∧f= .int .i64 (y0o s k).1∧v= .slice A' (y0o s k).2.length c'∧RL K (y0p (y0o s k).2) vs∧Hp w0 wr K (.row 9 1 (.slice A' (y0o s k).2.length c') (y0o s k).2.length vs::M)) (fun _ _ i _=>s.length+1 - (intOf i).toNat)
 case atStart=>exact ⟨0,none,0,[],Qak _,rfl,rfl,rfl,.nil (Qab _),H⟩
 case round=>
  clear H;obtain ⟨k,A',c',vs,hk,rfl,rfl,rfl,hvs,H⟩:=hrel;have hle:=y49 s k;by_cases hlt:k<s.length+1
  ·have hkI:(k:Int)≤(s.length:Int):=by omega
   have hwr:IntKind.i64.wrap ((k:Int)+1)=k+1:=IntWalk.i64_in _ (by omega);by_cases hin:k<s.length∧s[k]?≠some 32
   ·have E1:=hide (x1t hin);have h1:=hin.1
    have h1I:(k:Int)<(s.length:Int):=by omega
    have h2: ∀hq:k<(str s).size,((((str s)[k]'hq).toNat:Int) !=32)=true:=fun hq=>by
     rw [y4a h1 hq,Qa8];intro e;exact hin.2 (by rw [Qad h1];exact congrArg some (Qb2.1 (show _=32 by omega)))
    have h2:=h2 (by rw [hsz];exact h1);clear hin
    go_wp2_with fail
    go_roundw
    case rel=>exact ⟨k+1,A',c',vs,by omega,by go_num,by rw [E1.out],by rw [E1.out],by rw [E1.out];exact hvs,by rw [E1.out];exact H⟩
    case measure=>simp [intOf];omega
   ·have hg: ∀hq:k<(str s).size,((((str s)[k]'hq).toNat:Int) !=32)=false:=fun hq=>by
     have h1:k<s.length:=by rw [←hsz];exact hq
     have h3:s[k]?=some 32:=Qbl fun h=>hin ⟨h1,h⟩;rw [Qad h1] at h3;injection h3 with h3;have e:=(y4a h1 hq).trans h3;rw [e];rfl
    have HG:=hide hg
    have hks:k≤(str s).size:=by omega
    by_cases hf:(y0o s k).1<k
    ·have E1:=hide (z7g hin hf)
     have hfI:((y0o s k).1:Int)<(k:Int):=by omega
     have hfk:(y0o s k).1≤k:=by omega
     clear hin hg;rcases Qbm k s.length with h1|h1
     ·have h1I:(k:Int)<(s.length:Int):=by omega
      have h2:=HG.out (by rw [hsz];exact h1)
      go_wp2_with (first|(refine oL H ?_)|(refine oP H ?_;clear H;intro w _ H)|(refine oQ H ?_;clear H;intro A' c' w _ _ H;dsimp only [List.set] at H))
      go_roundw
      case rel=>exact ⟨k+1,_,_,_,by omega,by go_num,by rw [E1.out];rfl,by rw [E1.out,Qae];rfl,by rw [E1.out];exact y9f hvs,by rw [E1.out,Qae];rw [y2x] at H;exact H.fin⟩
      case measure=>simp [intOf];omega
     ·have h1I: ¬((k:Int)<(s.length:Int)):=by omega
      go_wp2_with (first|(refine oL H ?_)|(refine oP H ?_;clear H;intro w _ H)|(refine oQ H ?_;clear H;intro A' c' w _ _ H;dsimp only [List.set] at H))
      go_roundw
      case rel=>exact ⟨k+1,_,_,_,by omega,by go_num,by rw [E1.out];rfl,by rw [E1.out,Qae];rfl,by rw [E1.out];exact y9f hvs,by rw [E1.out,Qae];rw [y2x] at H;exact H.fin⟩
      case measure=>simp [intOf];omega
    ·have E1:=hide (z4o hin hf)
     have hfI: ¬(((y0o s k).1:Int)<(k:Int)):=by omega
     have hfk:(y0o s k).1≤k:=by omega
     clear hin hg;rcases Qbm k s.length with h1|h1
     ·have h1I:(k:Int)<(s.length:Int):=by omega
      have h2:=HG.out (by rw [hsz];exact h1)
      go_wp2_with fail
      go_roundw
      case rel=>exact ⟨k+1,A',c',vs,by omega,by go_num,by rw [E1.out];rfl,by rw [E1.out],by rw [E1.out];exact hvs,by rw [E1.out];exact H⟩
      case measure=>simp [intOf];omega
     ·have h1I: ¬((k:Int)<(s.length:Int)):=by omega
      go_wp2_with fail
      go_roundw
      case rel=>exact ⟨k+1,A',c',vs,by omega,by go_num,by rw [E1.out];rfl,by rw [E1.out],by rw [E1.out];exact hvs,by rw [E1.out];exact H⟩
      case measure=>simp [intOf];omega
  ·obtain rfl:k=s.length+1:=by omega
   have hkI: ¬(((s.length+1:Nat):Int)≤(s.length:Int)):=by omega
   go_wp2_with fail
   go_ret;obtain ⟨K2,hle2,H,hd⟩:=H.freezeRow hvs;exact ⟨K2,A',c',rfl,hle2,H,hd⟩
theorem z4h (s:Txt) (hs:s.length≤1000000) (hok:refA s<refZ s) (H:Hp w0 w K M):
  Calls Tryz.prog 125 #[.string (str s)] w fun e w'=>e= .returned (.agg #[.string (str (refF s).1),.string (str (refF s).2)])∧Hp w0 w' K M:=by
 have hsz:=y2j s;obtain ⟨a,ha⟩: ∃a,refA s=a:=⟨_,rfl⟩;obtain ⟨z,hz⟩: ∃z,refZ s=z:=⟨_,rfl⟩;obtain ⟨n,hn⟩: ∃n,s.length=n:=⟨_,rfl⟩
 have hzn:z≤n:=by rw [←hz,←hn];exact Nat.sub_le _ _
 have hF:refF s=((s.take z).drop a,s.drop z):=by rw [←ha,←hz];rfl
 rw [ha,hz] at hok;rw [hF]
 have h1: ∀k,k<a→ ∀hq:k<(str s).size,((((str s)[k]'hq).toNat:Int)==91)=true:=fun k hk hq=>by
  obtain ⟨x,hx,hp⟩:=(z0h s k (p:=(· ==91))).1 (by unfold refA at ha;omega);have hk2:k<s.length:=(Qac.1 hx).1;rw [Qad hk2] at hx;injection hx with hx;have e:=(y4a hk2 hq).trans hx;rw [e,eq_of_beq hp];rfl
 have h2: ∀hq:a<(str s).size,((((str s)[a]'hq).toNat:Int)==91)=false:=fun hq=>by
  have hk2:a<s.length:=by rw [←hsz];exact hq
  rw [y4a hk2 hq];have hp:=(z0h s a (p:=(· ==91))).2 (by unfold refA at ha;omega) _ (Qad hk2);rw [Qa3] at hp ⊢;exact fun e=>hp (Qb2.1 (show _=91 by omega))
 have hrev: ∀k,k<n→s.reverse[k]?=s[n - 1 - k]?:=fun k hk=>by rw [List.getElem?_reverse (by omega),hn]
 have h3: ∀k,z≤k→k<n→ ∀hq:k<(str s).size,((((str s)[k]'hq).toNat:Int)==33)=true∨(((((str s)[k]'hq).toNat:Int)==33)=false∧((((str s)[k]'hq).toNat:Int)==93)=true):=fun k hk hkn hq=>by
  have hl:=z9r (p:=x1q) s.reverse;rw [List.length_reverse] at hl;obtain ⟨x,hx,hp⟩:=(z0h s.reverse (n - 1 - k) (p:=x1q)).1 (by unfold refZ at hz;omega);rw [hrev _ (by omega),show n - 1 - (n - 1 - k)=k by omega] at hx
  have hk2:k<s.length:=by omega
  rw [Qad hk2] at hx;injection hx with hx;have e:=(y4a hk2 hq).trans hx;rw [e];unfold x1q at hp;rw [Bool.or_eq_true] at hp;rcases hp with hp|hp
  ·rw [eq_of_beq hp];exact .inl rfl
  ·rw [eq_of_beq hp];exact .inr ⟨rfl,rfl⟩
 have h4: ∀hq:z - 1<(str s).size,((((str s)[z - 1]'hq).toNat:Int)==33)=false∧((((str s)[z - 1]'hq).toNat:Int)==93)=false:=fun hq=>by
  have hl:=z9r (p:=x1q) s.reverse;rw [List.length_reverse] at hl
  have hk2:z - 1<s.length:=by omega
  have hp:=(z0h s.reverse (n - z) (p:=x1q)).2 (by unfold refZ at hz;omega) s[z - 1] (by rw [hrev _ (by omega),show n - 1 - (n - z)=z - 1 by omega];exact Qad hk2);rw [y4a hk2 hq];unfold x1q at hp;rw [Bool.or_eq_false_iff,Qa3,Qa3] at hp;exact ⟨Qa3.2 fun e=>hp.1 (Qb2.1 (show _=33 by omega)),Qa3.2 fun e=>hp.2 (Qb2.1 (show _=93 by omega))⟩
 rw [hn] at hs hsz;have S1:=hide h1;have S2:=hide h2;have S3:=hide h3;have S4:=hide h4;clear h1 h2 h3 h4 hrev ha hz hF;go_enter Tryz.func125,Tryz.ntmps125
 go_upto_region 2 with (first|(refine oL H ?_)|(refine oA 2 H ?_;clear H;intro w g2 H)|(refine oP H ?_;clear H;intro w _ H))
 go_loopw [3] (fun i wr=>∃k:Nat,k≤a∧i= .int .i64 k∧Hp w0 wr K (.box g2 [.string ⟨#[]⟩,.string ⟨#[]⟩] 50::M)) (fun i _=>a - (intOf i).toNat)
 case atStart=>exact ⟨0,Qak _,rfl,H⟩
 case round=>
  clear H;obtain ⟨k,hk,rfl,H⟩:=hrel
  have hkn:k<(str s).size:=by omega
  by_cases hlt:k<a
  ·have hb:=S1.out k hlt hkn;have hwr:IntKind.i64.wrap ((k:Int)+1)=k+1:=IntWalk.i64_in _ (by omega)
   go_wp2_with fail
   go_roundw
   case rel=>exact ⟨k+1,by omega,by go_num,H⟩
   case measure=>simp [intOf];omega
  ·obtain rfl:k=a:=by omega
   have hb:=S2.out hkn
   go_wp2_with fail
   go_loopw [4] (fun i wr=>∃t:Nat,z≤t∧t≤n∧i= .int .i64 t∧Hp w0 wr K (.box g2 [.string ⟨#[]⟩,.string ⟨#[]⟩] 50::M)) (fun i _=>(intOf i).toNat - z)
   case atStart=>exact ⟨n,hzn,Qab _,rfl,H⟩
   case round=>
    clear H hb;obtain ⟨t,hzt,htn,rfl,H⟩:=hrel
    have ht0:t - 1<(str s).size:=by omega
    have hwr:IntKind.i64.wrap ((t:Int) - 1)=((t - 1:Nat):Int):=by rw [IntWalk.i64_in _ (by omega)];omega
    by_cases hlt:z<t
    ·rcases S3.out (t - 1) (by omega) (by omega) ht0 with hb|⟨hb,hb2⟩
     ·go_wp2_with fail
      go_roundw
      case rel=>exact ⟨t - 1,by omega,by omega,by go_num,H⟩
      case measure=>simp [intOf];omega
     ·go_wp2_with fail
      go_roundw
      case rel=>exact ⟨t - 1,by omega,by omega,by go_num,H⟩
      case measure=>simp [intOf];omega
    ·obtain rfl:t=z:=by omega
     obtain ⟨hb,hb2⟩:=S4.out ht0
     go_wp2_with fail
     have hfk:k≤t:=by omega
     have hks:t≤(str s).size:=by omega
     have e1:=y2x s k t;have e2:=y2x s t (str s).size;refine rB [8] H ?_;clear H;intro w H;refine rT 0 H ?_;refine rT 1 H ?_;refine rT 2 H ?_;refine rT 3 H ?_;refine rT 4 H ?_;refine rT 5 H ?_;refine rT 6 H ?_;refine rT 7 H ?_;refine rL 8 H ?_;clear H;intro w _ H;refine rE ?_
     go_wp2_with fail
     refine oB H ?_;refine ⟨?_,H.fin⟩;rw [List.drop_take,←e1];rw [Qaj (by rw [Qav];omega)] at e2;rw [←e2,hsz]
theorem y4s (s:ByteArray) (A:Option Addr) (n c:Nat) (H:Hp w0 w K M):
  Calls Tryz.prog 122 #[.string s,.slice A n c] w fun e w'=>e= .returned (.agg #[.int .i64 3,.bool false,.bool false,.bool false,.string ⟨#[]⟩,.string s,.slice none 0 0,.slice none 0 0,.slice A n c,.slice none 0 0,.slice none 0 0,.slice none 0 0,.slice none 0 0,.bool false,.slice none 0 0,.int .i64 0,.int .i64 0])∧Hp w0 w' K M:=by
 go_enter Tryz.func122,Tryz.ntmps122
 go_wp2_with (first|(refine oL H ?_)|(refine oP H ?_;clear H;intro w _ H))
 refine oB H ?_;exact ⟨rfl,H.fin⟩
theorem y5i {l:List Txt} {n c k:Nat} {A:Option Addr} (h:RD K (.list n (y0p l)) (.slice A n c)) (hk:k<l.length): ∃ad x,A=some ad∧l[k]?=some x∧At K (ad.add k) [.string (str x)]:=by
 obtain ⟨ad,vs,h1,h2,_,_,h5,h6⟩:=y82 (m:=1) (f:=fun x=>[str' x]) (fun _=>rfl) (y9g l▸h) (Qad hk) (by omega);obtain ⟨r0,rfl,h0⟩:=h2.lit_inv;obtain rfl:=h0.nil_inv;rw [Nat.mul_one] at h5 h6;exact ⟨ad,_,h1,Qad hk,h5,h6⟩
theorem z5x (s:Txt) (hs:s.length≤1000000) (H:Hp w0 w K M) {l:List Txt} (hl:y08 s=l):
  Calls Tryz.prog 124 #[.string (str s)] w fun e w'=>∃K' A c,e= .returned (.slice A l.length c)∧Sat K' K∧Hp w0 w' K' M∧RD K' (.list l.length (y06 (l.map valD))) (.slice A l.length c):=by
 have hw:=(y49 s (s.length+1)).2;have hsp:=fun {w K M} (H:Hp w0 w K M)=>z2e s hs H;rw [show (y0o s (s.length+1)).2=y08 s from rfl,hl] at hw;rw [hl] at hsp;obtain ⟨n,hn⟩: ∃n,l.length=n:=⟨_,rfl⟩;rw [hn] at hw hsp ⊢;have HN:=hide hn;clear hn hl;go_enter Tryz.func124,Tryz.ntmps124
 go_upto_region 3 with (first|(refine oL H ?_)|(refine oP H ?_;clear H;intro w _ H)|((with_reducible refine (hsp H).mono ?_);clear H;rintro e w ⟨K1,A1,c1,rfl,hle1,H,hd⟩))
 clear hsp
 go_wp2_with fail
 replace H:=H.nilRow 133 7
 go_loopw [3,5] (fun v i wr=>∃(k:Nat) (A':Option Addr) (c':Nat) (vs:List Value),k≤n∧i= .int .i64 k∧v= .slice A' k c'∧RL K1 (y06 ((l.take k).map valD)) vs∧Hp w0 wr K1 (.row 133 7 (.slice A' k c') k vs::M)) (fun _ i _=>n - (intOf i).toNat)
 case atStart=>exact ⟨0,none,0,[],Qak _,rfl,rfl,.nil (Qab _),H⟩
 case round=>
  clear H;obtain ⟨k,A',c',vs,hk,rfl,rfl,hvs,H⟩:=hrel;by_cases hlt:k<n
  ·obtain ⟨ad,x,rfl,hx,hat⟩:=y5i hd (by rw [HN.out];exact hlt);obtain ⟨hkI,hwr⟩:=wr_k hlt (by omega);have HX:=hide (y0k hx);clear hx
   go_wp2_with (first|(refine oL H ?_)|(refine oP H ?_;clear H;intro w _ H)|(refine oQ H ?_;clear H;intro A' c' w _ _ H;dsimp only [List.set] at H))
   go_roundw
   case rel=>exact ⟨k+1,_,_,_,by omega,by go_num,rfl,by rw [HX.out,Qas,y22];exact hvs.app (y8e (f:=y5b) (y7v RD.z)),H.fin⟩
   case measure=>simp [intOf];omega
  ·obtain rfl:k=n:=by omega
   rw [Qaj (by rw [HN.out];exact Qab _)] at hvs
   go_wp2_with fail
   go_ret;obtain ⟨K2,hle2,H,hd⟩:=H.freezeRow hvs;exact ⟨K2,A',c',rfl,hle2.trans hle1,H,hd⟩
theorem z1c (s:Txt) (hs:s.length≤1000000) (H:Hp w0 w K M) {l:List Txt} (hl:y08 s=l):
  Calls Tryz.prog 126 #[.string (str s)] w fun e w'=>∃K' A c,e= .returned (.slice A l.length c)∧Sat K' K∧Hp w0 w' K' M∧RD K' (.list l.length (y0q (l.map plD))) (.slice A l.length c):=by
 have hw:=(y49 s (s.length+1)).2;have hsp:=fun {w K M} (H:Hp w0 w K M)=>z2e s hs H;rw [show (y0o s (s.length+1)).2=y08 s from rfl,hl] at hw;rw [hl] at hsp;obtain ⟨n,hn⟩: ∃n,l.length=n:=⟨_,rfl⟩;rw [hn] at hw hsp ⊢;have HN:=hide hn;clear hn hl;go_enter Tryz.func126,Tryz.ntmps126
 go_upto_region 3 with (first|(refine oL H ?_)|(refine oP H ?_;clear H;intro w _ H)|((with_reducible refine (hsp H).mono ?_);clear H;rintro e w ⟨K1,A1,c1,rfl,hle1,H,hd⟩))
 clear hsp
 go_wp2_with fail
 replace H:=H.nilRow 113 3
 go_loopw [3,5] (fun v i wr=>∃(k:Nat) (A':Option Addr) (c':Nat) (vs:List Value),k≤n∧i= .int .i64 k∧v= .slice A' k c'∧RL K1 (y0q ((l.take k).map plD)) vs∧Hp w0 wr K1 (.row 113 3 (.slice A' k c') k vs::M)) (fun _ i _=>n - (intOf i).toNat)
 case atStart=>exact ⟨0,none,0,[],Qak _,rfl,rfl,.nil (Qab _),H⟩
 case round=>
  clear H;obtain ⟨k,A',c',vs,hk,rfl,rfl,hvs,H⟩:=hrel;by_cases hlt:k<n
  ·obtain ⟨ad,x,rfl,hx,hat⟩:=y5i hd (by rw [HN.out];exact hlt);obtain ⟨hkI,hwr⟩:=wr_k hlt (by omega);have HX:=hide (y0k hx);clear hx
   go_wp2_with (first|(refine oL H ?_)|(refine oP H ?_;clear H;intro w _ H)|(refine oQ H ?_;clear H;intro A' c' w _ _ H;dsimp only [List.set] at H))
   go_roundw
   case rel=>exact ⟨k+1,_,_,_,by omega,by go_num,rfl,by rw [HX.out,Qas,y23];exact hvs.app (y8e (f:=y7b) (.lit (.lit (.lit (.nil (Qab _)))))),H.fin⟩
   case measure=>simp [intOf];omega
  ·obtain rfl:k=n:=by omega
   rw [Qaj (by rw [HN.out];exact Qab _)] at hvs
   go_wp2_with fail
   go_ret;obtain ⟨K2,hle2,H,hd⟩:=H.freezeRow hvs;exact ⟨K2,A',c',rfl,hle2.trans hle1,H,hd⟩
end
end Go.Proofs.YtbpgkkoeehopjaaGreat.hp
