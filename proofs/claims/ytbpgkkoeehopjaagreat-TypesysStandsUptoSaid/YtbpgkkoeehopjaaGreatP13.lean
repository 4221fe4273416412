/- Part 13 of a proof: see the text that holds the statement. -/
import Derived.Test.YtbpgkkoeehopjaaGreatP9
import Derived.Test.YtbpgkkoeehopjaaGreatP12
import Derived.Deep.QuietTactic
import Derived.BigQuiet
import Derived.Shelf.SlSortCmp.Whole1
import Derived.KernelRfl
import Derived.Shelf.SlSortCmp.NoneTotal
set_option linter.unusedVariables false
set_option linter.unusedSimpArgs false
namespace Go.Proofs.YtbpgkkoeehopjaaGreat.hp
open Go.RowKit words enc tree gram lex rd dec dat held ty
set_option maxRecDepth 100000
attribute [local go_sem ↓] Go.wp_at_zero Go.wp_at_succ
theorem z5y: ∀(n:Nat) (l:List Nat),l.Nodup→(∀x∈l,x<n)→l.length≤n
 |0,l,_,h=>by
  cases l with
  |nil=>exact Qab _
  |cons a r=>exact absurd (h a (Qaz ..)) (Nat.not_lt_zero _)
 |n+1,l,hn,h=>by
  have h1:(l.erase n).length≤n:=z5y n (l.erase n) (hn.erase n) (fun x hx=>by
   have hm:=(List.Nodup.mem_erase_iff hn).1 hx;have:=h x hm.2;have:=hm.1
   omega)
  have h2:l.length≤(l.erase n).length+1:=by
   rw [List.length_erase];split<;>omega
  omega
def q07 (w:World) (r:Nat):Nat:=match w.heap[r]? with|some (.mapIter _ _ s _)=>s.size|_=>0
theorem y9o {w0 w K:World} {M:List Ent} {r b n:Nat} {s:Array Nat} (H:Hp w0 w K (iter r b n s::M)):q07 w r=s.size:=by
 have h:w.heap[r]?=some (.mapIter (some b) n s n):=H.ok _ (Qaz ..);unfold q07;rw [h]
def SeenOk (n:Nat) (s:Array Nat):Prop:=s.toList.Nodup∧ ∀k∈s.toList,k<n
theorem SeenOk.push {n:Nat} {s:Array Nat} {k:Nat} (h:SeenOk n s) (hk:k<n) (hn:k∉s):SeenOk n (s.push k):=by
 refine ⟨?_,?_⟩
 ·rw [Array.toList_push,Qbr];refine ⟨h.1,by simp,fun a ha b hb he=>?_⟩;obtain rfl:=Qax.1 hb;subst he;exact hn (by simpa using ha)
 ·intro x hx;rw [Array.toList_push] at hx;rcases Qbf.1 hx with hx|hx
  ·exact h.2 x hx
  ·obtain rfl:=Qax.1 hx;exact hk
theorem SeenOk.le {n:Nat} {s:Array Nat} (h:SeenOk n s):s.size≤n:=by
 have:=z5y n s.toList h.1 h.2;simpa using this
theorem y3l {P:Program} {w:World} {ops:Array Oper} {rest:List Oper} {o:Oper} {a:Act} {Q:Exit→Act→World→Prop} (hgd:o.guard=none) (m x:Operand) (t:TypeId) (c:Bool) (ho:o.op= .lookup t m x c) {mv xv r:Value} (hm:a.eval m=mv) (hx:a.eval x=xv) (hrun:(Instr.lookup t mv xv c).run P w= .ok r w)
  (h:wpList P ops Q rest (a.put o.dst r) w):wpList P ops Q (o::rest) a w:=by
 refine wpList_plain hgd fun _ hK=>?_;unfold Oper.wp execOp;simp only [ho,hm,hx,Sem.run_bind,hrun,Result.andThen_ok,Sem.run_pure];exact hK _ _ h
def z0g (D:TysD) (a b:Txt):Bool:=(y1g D.objects a).any fun q=>(y0r (y1g D.objects b) q.1).isSome
theorem x1g {κ:Type} {kv:κ→Value} {l:List (κ×Value)} {k:Nat} {p:Value×Value} (h:(y0o kv l)[k]?=some p): ∃q,l[k]?=some q∧p=(kv q.1,q.2):=by
 unfold y0o at h;rw [Qbz] at h
 cases hq:l[k]? with
 |none=>rw [hq] at h;cases h
 |some q=>rw [hq] at h;injection h with h;exact ⟨q,rfl,h.symm⟩
set_option maxHeartbeats 16000000 in
theorem q2g (v:Value) (a b:Txt) (D:TysD) (w0 w K:World) (M:List Ent) (H:Hp w0 w K M) (hv:Tp K v D) (hW:TyW D):
  Calls Tryz.prog 35 #[v,.string (str a),.string (str b)] w fun e w'=>∃K',e= .returned (.bool (z0g D a b))∧Sat K' K∧Hp w0 w' K' M:=by
 have hK:=Sat.refl K;have hmd:z0g D a b=z0g D a b:=rfl
 conv at hmd=>rhs;unfold z0g
 have HMD:=hide hmd;clear hmd;go_enter Tryz.func35,Tryz.ntmps35
 go_upto_region 2 with (first
  |(go_at_call 64;refine (z0e _ D _ _ K _ H hv).mono ?_;clear H;rintro e w5 ⟨K5,g5,rfl,hle,H,hT5⟩;replace hK:=hle.trans hK;obtain ⟨ga,gd,gf,go,sch,VT,VD,OB,T⟩:=hT5;have h22:=H.kcell T.a.box T.a.c22))
 have h1:=fun w ho=>y01 (P:=Tryz.prog) (w:=w) (t:=89) (kt:=9) (et:=87) (l:=y1m OB) (b:=go) Tryz.underlying89 (y07 Tryz.underlying9) (.map none) (y4x w) ho a false;rcases oset a OB with ⟨hf,hS⟩|⟨p,hp,hf,hS⟩
 ·rw [hf] at h1
  have HR:z0g D a b=false:=by rw [HMD.out,T.om,hS];rfl
  have h1w:=h1 w5 (H.kmap T.objects)
  go_wp2_with (first
   |((with_reducible show wpList _ _ _ (_::_) _ _);refine y08 (by rfl) (.tmp 15) (.tmp 16) 89 false (by rfl) Tryz.underlying89 (y07 Tryz.underlying9) (.map none) y4x go (y1m OB) (H.kmap T.objects) (by first|rfl|simp [Act.eval,Act.put]) a (by first|rfl|simp [Act.eval,Act.put]) (.map none) (by rw [hf];rfl) ?_)
   |((with_reducible show wpList _ _ _ (_::_) _ _);refine z02 (by rfl) 87 (.tmp 17) (by rfl) Tryz.underlying87 (by first|rfl|simp [Act.eval,Act.put]) (some 18) (by rfl) H ?_;clear H;intro w6 r H))
  try simp only [Act.put,List.getElem_toArray,List.getElem_cons_zero,List.getElem_cons_succ,List.setIfInBounds_toArray,List.set_cons_zero,List.set_cons_succ]
  go_loopw [19] (fun _ wr=>Hp w0 wr K5 (q06 r::M)) (fun _ _=>0)
  case atStart=>exact H
  case round=>
   clear H;have H:=hrel
   go_wp2_with (first
    |((with_reducible show wpList _ _ _ (_::_) _ _);refine z2r (by rfl) (.tmp 18) (by rfl) (by first|rfl|simp [Act.eval,Act.put]) H 0 (by rfl) ?_))
   replace H:=Hp.tail H;go_ret;exact ⟨K5,by rw [HR];rfl,hK,H⟩
 ·rw [hf] at h1;obtain ⟨n,hn⟩: ∃n,(y0o ks p.2.2).length=n:=⟨_,rfl⟩;have HN:=hide hn;have hmap:=T.sets p hp
  go_wp2_with (first
   |((with_reducible show wpList _ _ _ (_::_) _ _);refine y08 (by rfl) (.tmp 15) (.tmp 16) 89 false (by rfl) Tryz.underlying89 (y07 Tryz.underlying9) (.map none) y4x go (y1m OB) (H.kmap T.objects) (by first|rfl|simp [Act.eval,Act.put]) a (by first|rfl|simp [Act.eval,Act.put]) (.map (some p.2.1)) (by rw [hf];rfl) ?_)
   |((with_reducible show wpList _ _ _ (_::_) _ _);refine x1f (by rfl) 87 (.tmp 17) (by rfl) Tryz.underlying87 p.2.1 (y0o ks p.2.2) (H.kmap hmap) (by first|rfl|simp [Act.eval,Act.put]) (some 18) (by rfl) H ?_;clear H;intro w6 r H))
  rw [hn] at H
  try simp only [Act.put,List.getElem_toArray,List.getElem_cons_zero,List.getElem_cons_succ,List.setIfInBounds_toArray,List.set_cons_zero,List.set_cons_succ]
  go_loopw [19] (fun _ wr=>∃s:Array Nat,SeenOk n s∧Hp w0 wr K5 (iter r p.2.1 n s::M)∧ ∀k∈s.toList,∀q,p.2.2[k]?=some q→(y0r (y1g D.objects b) q.1).isSome=false) (fun _ wr=>n - q07 wr r)
  case atStart=>exact ⟨#[],⟨List.nodup_nil,fun _ h=>by cases h⟩,H,fun _ h=>by cases h⟩
  case round=>
   clear H;obtain ⟨s,hs,H,hno⟩:=hrel;have hsn:=y9o H
   have H0:Hp w0 wr K5 (iter r p.2.1 (y0o ks p.2.2).length s::M):=by rw [hn];exact H
   go_wp2_with (first
    |((with_reducible show wpList _ _ _ (_::_) _ _);refine x7p (by rfl) (.tmp 18) (by rfl) (by first|rfl|simp [Act.eval,Act.put]) H0 0 p.2.1 (y0o ks p.2.2) s (by rfl) (H.kmap hmap) ?_ ?_))
   ·intro hall
    have HR:z0g D a b=false:=by
     rw [HMD.out,T.om,hS,List.any_eq_false];intro q hq;obtain ⟨k,hk⟩:=Qbp.1 hq
     have hkn:k<n:=by rw [←hn];unfold y0o;rw [Qay];exact (Qac.1 hk).1
     have:=hno k (by simpa using hall k hkn) q hk;rw [T.om] at this;rw [this];exact Bool.false_ne_true
    replace H:=Hp.tail H
    go_wp2_with fail
    go_ret;exact ⟨K5,by rw [HR];rfl,hK,H⟩
   ·intro k x1 x2 w6 hkx hks H6;obtain ⟨q,hq,he⟩:=x1g hkx;injection he with e1 e2;subst e1 e2
    have hkn:k<n:=by rw [←hn];exact (Qac.1 hkx).1
    have hsp:=hs.push hkn hks;have hsn6:=y9o H6;have hspl:=hsp.le;have hq9:=H6.kcell T.a.box T.a.c22
    have H7:Hp w0 w6 K5 (iter r p.2.1 (y0o ks p.2.2).length (s.push k)::M):=by rw [hn];exact H6
    obtain ⟨mv,hmv⟩:=z4l OB go b q.1;have hmw:=hmv w6 (T.objects.sat H6.sat) (fun p hp=>(T.sets p hp).sat H6.sat);rw [←T.om] at hmw;clear H H0 hmv
    cases hb:y0r (y1g D.objects b) q.1 with
    |some y=>
     have HR:z0g D a b=true:=by
      rw [HMD.out,T.om,hS];exact Qbh.2 ⟨q,Qaf hq,by rw [←T.om,hb];rfl⟩
     rw [hb] at hmw
     go_wp2_with (first
      |((with_reducible show wpList _ _ _ (_::_) _ _);refine z5x (by rfl) (.tmp 18) (by rfl) (by first|rfl|simp [Act.eval,Act.put]) H7 0 p.2.1 (y0o ks p.2.2) s k (ks q.1,q.2) (by rfl) (H6.kmap hmap) hkx ?_)
      |((with_reducible show wpList _ _ _ (_::_) _ _);refine y3l (by rfl) (.tmp 27) (.tmp 28) 89 false (by rfl) (by first|rfl|simp [Act.eval,Act.put]) (by first|rfl|simp [Act.eval,Act.put]) hmw.1 ?_)
      |((with_reducible show wpList _ _ _ (_::_) _ _);refine y3l (by rfl) (.tmp 29) (.tmp 30) 87 true (by rfl) (by first|rfl|simp [Act.eval,Act.put]) (by first|rfl|simp [Act.eval,Act.put]) hmw.2 ?_))
     replace H6:=Hp.tail H6;go_ret;exact ⟨K5,by rw [HR];rfl,hK,H6⟩
    |none=>
     rw [hb] at hmw
     go_wp2_with (first
      |((with_reducible show wpList _ _ _ (_::_) _ _);refine z5x (by rfl) (.tmp 18) (by rfl) (by first|rfl|simp [Act.eval,Act.put]) H7 0 p.2.1 (y0o ks p.2.2) s k (ks q.1,q.2) (by rfl) (H6.kmap hmap) hkx ?_)
      |((with_reducible show wpList _ _ _ (_::_) _ _);refine y3l (by rfl) (.tmp 27) (.tmp 28) 89 false (by rfl) (by first|rfl|simp [Act.eval,Act.put]) (by first|rfl|simp [Act.eval,Act.put]) hmw.1 ?_)
      |((with_reducible show wpList _ _ _ (_::_) _ _);refine y3l (by rfl) (.tmp 29) (.tmp 30) 87 true (by rfl) (by first|rfl|simp [Act.eval,Act.put]) (by first|rfl|simp [Act.eval,Act.put]) hmw.2 ?_))
     go_roundw
     case rel=>
      refine ⟨s.push k,hsp,H6,fun j hj z hz=>?_⟩;rw [Array.toList_push] at hj;rcases Qbf.1 hj with hj|hj
      ·exact hno j hj z hz
      ·obtain rfl:=Qax.1 hj;rw [hq] at hz;injection hz with hz;subst hz;rw [hb];rfl
     case measure=>
      rw [hsn6,hsn];rw [Array.size_push] at hspl ⊢;omega
end Go.Proofs.YtbpgkkoeehopjaaGreat.hp
namespace Go.Proofs
open Go.Shelf
def Tryz.laysSlF6_f67_ren:Go.Shelf.Ren:=⟨fun|6=>67|15=>118|14=>117|28=>163|29=>164|20=>155|21=>156|22=>157|23=>158|24=>159|25=>160|26=>161|27=>162|46=>181|47=>182|48=>183|49=>184|50=>185|57=>199|n=>n,fun|22=>27|24=>9|25=>104|3=>3|39=>168|0=>0|53=>216|55=>218|4=>4|46=>210|45=>209|50=>93|5=>5|9=>9|66=>236|70=>240|76=>249|77=>250|n=>n,fun|n=>n⟩
theorem Tryz.laysSlF6_f67:Go.Proofs.SlLaysF.n6 Tryz.prog Tryz.laysSlF6_f67_ren:={
 mixed:=by kernel_rfl
 f6:=⟨Tryz.f67.name,by decide,Tryz.func67.trans (congrArg some (by kernel_rfl))⟩
 f14:=⟨Tryz.f117.name,by decide,Tryz.func117.trans (congrArg some (by kernel_rfl))⟩
 f15:=Tryz.func118.trans (congrArg some (by kernel_rfl))
 f20:=⟨Tryz.f155.name,by decide,Tryz.func155.trans (congrArg some (by kernel_rfl))⟩
 f21:=⟨Tryz.f156.name,by decide,Tryz.func156.trans (congrArg some (by kernel_rfl))⟩
 f22:=⟨Tryz.f157.name,by decide,Tryz.func157.trans (congrArg some (by kernel_rfl))⟩
 f23:=⟨Tryz.f158.name,by decide,Tryz.func158.trans (congrArg some (by kernel_rfl))⟩
 f24:=⟨Tryz.f159.name,by decide,Tryz.func159.trans (congrArg some (by kernel_rfl))⟩
 f25:=⟨Tryz.f160.name,by decide,Tryz.func160.trans (congrArg some (by kernel_rfl))⟩
 f26:=⟨Tryz.f161.name,by decide,Tryz.func161.trans (congrArg some (by kernel_rfl))⟩
 f27:=⟨Tryz.f162.name,by decide,Tryz.func162.trans (congrArg some (by kernel_rfl))⟩
 f28:=Tryz.func163.trans (congrArg some (by kernel_rfl))
 f29:=Tryz.func164.trans (congrArg some (by kernel_rfl))
 f46:=⟨Tryz.f181.name,by decide,Tryz.func181.trans (congrArg some (by kernel_rfl))⟩
 f47:=Tryz.func182.trans (congrArg some (by kernel_rfl))
 f48:=Tryz.func183.trans (congrArg some (by kernel_rfl))
 f49:=⟨Tryz.f184.name,by decide,Tryz.func184.trans (congrArg some (by kernel_rfl))⟩
 f50:=⟨Tryz.f185.name,by decide,Tryz.func185.trans (congrArg some (by kernel_rfl))⟩
 f57:=⟨Tryz.f199.name,by decide,Tryz.func199.trans (congrArg some (by kernel_rfl))⟩
 t0:=Tryz.underlying0
 a0:=Tryz.isAgg0
 z0:=Tryz.sizeOf0
 v0:=Tryz.zeroValue0
 t3:=Tryz.underlying3
 a3:=Tryz.isAgg3
 z3:=Tryz.sizeOf3
 v3:=Tryz.zeroValue3
 t4:=Tryz.underlying4
 a4:=Tryz.isAgg4
 z4:=Tryz.sizeOf4
 v4:=Tryz.zeroValue4
 t5:=Tryz.underlying5
 a5:=Tryz.isAgg5
 z5:=Tryz.sizeOf5
 v5:=Tryz.zeroValue5
 t9:=Tryz.underlying9
 a9:=Tryz.isAgg9
 z9:=Tryz.sizeOf9
 v9:=Tryz.zeroValue9
 t22:=Tryz.underlying27
 a22:=Tryz.isAgg27
 z22:=Tryz.sizeOf27
 v22:=Tryz.zeroValue27
 a24:=Tryz.isAgg9
 z24:=Tryz.sizeOf9
 t25:=Tryz.underlying104
 a25:=Tryz.isAgg104
 z25:=Tryz.sizeOf104
 v25:=Tryz.zeroValue104
 t39:=Tryz.underlying168
 a39:=Tryz.isAgg168
 z39:=Tryz.sizeOf168
 v39:=Tryz.zeroValue168
 t45:=Tryz.underlying209
 a45:=Tryz.isAgg209
 z45:=Tryz.sizeOf209
 v45:=Tryz.zeroValue209
 t46:=Tryz.underlying210
 a46:=Tryz.isAgg210
 z46:=Tryz.sizeOf210
 v46:=Tryz.zeroValue210
 t50:=Tryz.underlying93
 a50:=Tryz.isAgg93
 z50:=Tryz.sizeOf93
 v50:=Tryz.zeroValue93
 t53:=Tryz.underlying216
 a53:=Tryz.isAgg216
 z53:=Tryz.sizeOf216
 v53:=Tryz.zeroValue216
 t55:=Tryz.underlying218
 a55:=Tryz.isAgg218
 z55:=Tryz.sizeOf218
 v55:=Tryz.zeroValue218
 t66:=Tryz.underlying236
 a66:=Tryz.isAgg236
 z66:=Tryz.sizeOf236
 v66:=Tryz.zeroValue236
 t70:=Tryz.underlying240
 a70:=Tryz.isAgg240
 z70:=Tryz.sizeOf240
 v70:=Tryz.zeroValue240
 t76:=Tryz.underlying249
 a76:=Tryz.isAgg249
 z76:=Tryz.sizeOf249
 v76:=Tryz.zeroValue249
 t77:=Tryz.underlying250
 a77:=Tryz.isAgg250
 z77:=Tryz.sizeOf250
 v77:=Tryz.zeroValue250}
open Go.RowKit Go.Lib Go.Sort in
theorem Tryz.slices_SortFunc {α:Type} [Inhabited α] (enc:α→Value) (h1:OneCell enc) (cf:α→α→Int) (hO:SWO (ltOf cf)) (g:Nat) (cb:Array Value) (blk off cap:Nat) (d:Array α) (w:World) (eg: ∀args w,(callFunc g args).run Tryz.prog w= .ok (.enter g args) w) (hcmp:CmpLays1 Tryz.prog g cb enc cf blk off d.size w) (hH:Holds enc w blk off d) (hblk:blk<w.heap.size) (hsz:d.size<4611686018427387904):
  Calls Tryz.prog 67 #[.slice (some ⟨blk,off,none⟩) d.size cap,.func (.func g) #[] cb] w fun e w'=>
   e= .returned (.tuple #[])∧ ∃d' n os,PermIn 0 d.size d d'∧SortedIn (ltOf cf) 0 d.size d'∧w'=sortWorld enc w blk off n d' os:=Any.slices_SortFunc Tryz.laysSlF6_f67 enc h1 cf hO g cb blk off cap d w eg hcmp hH hblk hsz
end Go.Proofs
namespace Go.Proofs.YtbpgkkoeehopjaaGreat.hp
open Go.RowKit words enc tree gram lex rd dec dat held ty
section
variable {w0 w K : World} {M : List Ent} {enc : Txt → Value}
theorem x1h (w:World) (os:Array Obj) {k:Nat} (h:k<w.heap.size):(Go.Sort.grow w os).heap[k]?=w.heap[k]?:=by
 show (w.heap++os)[k]?=_
 rw [Array.getElem?_append_left h]
theorem x1i (w:World) (blk off n:Nat) (d:Array Txt) (os:Array Obj) {k:Nat} (h:k<w.heap.size) (hb:k≠blk):(sortWorld enc w blk off n d os).heap[k]?=w.heap[k]?:=by
 unfold sortWorld;rw [x1h _ _ (by simpa using h)]
 show ((w.heap).modify blk _)[k]?=_
 rw [Array.getElem?_modify,if_neg (Ne.symm hb)]
theorem z7s (w:World) (blk off n:Nat) (d:Array Txt) (os:Array Obj):w.heap.size≤(sortWorld enc w blk off n d os).heap.size:=by
 unfold sortWorld
 show _≤((Go.Sort.putRow enc (Go.Sort.ahead w n) blk off d).heap++os).size
 rw [Array.size_append];have:=Go.Sort.size_putRow enc (Go.Sort.ahead w n) blk off d;have h2:(Go.Sort.ahead w n).heap.size=w.heap.size:=rfl;omega
theorem x3v (w:World) (blk off n:Nat) (d:Array Txt) (os:Array Obj):w.grownBy (sortWorld enc w blk off n d os) (some blk):=
 ⟨rfl,rfl,rfl,z7s w blk off n d os,fun k hk hne=>x1i w blk off n d os hk (fun e=>hne (by rw [e]))⟩
theorem q08 (d:Array Txt) (cur:Array Value) (h:d.size≤cur.size):(Go.Sort.putCells enc 0 d cur).toList.take d.size=d.toList.map enc:=by
 apply Qby;intro j;rw [Qbb,Qbz,Array.getElem?_toList,Array.getElem?_toList];unfold Go.Sort.putCells;split
 ·rename_i hj;have hj:j<d.size:=hj
  have hj2:j<cur.size:=by omega
  rw [Array.getElem?_mapIdx,Qbq hj2,Qbq hj];simp only [Option.map_some,Qak,Nat.zero_add,hj,and_self,if_true,Nat.sub_zero];rw [getElem!_pos d j hj]
 ·rename_i hj;have hj: ¬j<d.size:=hj;rw [Array.getElem?_eq_none (by omega)];rfl
theorem Hp.sorted {m c blk:Nat} {vs:List Value} (H:Hp w0 w K (.row 9 1 (.slice (some ⟨blk,0,none⟩) m c) m vs::M)) (n:Nat) (d:Array Txt) (os:Array Obj) (hd:d.size=m):
  Hp w0 (sortWorld enc w blk 0 n d os) K (.row 9 1 (.slice (some ⟨blk,0,none⟩) m c) m (d.toList.map enc)::M):=by
 have ho:w.ownsRow 0 9 1 (.slice (some ⟨blk,0,none⟩) m c) m vs:=H.ok _ (Qaz ..);refine H.setAt (i:=0) rfl (x3v w blk 0 n d os) ?_ (.inl rfl);rcases ho.2 with ⟨h,_⟩|⟨g',c',cur,he,hb0,hb,h1,h2,h3,h4⟩
 ·cases h
 ·injection he with e1 _ e3;injection e1 with e1;injection e1 with e1;subst e1 e3;have hlt:=(Qan.1 hb).1;refine ⟨by rw [Qay,Array.length_toList,hd,Nat.mul_one],.inr ⟨blk,c,Go.Sort.putCells enc 0 d cur,rfl,hb0,?_,h1,h2,?_,?_⟩⟩
  ·unfold sortWorld;rw [x1h _ _ (by simpa using hlt)]
   show ((w.heap).modify blk _)[blk]?=_
   rw [Array.getElem?_modify,if_pos rfl,hb];rfl
  ·unfold Go.Sort.putCells;simpa using h3
  ·rw [Nat.mul_one,←hd];exact q08 d cur (by rw [h3];omega)
theorem q3u (f:Txt→Int):Go.Sort.SWO (ltOf fun x y=>f x - f y):=by
 refine ⟨fun x=>?_,fun x y z h1 h2=>?_,fun x y z h1 h2=>?_⟩
 ·simp [ltOf]
 ·simp only [ltOf,decide_eq_true_eq] at*;omega
 ·simp only [ltOf,decide_eq_false_iff_not] at*;omega
theorem q3v {m c blk g:Nat} {cb:Array Value} {l:List Txt} (f:Txt→Int) (H:Hp w0 w K (.row 9 1 (.slice (some ⟨blk,0,none⟩) m c) m (l.map ks)::M)) (hl:l.length=m) (hm:m≤20000000)
  (eg: ∀args w,(callFunc g args).run Tryz.prog w= .ok (.enter g args) w)
  (hcmp: ∀W,W.heap.size≥w.heap.size→(∀k,k<w.heap.size→k≠blk→W.heap[k]?=w.heap[k]?)→ ∀x y:Txt,Calls Tryz.prog g (#[ks x,ks y]++cb) W fun e w'=>e= .returned (.int .i64 (f x - f y))∧w'=W):
  Calls Tryz.prog 67 #[.slice (some ⟨blk,0,none⟩) m c,.func (.func g) #[] cb] w fun e w'=>e= .returned (.tuple #[])∧ ∃l':List Txt,l'.Perm l∧l'.Pairwise (fun a b=>f a≤f b)∧Hp w0 w' K (.row 9 1 (.slice (some ⟨blk,0,none⟩) m c) m (l'.map ks)::M):=by
 have hds:l.toArray.size=m:=by simpa using hl
 have hblk:blk<w.heap.size:=H.lt (i:=0) rfl rfl
 have hH:Go.Sort.Holds ks w blk 0 l.toArray:=by
  intro j hj;rw [hds] at hj
  have hjl:j<l.length:=by omega
  rw [Nat.zero_add];refine ⟨H.rowCell (i:=0) rfl ?_,H.rowFrozen (i:=0) rfl j⟩;rw [Qbz,Qad hjl,getElem!_pos l.toArray j (by simpa using hjl)];rfl
 have hc:CmpLays1 Tryz.prog g cb ks (fun x y=>f x - f y) blk 0 l.toArray.size w:=by
  intro n os dk hdk x y;refine (hcmp (sortWorld ks w blk 0 n dk os) (z7s ..) (fun k hk hb=>x1i w blk 0 n dk os hk hb) x y).mono ?_;rintro e w' ⟨he,rfl⟩;exact ⟨he,0, #[],by simp [Go.Sort.grow_empty,World.drewN]⟩
 have h:=Tryz.slices_SortFunc ks (fun _=>rfl) (fun x y=>f x - f y) (q3u f) g cb blk 0 c l.toArray w eg hc hH hblk (by rw [hds];omega);rw [hds] at h;refine h.mono ?_;rintro e w' ⟨he,d',n,os,hp,hs,rfl⟩;have hd':d'.size=m:=hp.1.trans hds
 have hperm:d'.toList.Perm l:=by
  have:=hp.2.2
  have e1:(d'.extract 0 m).toList=d'.toList:=by rw [←hd',Array.extract_size]
  have e2:(l.toArray.extract 0 m).toList=l:=by rw [←hds,Array.extract_size]
  rw [e1,e2] at this;exact this
 refine ⟨he,d'.toList,hperm,?_,H.sorted n d' os hd'⟩;rw [List.pairwise_iff_getElem];intro i j hi hj hij
 have hi':i<d'.size:=by simpa using hi
 have hj':j<d'.size:=by simpa using hj
 have:=hs i j (Qak _) hij (by omega);simp only [ltOf,decide_eq_false_iff_not] at this;rw [getElem!_pos d' j hj',getElem!_pos d' i hi'] at this;simp only [Array.getElem_toList];omega
theorem z7t (v:Value) (c:Nat) (p:Option Addr) (w:World):Calls Tryz.prog 67 #[.slice p 0 c,v] w fun e w'=>e= .returned (.tuple #[])∧w'=w:=
 AnyF.slices_SortFunc_none {Tryz.laysSlF6_f67 with} p c v w
end
set_option maxRecDepth 100000
attribute [local go_sem ↓] Go.wp_at_zero Go.wp_at_succ
theorem z5z {K:World}: ∀l:List Txt,RL K (y1c l) (l.map ks)
 |[]=>RL.z
 |x::r=>.lit (z5z r)
def y7x (S:List (Txt×Value)) (k:Nat):Txt:=((S[k]?).map (·.1)).getD []
theorem x3w (S:List (Txt×Value)):(List.range S.length).map (y7x S)=S.map (·.1):=by
 apply Qby;intro j;rw [Qbz,Qbz];rcases Qbm j S.length with h|h
 ·rw [List.getElem?_range h,Qad h];simp [y7x,Qad h]
 ·rw [Qbg (by simpa using h),Qbg h];rfl
theorem x7q {n:Nat} {s:Array Nat} (h:SeenOk n s) (hall: ∀k,k<n→k∈s):s.toList.Perm (List.range n):=
 (List.perm_ext_iff_of_nodup h.1 List.nodup_range).2 fun k=>by
   rw [List.mem_range];exact ⟨fun hk=>h.2 k hk,fun hk=>by simpa using hall k hk⟩
def numV (q:Txt×Value):Nat:=match q.2 with| .int _ n=>n.toNat|_=>0
theorem q3w {f:Nat→Option Txt} {s:List (Txt×Value)} {B:Nat} (h:SOk f s) (hB: ∀n x,f n=some x→n<B):s.length≤B:=by
 have hk:List.Pairwise (fun q q':Txt×Value=>q.1≠q'.1) s:=by
  have:=h.1;unfold List.Nodup at this;rw [List.pairwise_map] at this;exact this
 have hn:(s.map numV).Nodup:=by
  unfold List.Nodup;rw [List.pairwise_map];refine List.Pairwise.imp_of_mem (fun {q q'} hq hq' hne he=>?_) hk;obtain ⟨n,h1,h2⟩:=h.2 q hq;obtain ⟨n',h1',h2'⟩:=h.2 q' hq';simp only [numV,h1,h1',Int.toNat_natCast] at he;subst he;rw [h2] at h2';injection h2' with h2';exact hne h2'
 have:=z5y B (s.map numV) hn (fun x hx=>by
  obtain ⟨q,hq,rfl⟩:=Qbe.1 hx;obtain ⟨n,h1,h2⟩:=h.2 q hq;simp only [numV,h1,Int.toNat_natCast]
  exact hB n _ h2)
 simpa using this
theorem x3x {n:Nat} (h:n=0) (v:Value) (c:Nat) (p:Option Addr) (w:World):Calls Tryz.prog 67 #[.slice p n c,v] w fun e w'=>e= .returned (.tuple #[])∧w'=w:=by
 subst h;exact z7t v c p w
theorem q3x (f:Txt→Int) (mv:Value) (gb:Nat) (W:World) (hc:W.cell? ⟨gb,0,none⟩=some mv) (hl: ∀x,(Instr.lookup 87 mv (.string (str x)) false).run Tryz.prog W= .ok (.int .i64 (f x)) W) (hf: ∀x,0≤f x∧f x≤20000000) (x y:Txt):
  Calls Tryz.prog 68 #[ks x,ks y,.pointer (some ⟨gb,0,none⟩)] W fun e w'=>e= .returned (.int .i64 (f x - f y))∧w'=W:=by
 have hx:=hl x;have hy:=hl y;have bx:=hf x;have hby:=hf y
 have hw:IntKind.i64.wrap (f x - f y)=f x - f y:=by simp [IntKind.wrap,IntKind.bits,IntKind.signed];omega
 go_enter Tryz.func68,Tryz.ntmps68
 go_wp2_with (first
  |((with_reducible show wpList _ _ _ (_::_) _ _);refine y3l (by rfl) (.tmp 6) (.tmp 7) 87 false (by rfl) (by first|rfl|simp [Act.eval,Act.put]) (by first|rfl|simp [Act.eval,Act.put]) hx ?_)
  |((with_reducible show wpList _ _ _ (_::_) _ _);refine y3l (by rfl) (.tmp 9) (.tmp 10) 87 false (by rfl) (by first|rfl|simp [Act.eval,Act.put]) (by first|rfl|simp [Act.eval,Act.put]) hy ?_))
 go_ret;exact ⟨by first|rfl|(rw [hw];rfl)|simp [hw],rfl⟩
def PosP (D:TysD) (x:Txt) (w0 K:World) (M:List Ent) (e:Ending) (w':World):Prop:=
 ∃K' l v,e= .returned v∧Sat K' K∧Hp w0 w' K' M∧RD K' (.list l.length (y1c l)) v∧l.Perm ((y1g D.objects x).map (·.1))∧l.Pairwise (fun a b=>y8s (y1g D.objects x) a≤y8s (y1g D.objects x) b)
set_option maxHeartbeats 16000000 in
theorem z4m (v:Value) (x:Txt) (D:TysD) (w0 w K:World) (M:List Ent) (H:Hp w0 w K M) (hv:Tp K v D) (hW:TyW D):
  Calls Tryz.prog 27 #[v,.string (str x)] w (PosP D x w0 K M):=by
 have hK:=Sat.refl K;obtain ⟨k0,hk0,k0z,k0s,k0b⟩:=info_parts z17;have hSO:=z5t hW.o x
 have hfb: ∀y,0≤y8s (y1g D.objects x) y∧y8s (y1g D.objects x) y≤20000000:=by
  intro y;have hN:=hW.nT;unfold y8s;rcases x08 hSO y with ⟨h,_⟩|⟨n,h,hn,_⟩
  ·rw [h];exact ⟨by simp,by simp⟩
  ·rw [h];have:=x68 hn;exact ⟨by simp,by simp only;omega⟩
 have hnv:=x66 hSO;have hSL:(y1g D.objects x).length≤3002000:=q3w hSO (fun n y hy=>Qap (x68 hy) hW.nT);obtain ⟨S,hS0⟩: ∃S,y1g D.objects x=S:=⟨_,rfl⟩;have HS:=hide hS0;rw [hS0] at hfb hnv hSL;clear hSO;go_enter Tryz.func27,Tryz.ntmps27
 go_upto_region 1 with (fail)
 have h1:=fun OB go w ho=>y01 (P:=Tryz.prog) (w:=w) (t:=89) (kt:=9) (et:=87) (l:=y1m OB) (b:=go) Tryz.underlying89 (y07 Tryz.underlying9) (.map none) (y4x w) ho x false
 have hmv: ∀(K5:World) (ga gd gf go:Nat) (sch:List Value) (VT VD:Value) (OB:List (Txt×Nat×List (Txt×Value))) (g9:Nat),Tys K5 g9 D ga gd gf go sch VT VD OB→ ∃mv,(∀w,Km w go (y0o ks (y1m OB))→(Instr.lookup 89 (.map (some go)) (.string (str x)) false).run Tryz.prog w= .ok mv w)∧((mv= .map none∧S=[])∨ ∃b,mv= .map (some b)∧Km K5 b (y0o ks S)):=by
  intro K5 ga gd gf go sch VT VD OB g9 T;rcases oset x OB with ⟨hf,hS⟩|⟨p,hp,hf,hS⟩
  ·exact ⟨.map none,fun w ho=>by rw [h1 OB go w ho,hf];rfl,.inl ⟨rfl,by rw [←HS.out,T.om,hS]⟩⟩
  ·exact ⟨.map (some p.2.1),fun w ho=>by rw [h1 OB go w ho,hf];rfl,.inr ⟨_,rfl,by rw [←HS.out,T.om,hS];exact T.sets p hp⟩⟩
 clear h1
 go_upto_region 3 with (first
  |(go_at_call 64;refine (z0e _ D _ _ K _ H hv).mono ?_;clear H;rintro e w5 ⟨K5,g9,rfl,hle,H,hT5⟩;replace hK:=hle.trans hK;obtain ⟨ga,gd,gf,go,sch,VT,VD,OB,T⟩:=hT5;have h22:=H.kcell T.a.box T.a.c22)
  |((with_reducible show wpList _ _ _ (_::_) _ _);obtain ⟨mv,hlk,hmk⟩:=hmv _ _ _ _ _ _ _ _ _ _ T;refine y3l (by rfl) (.tmp 12) (.tmp 13) 89 false (by rfl) (by first|rfl|simp [Act.eval,Act.put]) (by first|rfl|simp [Act.eval,Act.put]) (hlk _ (H.kmap T.objects)) ?_)
  |((with_reducible show wpList _ _ _ (_::_) _ _);refine x0v (by rfl) 87 (by rfl) [.map none] (by kernel_rfl) (some 5) (by rfl) H ?_;clear H;intro w6 g5 H hg5;clear hg5)
  |((with_reducible show wpList _ _ _ (_::_) _ _);refine z5l (by rfl) 87 (.tmp 5) (.tmp 14) (by rfl) g5 0 (by first|rfl|simp [Act.eval,Act.put]) mv (by first|rfl|simp [Act.eval,Act.put]) [mv] (by rcases hmk with ⟨rfl,_⟩|⟨b,rfl,_⟩<;>rfl) (by rcases hmk with ⟨rfl,_⟩|⟨b,rfl,_⟩<;>simp [Value.oneCell']) (by kernel_rfl) H 0 [.map none] [mv] 87 (by rfl) (Qbn (by rfl)) (by rfl) ?_;clear H;intro w7 H;replace H:Hp w0 w7 K5 (.box g5 [mv] 87::M):=H;have hc5:(w7).cell? ⟨g5,0,none⟩=some mv:=H.cell (i:=0) rfl rfl))
 rcases hmk with ⟨rfl,hSn⟩|⟨b,rfl,hSk⟩
 ·go_wp2_with (first
   |((with_reducible show wpList _ _ _ (_::_) _ _);refine z02 (by rfl) 87 (.tmp 15) (by rfl) Tryz.underlying87 (by first|rfl|simp [Act.eval,Act.put]) (some 16) (by rfl) H ?_;clear H;intro w8 r H))
  try simp only [Act.put,List.getElem_toArray,List.getElem_cons_zero,List.getElem_cons_succ,List.setIfInBounds_toArray,List.set_cons_zero,List.set_cons_succ]
  go_loopw [6,17] (fun o _ wr=>o= .slice none 0 0∧Hp w0 wr K5 (q06 r:: .box g5 [.map none] 87::M)) (fun _ _ _=>0)
  case atStart=>exact ⟨rfl,H⟩
  case round=>
   clear H;obtain ⟨rfl,H⟩:=hrel
   go_upto_region 7 with (first
    |((with_reducible show wpList _ _ _ (_::_) _ _);refine z2r (by rfl) (.tmp 16) (by rfl) (by first|rfl|simp [Act.eval,Act.put]) H 0 (by rfl) ?_))
   have hsn:=z7t (.func (.func 68) #[] #[.pointer (some ⟨g5,0,none⟩)]) 0 none wr
   go_wp2_with (first
    |(go_at_call 67;refine hsn.mono ?_;clear hsn;rintro e w9 ⟨rfl,rfl⟩))
   replace H:=Hp.tail (Hp.tail H);go_ret;exact ⟨K5,[],_,rfl,hK,H,RD.z,by rw [HS.out,hSn];exact List.Perm.nil,List.Pairwise.nil⟩
 ·obtain ⟨n,hn⟩: ∃n,(y0o ks S).length=n:=⟨_,rfl⟩
  have hSl:S.length=n:=by rw [←hn];unfold y0o;rw [Qay]
  go_wp2_with (first
   |((with_reducible show wpList _ _ _ (_::_) _ _);refine x1f (by rfl) 87 (.tmp 15) (by rfl) Tryz.underlying87 b (y0o ks S) (H.kmap hSk) (by first|rfl|simp [Act.eval,Act.put]) (some 16) (by rfl) H ?_;clear H;intro w8 r H))
  try simp only [Act.put,List.getElem_toArray,List.getElem_cons_zero,List.getElem_cons_succ,List.setIfInBounds_toArray,List.set_cons_zero,List.set_cons_succ]
  rw [hn] at H;have heg: ∀args w,(callFunc 68 args).run Tryz.prog w= .ok (.enter 68 args) w:=enters_of Tryz.func68 (by kernel_rfl) rfl
  go_loopw [6,17] (fun o _ wr=>∃s:Array Nat,SeenOk n s∧Hp w0 wr K5 (.row 9 1 o s.size ((s.toList.map (y7x S)).map ks)::iter r b n s:: .box g5 [.map (some b)] 87::M)) (fun _ _ wr=>n - q07 wr r)
  case atStart=>exact ⟨#[],⟨List.nodup_nil,fun _ h=>by cases h⟩,H.nilRow 9 1⟩
  case round=>
   clear H
   obtain ⟨s,hs,H,hrow⟩: ∃(s:Array Nat) (hs:SeenOk n s) (H:Hp w0 wr K5 (.row 9 1 _ s.size ((s.toList.map (y7x S)).map ks)::iter r b n s:: .box g5 [.map (some b)] 87::M)),True:=by
    obtain ⟨s,hs,H⟩:=hrel;exact ⟨s,hs,H,trivial⟩
   obtain ⟨Av,cv,hov,hcv1,hcv2⟩:=H.slice (i:=0) rfl;subst hov;have hsn:=y9o H.tail;have hsle:=hs.le
   have H0:Hp w0 wr K5 (.row 9 1 (.slice Av s.size cv) s.size ((s.toList.map (y7x S)).map ks)::iter r b (y0o ks S).length s:: .box g5 [.map (some b)] 87::M):=by rw [hn];exact H
   go_wp2_with (first
    |((with_reducible show wpList _ _ _ (_::_) _ _);refine x7p (by rfl) (.tmp 16) (by rfl) (by first|rfl|simp [Act.eval,Act.put]) H0 1 b (y0o ks S) s (by rfl) (H.kmap hSk) ?_ ?_))
   ·intro hall
    have hperm:(s.toList.map (y7x S)).Perm (S.map (·.1)):=by
     rw [←x3w,hSl];exact (x7q hs (fun k hk=>by simpa using hall k hk)).map (y7x S)
    have hLl:(s.toList.map (y7x S)).length=s.size:=by simp
    by_cases h0:s.size=0
    ·have hsn:=x3x h0 (.func (.func 68) #[] #[.pointer (some ⟨g5,0,none⟩)]) cv Av wr;have he:s.toList.map (y7x S)=[]:=Qa0 (by rw [hLl,h0]);have he:=hide he;clear h0 hall
     go_wp2_with (first
      |(go_at_call 67;refine hsn.mono ?_;clear hsn;rintro e w9 ⟨rfl,rfl⟩))
     obtain ⟨K6,hle6,H,hr⟩:=Hp.freezeRow H (z5z (s.toList.map (y7x S)));replace H:=Hp.tail (Hp.tail H);go_ret;exact ⟨K6,s.toList.map (y7x S),_,rfl,hle6.trans hK,H,by rw [hLl];exact hr,by rw [HS.out];exact hperm,by rw [he.out];exact List.Pairwise.nil⟩
    ·obtain ⟨blk,cb,hbv,-,-,-⟩:=H.rowAt (i:=0) rfl (by omega);injection hbv with e1 _ e3;subst e1 e3;have hg5:g5≠blk:=fun e=>(List.pairwise_cons.1 H.nd).1 _ (Qa2 _ (Qaz ..)) blk rfl (by rw [←e];rfl)
     have hbb:b≠blk:=fun e=>by
      have hF:=(H.fr _ (Qaz ..) blk rfl).2;have:=hF _ (e▸hSk);cases this
     have hltg:=H.lt (i:=2) rfl rfl;have hltb:=(Qan.1 (H.kmap hSk)).1;have hcb:=H.cell (i:=2) (j:=0) rfl rfl;have hsort:=q3v (cb:= #[.pointer (some ⟨g5,0,none⟩)]) (y8s S) H hLl (by omega) heg (fun W _ hW x y=>q3x (y8s S) (.map (some b)) g5 W ((World.cell?_of_block (hW g5 hltg hg5)).trans hcb) (fun z=>(y01 (w:=W) Tryz.underlying87 (y07 Tryz.underlying9) (.int .i64 0) (y0n W) ((hW b hltb hbb).trans (H.kmap hSk)) z false).trans (by rw [if_neg Bool.false_ne_true,hnv])) hfb x y);clear hbb hg5 hltg hltb hcb
     go_wp2_with (first
      |(go_at_call 67;refine hsort.mono ?_;clear hsort H H0;rintro e w9 ⟨rfl,L,hLp,hLs,H⟩))
     have hLL:L.length=s.size:=hLp.length_eq.trans hLl;obtain ⟨K6,hle6,H,hr⟩:=Hp.freezeRow H (z5z L);replace H:=Hp.tail (Hp.tail H);go_ret;exact ⟨K6,L,_,rfl,hle6.trans hK,H,by rw [hLL];exact hr,by rw [HS.out];exact hLp.trans hperm,by rw [HS.out];exact hLs⟩
   ·intro k x1 x2 w9 hkx hks H9;obtain ⟨q,hq,he⟩:=x1g hkx;injection he with e1 e2;subst e1 e2
    have hkn:k<n:=by rw [←hn];exact (Qac.1 hkx).1
    have hsp:=hs.push hkn hks;have hspl:=hsp.le
    have hkey:y7x S k=q.1:=by simp [y7x,hq]
    have H7:Hp w0 w9 K5 (.row 9 1 (.slice Av s.size cv) s.size ((s.toList.map (y7x S)).map ks)::iter r b (y0o ks S).length (s.push k):: .box g5 [.map (some b)] 87::M):=by rw [hn,List.map_map];exact H9
    clear H H0 H9;have H:=H7;rw [hn] at H
    go_wp2_with (first
     |(refine y2a (by rfl) 27 9 1 _ (by rfl) (some 23) (by rfl) Tryz.underlying27 [.string (str q.1)] (by kernel_rfl) H ?_;clear H;intro w1 g23 H)
     |(at_builtin;refine y3y (by rfl) _ _ 27 (by rfl) 9 k0 _ 1 16 Tryz.underlying27 hk0 k0z k0s k0b (by rfl) (by decide) H 1 (.slice Av s.size cv) (s.size) (((s.toList.map (y7x S)).map ks)) (by rfl) (by first|rfl|simp [Act.eval,Act.put]) (some ⟨g23,0,none⟩) 1 1 [.string (str q.1)] (by first|rfl|simp [Act.eval,Act.put]) (by rfl) (H.rd (i:=0) rfl) (by simp [Value.oneCell']) (by simp only [maxLen];omega) (by omega) ?_;clear H;intro V2 w2 H;replace H:Hp w0 w2 K5 (.box g23 [.string (str q.1)] 9:: .row 9 1 (V2) (s.size+1) (((s.toList.map (y7x S)).map ks)++[.string (str q.1)])::(iter r b n (s.push k):: .box g5 [.map (some b)] 87::M)):=H;obtain ⟨V2A,V2c,rfl,V2l,V2m⟩:=H.slice (i:=1) rfl)
     |((with_reducible show wpList _ _ _ (_::_) _ _);refine z5x (by rfl) (.tmp 16) (by rfl) (by first|rfl|simp [Act.eval,Act.put]) H7 1 b (y0o ks S) s k (ks q.1,q.2) (by rfl) (H7.kmap hSk) hkx ?_))
    replace H:=H.sub (Qai _ (Qaa _ (Qam _)));have hsn6:=y9o H.tail;go_roundw
    case rel=>
     refine ⟨s.push k,hsp,?_⟩;rw [Array.size_push,Array.toList_push,Qas,Qas];simp only [List.map_cons,List.map_nil,hkey];exact H
    case measure=>
     rw [hsn6,hsn];rw [Array.size_push] at hspl ⊢;omega
end Go.Proofs.YtbpgkkoeehopjaaGreat.hp
