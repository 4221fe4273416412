/- Part 4 of a proof: see the text that holds the statement. -/
import Derived.Test.YtbpgkkoeehopjaaGreatP1
import Derived.Test.YtbpgkkoeehopjaaGreatP2
import Derived.Test.YtbpgkkoeehopjaaGreatP3
import Derived.Deep.LoopGhost
import Derived.Laws.OwnMore
import Derived.Deep.Cut
import Derived.Deep.RegionHeld3
import Derived.Deep.AppendLies
import Derived.Deep.DrawnRows
set_option linter.unusedVariables false
set_option linter.unusedSimpArgs false
namespace Go.Proofs.YtbpgkkoeehopjaaGreat.gram
open Go.RowKit words enc tree
def tokL (t:TokD):List Leaf:=[.lit (.int .i64 t.kind),.lit (.int .i64 t.line),.lit (.int .i64 t.col),.lit (.int .i64 t.start),.lit (.int .i64 t.stop),.lit (.string (str t.text)),.lit (.string (str t.value))]
def x58 (l:List TokD):List Leaf:=l.flatMap tokL
def runF (R:List RuleD) (nf bf:Nat) (toks:List TokD) (depth:Int):Nat→List Txt→Nat→Int→Option (Int×Int×Int)
 |0,_,_,_=>none
 |_+1,[],_,_=>some (0,0,0)
 |f+1,top::rest,at_,op=>
  match toks[at_]? with
  |none=>none
  |some t=>
   if top=[]∨1000<top.length then none
   else if y2a top=true then
    match y5g R nf bf t top with
    |none=>none
    |some (c,true)=>if 1000000000<c.length+rest.length then none else runF R nf bf toks depth f (c++rest) at_ op
    |some (_,false)=>some (70,t.line,t.col)
   else if y0n top t=false then some (70,t.line,t.col)
   else if y06 top=1∧depth≤op then some (71,t.line,t.col)
   else runF R nf bf toks depth f rest (if at_+1<toks.length then at_+1 else at_) (op+y06 top)
theorem z64 {w:World} {g:Nat} {a b:Value} {t:TypeId} (h:w.heap[g]?=some (.cells #[a,b] t (0,0))) (x y:Value):
  ((w.setCell ⟨g,0,none⟩ x).setCell ⟨g,1,none⟩ y).cell? ⟨g,0,none⟩=some x∧((w.setCell ⟨g,0,none⟩ x).setCell ⟨g,1,none⟩ y).cell? ⟨g,1,none⟩=some y:=by
 constructor<;>simp [World.setCell,World.cell?,Array.getElem?_modify,h]
theorem q4n {w:World} {B s n m c:Nat} {e:TypeId} {A:Option Addr} {xs:List Value} (h:w.ownsRow B e s (.slice A n c) m xs) (hm:0<m): ∃g,A=some ⟨g,0,none⟩∧B≤g∧g<w.heap.size∧n=m:=by
 rcases h.2 with ⟨_,h0⟩|⟨g,cap,cur,he,h1,h2,_⟩
 ·omega
 ·injection he with e1 e2 e3;exact ⟨g,e1,h1,(Qan.1 h2).1,e2⟩
theorem q8c {w:World} {B n m c s:Nat} {e:TypeId} {A:Option Addr} {xs:List Value} (h:w.ownsRow B e s (.slice A n c) n xs) (hm:m≤n):w.ownsRow B e s (.slice A m c) m (xs.take (m*s)):=by
 refine ⟨by rw [Qau,h.1];exact Nat.min_eq_left (Nat.mul_le_mul_right _ hm),?_⟩;rcases h.2 with ⟨he,h0⟩|⟨g,cap,cur,he,h1,h2,h3,h4,h5,h6⟩
 ·injection he with e1 e2 e3;exact .inl ⟨by rw [e1,e3,show m=0 by omega],by omega⟩
 ·injection he with e1 e2 e3;subst e1 e3;refine .inr ⟨g,c,cur,rfl,h1,h2,by omega,h4,h5,?_⟩;rw [←h6,List.take_take,Nat.min_eq_left (Nat.mul_le_mul_right _ hm)]
theorem tok_at {w:World} {S:Nat→Prop} {l:List TokD} {A:Option Addr} {vs:List Value} {k:Nat} {t:TokD} (h:ReadsL w S (x58 l) vs) (hA:RdS w S A vs) (hk:l[k]?=some t):
  ∃ad,A=some ad∧S ad.block∧w.cell? (ad.add (k*7))=some (.int .i64 t.kind)∧w.cell? ⟨(ad.add (k*7)).block,(ad.add (k*7)).off+1,none⟩=some (.int .i64 t.line)∧w.cell? ⟨(ad.add (k*7)).block,(ad.add (k*7)).off+2,none⟩=some (.int .i64 t.col)∧
   w.cell? ⟨(ad.add (k*7)).block,(ad.add (k*7)).off+3,none⟩=some (.int .i64 t.start)∧w.cell? ⟨(ad.add (k*7)).block,(ad.add (k*7)).off+4,none⟩=some (.int .i64 t.stop)∧
   w.cell? ⟨(ad.add (k*7)).block,(ad.add (k*7)).off+5,none⟩=some (.string (str t.text))∧w.cell? ⟨(ad.add (k*7)).block,(ad.add (k*7)).off+6,none⟩=some (.string (str t.value)):=by
 have key: ∀(j:Nat) (u:Value),j<7→(tokL t)[j]?=some (.lit u)→ ∃ad,A=some ad∧S ad.block∧w.cell? (ad.add (k*7+j))=some u:=fun j u hj hu=>by
  obtain ⟨v,hv,hr⟩:=h.at ((z6r (k:=7) tokL (fun _=>rfl) l k j t hk hj).trans hu);have e:=y92 hr;subst e;exact hA.at hv
 obtain ⟨ad,rfl,hS,c0⟩:=key 0 _ (by omega) rfl
 have k2: ∀(j:Nat) (u:Value),j+1<7→(tokL t)[j+1]?=some (.lit u)→w.cell? ⟨(ad.add (k*7)).block,(ad.add (k*7)).off+(j+1),none⟩=some u:=fun j u hj hu=>by
  obtain ⟨ad',e,_,hc⟩:=key (j+1) u hj hu;injection e with e;subst e;exact z6w hc
 exact ⟨ad,rfl,hS,c0,k2 0 _ (by omega) rfl,k2 1 _ (by omega) rfl,k2 2 _ (by omega) rfl,k2 3 _ (by omega) rfl,k2 4 _ (by omega) rfl,k2 5 _ (by omega) rfl⟩
set_option maxRecDepth 100000 in
set_option maxHeartbeats 8000000 in
theorem x9k (B:Nat) (R:List RuleD) (A At:Option Addr) (n c nt ct:Nat) (first:Txt) (toks:List TokD) (depth:Int) (nf bf f:Nat) (r:Int×Int×Int) (w:World) (hR:Reads w (Lo B) (.list R.length (y3x R)) (.slice A n c))
  (hTk:Reads w (Lo B) (.list toks.length (x58 toks)) (.slice At nt ct)) (hB:B≤w.heap.size) (hd:depth≤1000) (hd0:0≤depth) (hf:f≤1000000000) (h:runF R nf bf toks depth f [first] 0 0=some r):
  Calls Tryz.prog 96 #[.slice A n c,.string (str first),.slice At nt ct,.int .i64 depth] w fun e w'=>e= .returned (.tuple #[.int .i64 r.1,.agg #[.int .i64 r.2.1,.int .i64 r.2.2]])∧Below w.heap.size w w':=by
 obtain ⟨i0,hi0,hz0,hz1,hz2⟩:=info_parts z6u;obtain ⟨A',c',us,he,hnl,hcl,hul,hud⟩:=y0k hTk;injection he with e1 e2 e3;subst e1 e2 e3
 have hct63:ct≤9223372036854775807:=by simpa [maxLen] using hcl
 have HH:=hide h;have KR:Hid (∀w',Below w.heap.size w w'→Reads w' (Lo B) (.list R.length (y3x R)) (.slice A n c)):=fun w' hb=>Reads.keep (fun _ h=>h) (fun p hp=>hb.cell (Qap hp hB)) _ _ hR;have KT:Hid (∀w',Below w.heap.size w w'→ReadsL w' (Lo B) (x58 toks) us∧RdS w' (Lo B) At us):=fun w' hb=>⟨ReadsL.keep (fun _ h=>h) (fun p hp=>hb.cell (Qap hp hB)) _ _ hul,hud.keep (fun _ h=>h) (fun p hp=>hb.cell (Qap hp hB))⟩;obtain ⟨nt,hnt⟩: ∃m,toks.length=m:=⟨_,rfl⟩;have HNT:=hide hnt;rw [hnt] at hnl ⊢;clear h hul hud hR hTk hnt;go_enter Tryz.func96,Tryz.ntmps96
 go_wp2_with fail
 have hbase:Below w.heap.size w ((w.alloc (.cells #[.int .i64 0,.int .i64 0] 41)).alloc (.cells #[.string (str first)] 9)):=((Below.refl _ _).alloc (Qab _) _).alloc (by simp) _
 have hres:((w.alloc (.cells #[.int .i64 0,.int .i64 0] 41)).alloc (.cells #[.string (str first)] 9)).heap[w.heap.size]?=some (.cells #[.int .i64 0,.int .i64 0] 41 (0,0)):=by
  rw [Below.heap_alloc _ _ _ (by simp)];exact heap_alloc_new w _
 have hst:((w.alloc (.cells #[.int .i64 0,.int .i64 0] 41)).alloc (.cells #[.string (str first)] 9)).ownsRow w.heap.size 9 1 (.slice (some ⟨w.heap.size+1,0,none⟩) 1 1) 1 [.string (str first)]:=by
  have:=World.ownsRow_lit (base:=w.heap.size) (e:=9) (size:=1) (w.alloc (.cells #[.int .i64 0,.int .i64 0] 41)) #[.string (str first)] 1 (by simp) (by simp only [maxLen];omega) rfl;simpa using this
 go_loopg [10,11,12] f (fun fu st op at_ wr=>∃(k:Nat) (stk:List Txt) (o:Int),fu≤f∧at_= .int .i64 k∧op= .int .i64 o∧Hid (runF R nf bf toks depth fu stk k o=some r)∧Hid (-((f:Int) - fu)≤o∧o≤(f:Int) - fu)∧Hid (stk.length≤1000000001)∧
  wr.ownsRow w.heap.size 9 1 st stk.length (stk.reverse.map fun x=>Value.string (str x))∧Hid (st.ownBlock≠some w.heap.size)∧Hid (wr.heap[w.heap.size]?=some (.cells #[.int .i64 0,.int .i64 0] 41 (0,0)))∧Below w.heap.size w wr)
 case atStart=>exact ⟨0,[first],0,Qab _,rfl,rfl,HH.out,⟨by omega,by omega⟩,(by show 1≤1000000001;omega),hst,(by intro e;injection e with e;have e:w.heap.size+1=w.heap.size:=e;omega),hres,hbase⟩
 case round=>
  clear hst hres hbase;obtain ⟨k,stk,o,hfu,rfl,rfl,hrun,hor,hsl,hst,hne,hres,hb⟩:=hrel;obtain ⟨As,cs,rfl,hlc,hcs⟩:=y0e hst
  have hcs63:cs≤9223372036854775807:=by simpa [maxLen] using hcs
  cases gk with
  |zero=>have h0:=hrun.out;rw [runF] at h0;cases h0
  |succ fu=>
   cases stk with
   |nil=>
    have hr0:=hrun.out;rw [runF] at hr0;injection hr0 with hr1;have q0:wr.cell? ⟨w.heap.size,0,none⟩=some (.int .i64 0):=cell_of_row wr w.heap.size 0 _ _ (0,0) hres.out;have q1:wr.cell? ⟨w.heap.size,1,none⟩=some (.int .i64 0):=cell_of_row wr w.heap.size 1 _ _ (0,0) hres.out;have f0:=frozen_of_row wr w.heap.size 0 _ _ hres.out;have f1:=frozen_of_row wr w.heap.size 1 _ _ hres.out
    go_wp2_with fail
    obtain ⟨z0,z1⟩:=z64 hres.out (.int .i64 0) (.int .i64 0);rw [←hr1];exact bodyPost_ret (v:=.tuple #[.int .i64 0,.agg #[.int .i64 0,.int .i64 0]]) (by simp [results,Tryz.results96,go_sem,z0,z1]) rfl ⟨rfl,(hb.setCell (Qab _) _).setCell (Qab _) _⟩
   |cons top rest=>
    have hr0:=hrun.out;rw [runF] at hr0
    obtain ⟨t,ht⟩: ∃t,toks[k]?=some t:=by
     cases ht:toks[k]? with
     |none=>rw [ht] at hr0;cases hr0
     |some t=>exact ⟨t,rfl⟩
    rw [ht] at hr0;dsimp only at hr0
    have hkn:k<nt:=by rw [←HNT.out];exact (Qac.1 ht).1
    have hkI:(k:Int)<(nt:Int):=by omega
    obtain ⟨hul,hud⟩:=KT.out _ hb;obtain ⟨ad,rfl,hadB,d0,d1,d2,d3,d4,d5,d6⟩:=tok_at hul hud ht;obtain ⟨kind,line,col,start,stop,text,value⟩:=t;dsimp only at d0 d1 d2 d3 d4 d5 d6;by_cases hbad:top=[]∨1000<top.length
    ·rw [if_pos hbad] at hr0;cases hr0
    rw [if_neg hbad] at hr0;have ht0:0<top.length:=Qbt.2 (fun e=>hbad (.inl e))
    have ht1:top.length≤1000:=by omega
    obtain ⟨gs,rfl,hgs1,hgs2,_⟩:=q4n hst (by simp);have hc:=hst.cellAt rest.length (by simp);rw [show ((top::rest).reverse.map fun x=>Value.string (str x))[rest.length]?=some (.string (str top)) by simp] at hc;obtain ⟨q,hq⟩: ∃q,rest.length=q:=⟨_,rfl⟩;have hst':=q8c (m:=rest.length) hst (by simp);rw [show ((top::rest).reverse.map fun x=>Value.string (str x)).take (rest.length*1)=rest.reverse.map fun x=>Value.string (str x) by simp] at hst'
    have hlen:(top::rest).length=q+1:=by simp [hq]
    rw [hlen];have HQ:=hide hq;rw [hq] at hc hst'
    have hqc:q≤cs:=by rw [hlen] at hlc;omega
    clear hlc;have HST:=hide hst';have HR0:=hide hr0;have HT:=hide ht;have HS:=hide hst;clear hst' hr0 ht hst hul hud hrun hlen hq
    go_wp2_with fail
    have hblk:TokAt (wr.alloc (.cells #[.int .i64 kind,.int .i64 line,.int .i64 col,.int .i64 start,.int .i64 stop,.string (str text),.string (str value)] 148)) wr.heap.size ⟨kind,line,col,start,stop,text,value⟩:=heap_alloc_new wr _;have hb1:Below wr.heap.size wr (wr.alloc (.cells #[.int .i64 kind,.int .i64 line,.int .i64 col,.int .i64 start,.int .i64 stop,.string (str text),.string (str value)] 148)):=(Below.refl _ _).alloc (Qab _) _;obtain ⟨g,hg⟩: ∃g,wr.heap.size=g:=⟨_,rfl⟩
    have hgw:w.heap.size≤g:=by rw [←hg];exact hb.size
    generalize wr.alloc (.cells #[.int .i64 kind,.int .i64 line,.int .i64 col,.int .i64 start,.int .i64 stop,.string (str text),.string (str value)] 148)=w1 at hblk hb1 ⊢;have hB1:=hb.trans (hb1.mono hb.size);have hst1:=HST.out.kept (row:=none) ⟨hb1.os,hb1.tape,hb1.output,hb1.size,fun i hi _=>hb1.block i hi⟩ (by simp [Value.ownBlock]);have hres1:=(hb1.block w.heap.size (by rw [hg];have:=(Qan.1 hres.out).1;omega)).trans hres.out;rw [hg] at hblk ⊢;clear hc HST hgs2 hb hb1 hres HS d0 d1 d2 d3 d4 d5 d6 hadB hg;refine (y97 top _ ht0).mono ?_;rintro e w1 ⟨rfl,rfl⟩;have t0:=hblk.cell 0;have t1:=hblk.cell 1;have t2:=hblk.cell 2;have t3:=hblk.cell 3;have t4:=hblk.cell 4;have t5:=hblk.cell 5;have t6:=hblk.cell 6;have hr0:=HR0.out
    cases hru:y2a top with
    |true=>
     rw [hru,if_pos rfl] at hr0
     cases hch:y5g R nf bf ⟨kind,line,col,start,stop,text,value⟩ top with
     |none=>rw [hch] at hr0;cases hr0
     |some p=>
      obtain ⟨cc,b⟩:=p;rw [hch] at hr0;have hcall:=x57 B R A n c ⟨kind,line,col,start,stop,text,value⟩ nf bf top (cc,b) w1 (KR.out _ hB1) (Qah hB hB1.size) hch;have HR1:=hide hr0;clear hru hch hr0 HR0
      go_wp2_with fail
      refine hcall.mono ?_;rintro e w2 ⟨v,rfl,hv,hb2⟩;have hblk2:=hblk.below hb2;have hst2:=hst1.kept (row:=none) ⟨hb2.os,hb2.tape,hb2.output,hb2.size,fun i hi _=>hb2.block i hi⟩ (by simp [Value.ownBlock]);have hres2:=(hb2.block w.heap.size ((Qan.1 hres1).1)).trans hres1;have hB2:=hB1.trans (hb2.mono hB1.size);clear hcall t0 t1 t2 t3 t4 t5 t6 hblk hst1 hres1 hb2 hB1;have t1:=hblk2.cell 1;have t2:=hblk2.cell 2
      cases b with
      |false=>
       have hr1:=HR1.out;dsimp only at hr1;injection hr1 with hr1;have q0:w2.cell? ⟨w.heap.size,0,none⟩=some (.int .i64 0):=cell_of_row w2 w.heap.size 0 _ _ (0,0) hres2;have q1:w2.cell? ⟨w.heap.size,1,none⟩=some (.int .i64 0):=cell_of_row w2 w.heap.size 1 _ _ (0,0) hres2;have f0:=frozen_of_row w2 w.heap.size 0 _ _ hres2;have f1:=frozen_of_row w2 w.heap.size 1 _ _ hres2
       go_wp2_with fail
       go_region
       go_wp2_with fail
       obtain ⟨z0,z1⟩:=z64 hres2 (.int .i64 line) (.int .i64 col);rw [←hr1];exact bodyPost_ret (v:=.tuple #[.int .i64 70,.agg #[.int .i64 line,.int .i64 col]]) (by simp [results,Tryz.results96,go_sem,z0,z1]) rfl ⟨rfl,below_drewN ((hB2.setCell (Qab _) _).setCell (Qab _) _) 1⟩
      |true=>
       have hr1:=HR1.out;dsimp only at hr1;by_cases hbig:1000000000<cc.length+rest.length
       ·rw [if_pos hbig] at hr1;cases hr1
       rw [if_neg hbig] at hr1;obtain ⟨Av,cv,vs,rfl,hvn,hvc,hvl,hvd⟩:=y0k hv;obtain ⟨p,hp⟩: ∃p,cc.length=p:=⟨_,rfl⟩
       have hpq:p+q≤1000000000:=by rw [←hp,←HQ.out];omega
       have KV:Hid (∀w',Below w.heap.size w w'→ReadsL w' (Lo B) (strL cc) vs∧RdS w' (Lo B) Av vs):=fun w' hb=>
        ⟨ReadsL.keep (w:=w2) (w':=w') (S:=Lo B) (S':=Lo B) (fun _ h=>h) (fun p hp=>(hb.cell (Qap hp hB)).trans (hB2.cell (Qap hp hB)).symm) _ _ hvl,RdS.keep (w:=w2) (w':=w') (S:=Lo B) (S':=Lo B) hvd (fun _ h=>h) (fun p hp=>(hb.cell (Qap hp hB)).trans (hB2.cell (Qap hp hB)).symm)⟩
       have hp63:p≤9223372036854775807:=by omega
       rw [hp] at hvn;rw [hp];have HP:=hide hp;have HR2:=hide hr1;clear hr1 HR1 hbig hvl hvd hv hp
       go_wp2_with fail
       obtain ⟨wq,hwq⟩: ∃wq:World,wq=wr:=⟨_,rfl⟩;clear hwq
       go_loopw [10,17] (fun st i wr=>∃j:Nat,j≤p∧i= .int .i64 ((j:Int) - 1)∧wr.ownsRow w.heap.size 9 1 st (p - j+q) ((cc.drop j++rest).reverse.map fun x=>Value.string (str x))∧Hid (st.ownBlock≠some w.heap.size)∧Hid (wr.heap[w.heap.size]?=some (.cells #[.int .i64 0,.int .i64 0] 41 (0,0)))∧Below w.heap.size w wr) (fun _ i _=>(intOf i+1).toNat)
       case atStart=>
        refine ⟨p,Qab _,rfl,?_,hne,hres2,hB2⟩;rw [Qbo (by rw [HP.out];exact Qab _),List.nil_append,Nat.sub_self,Nat.zero_add];exact hst2
       case round=>
        clear hst2 hres2 hB2 hblk2 t1 t2;obtain ⟨j,hj,rfl,hst3,hne3,hres3,hb3⟩:=hrel;obtain ⟨A3,c3,rfl,_,hc3⟩:=y0e hst3
        cases j with
        |zero=>
         have hlen:(cc++rest).length≤1000000001:=by rw [Qae,HP.out,HQ.out];omega
         have hst4:wr.ownsRow w.heap.size 9 1 (.slice A3 (p - 0+q) c3) (cc++rest).length ((cc++rest).reverse.map fun x=>Value.string (str x)):=by
          rw [Qae,HP.out,HQ.out];exact hst3
         go_wp2_with fail
         go_roundg fu
         case rel=>exact ⟨k,cc++rest,o,by omega,rfl,rfl,HR2.out,⟨by have:=hor.out.1;omega,by have:=hor.out.2;omega⟩,hlen,hst4,hne3,hres3,hb3⟩
         case measure=>omega
        |succ j=>
         obtain ⟨x,hx⟩: ∃x,cc[j]?=some x:=⟨_,Qad (by rw [HP.out];omega)⟩;obtain ⟨hvl,hvd⟩:=KV.out _ hb3;obtain ⟨adv,rfl,hcx⟩:=z11 hvl hvd hx
         have hdrop:cc.drop j=x::cc.drop (j+1):=by
          obtain ⟨hj',rfl⟩:=Qac.1 hx;exact Qa1 hj'
         have HDR:=hide hdrop
         have hjI:((j+1:Nat):Int) - 1=(j:Int):=by omega
         have hj0:(0:Int)≤(j:Int):=by omega
         have hjp:j<p:=by omega
         have hjpI:(j:Int)<(p:Int):=by omega
         rw [hjI];clear hvl hvd hx hdrop hjI
         go_wp2_with (at_builtin;refine y0b _ rfl _ _ 27 rfl w.heap.size 9 i0 (.string ⟨#[]⟩) 1 16 Tryz.underlying27 hi0 hz0 hz1 hz2 rfl (by decide) _ _ _ rfl (hst3.alloc _) _ _ 1 1 [_] rfl (by rfl) (y3f _ [_] _ (Qaw _)) z6v (by simp only [maxLen];omega) (by omega) (Qah hb3.size (by simp)) ?_)
         intro v4 w4 hown4 hg4 hat4;have hb4:=y0d (hb3.alloc hb3.size _) (hst3.alloc _) (Qab _) hg4 (Qah hb3.size (by simp));have hlt0:w.heap.size<wr.heap.size:=(Qan.1 hres3.out).1
         have hres4:Hid (w4.heap[w.heap.size]?=some (.cells #[.int .i64 0,.int .i64 0] 41 (0,0))):=by
          show _=_
          rw [hg4.block w.heap.size (by simp;omega) (fun e=>hne3.out e.symm),Below.heap_alloc _ _ _ hlt0];exact hres3.out
         have hne4:Hid (v4.ownBlock≠some w.heap.size):=by
          rcases hat4 with e|e
          ·rw [e];exact hne3
          ·rw [e];intro e;injection e with e;omega
         have hown4':w4.ownsRow w.heap.size 9 1 v4 (p - j+q) ((cc.drop j++rest).reverse.map fun x=>Value.string (str x)):=by
          rw [HDR.out,show p - j+q=p - (j+1)+q+1 by omega];simpa using hown4
         go_wp2_with fail
         go_roundw
         case rel=>exact ⟨j,by omega,by go_num,hown4',hne4,hres4,hb4⟩
         case measure=>simp [intOf]
    |false=>
     rw [hru,if_neg (by decide)] at hr0;have hfc:=x3r top ⟨kind,line,col,start,stop,text,value⟩ w1 ht0 (by omega);have HR1:=hide hr0;clear hru hr0 HR0
     go_wp2_with fail
     refine hfc.mono ?_;rintro e w2 ⟨rfl,hb2⟩;have hblk2:=hblk.below hb2;have hst2:=hst1.kept (row:=none) ⟨hb2.os,hb2.tape,hb2.output,hb2.size,fun i hi _=>hb2.block i hi⟩ (by simp [Value.ownBlock]);have hres2:=(hb2.block w.heap.size ((Qan.1 hres1).1)).trans hres1;have hB2:=hB1.trans (hb2.mono hB1.size);clear hfc t0 t1 t2 t3 t4 t5 t6 hblk hst1 hres1 hb2 hB1;have t1:=hblk2.cell 1;have t2:=hblk2.cell 2;have hr1:=HR1.out
     cases hfit:y0n top ⟨kind,line,col,start,stop,text,value⟩ with
     |false=>
      rw [hfit,if_pos rfl] at hr1;injection hr1 with hr1;have q0:w2.cell? ⟨w.heap.size,0,none⟩=some (.int .i64 0):=cell_of_row w2 w.heap.size 0 _ _ (0,0) hres2;have q1:w2.cell? ⟨w.heap.size,1,none⟩=some (.int .i64 0):=cell_of_row w2 w.heap.size 1 _ _ (0,0) hres2;have f0:=frozen_of_row w2 w.heap.size 0 _ _ hres2;have f1:=frozen_of_row w2 w.heap.size 1 _ _ hres2
      go_wp2_with fail
      go_region
      go_wp2_with fail
      obtain ⟨z0,z1⟩:=z64 hres2 (.int .i64 line) (.int .i64 col);rw [←hr1];exact bodyPost_ret (v:=.tuple #[.int .i64 70,.agg #[.int .i64 line,.int .i64 col]]) (by simp [results,Tryz.results96,go_sem,z0,z1]) rfl ⟨rfl,below_drewN ((hB2.setCell (Qab _) _).setCell (Qab _) _) 1⟩
     |true=>
      rw [hfit,if_neg (by decide)] at hr1;clear hfit
      go_wp2_with fail
      refine (y29 top _).mono ?_;rintro e w2 ⟨rfl,rfl⟩;have hob:=hor.out;obtain ⟨br,hbr⟩: ∃br,y06 top=br:=⟨_,rfl⟩
      have hbr1: -1≤br∧br≤1:=by rw [←hbr];unfold y06;split<;>(try split)<;>omega
      rw [hbr] at hr1 ⊢;have HBR:=hide hbr;by_cases hdeep:br=1∧depth≤o
      ·rw [if_pos hdeep] at hr1;injection hr1 with hr1;obtain ⟨hd1,hd2⟩:=hdeep;subst hd1;have q0:w2.cell? ⟨w.heap.size,0,none⟩=some (.int .i64 0):=cell_of_row w2 w.heap.size 0 _ _ (0,0) hres2;have q1:w2.cell? ⟨w.heap.size,1,none⟩=some (.int .i64 0):=cell_of_row w2 w.heap.size 1 _ _ (0,0) hres2;have f0:=frozen_of_row w2 w.heap.size 0 _ _ hres2;have f1:=frozen_of_row w2 w.heap.size 1 _ _ hres2
       go_wp2_with fail
       go_region
       go_wp2_with fail
       obtain ⟨z0,z1⟩:=z64 hres2 (.int .i64 line) (.int .i64 col);rw [←hr1];exact bodyPost_ret (v:=.tuple #[.int .i64 71,.agg #[.int .i64 line,.int .i64 col]]) (by simp [results,Tryz.results96,go_sem,z0,z1]) rfl ⟨rfl,below_drewN ((hB2.setCell (Qab _) _).setCell (Qab _) _) 1⟩
      ·rw [if_neg hdeep] at hr1;have HR2:=hide hr1
       have hnext: ∀k',(k+1<nt→k'=k+1)→(¬k+1<nt→k'=k)→runF R nf bf toks depth fu rest k' (o+br)=some r:=fun k' h1 h2=>by
        have h3:=HR2.out;rw [HNT.out] at h3;by_cases h:k+1<nt
        ·rw [if_pos h] at h3;rw [h1 h];exact h3
        ·rw [if_neg h] at h3;rw [h2 h];exact h3
       have HNX:=hide hnext
       have hst4:w2.ownsRow w.heap.size 9 1 (.slice (some ⟨gs,0,none⟩) q cs) rest.length (rest.reverse.map fun x=>Value.string (str x)):=by rw [HQ.out];exact hst2
       have hrl:Hid (rest.length≤1000000001):=by have h:(top::rest).length≤1000000001:=hsl.out;show _≤_;simp at h;omega
       clear hr1 HR1 hnext
       have hb1:br=1∨br=0∨br= -1:=by omega
       rcases hb1 with rfl|rfl|rfl
       ·have hnd: ¬(depth≤o):=fun h=>hdeep ⟨rfl,h⟩;by_cases hk1:k+1<nt
        ·have hk1I:(k:Int)+1<(nt:Int):=by omega
         have H4:=hide (HNX.out (k+1) (fun _=>rfl) (fun h=>absurd hk1 h))
         go_wp2_with fail
         refine (y29 top _).mono ?_;rintro e w2 ⟨rfl,rfl⟩;rw [HBR.out]
         go_wp2_with fail
         go_roundg fu
         case rel=>exact ⟨k+1,rest,_,by omega,by go_num,rfl,(by first|exact H4.out|(have h:=H4.out;rw [Int.add_zero] at h;exact h)),⟨by omega,by omega⟩,hrl,hst4,hne,hres2,hB2⟩
         case measure=>omega
        ·have hk1I: ¬((k:Int)+1<(nt:Int)):=by omega
         have H4:=hide (HNX.out k (fun h=>absurd h hk1) (fun _=>rfl))
         go_wp2_with fail
         refine (y29 top _).mono ?_;rintro e w2 ⟨rfl,rfl⟩;rw [HBR.out]
         go_wp2_with fail
         go_roundg fu
         case rel=>exact ⟨k,rest,_,by omega,rfl,rfl,(by first|exact H4.out|(have h:=H4.out;rw [Int.add_zero] at h;exact h)),⟨by omega,by omega⟩,hrl,hst4,hne,hres2,hB2⟩
         case measure=>omega
       ·by_cases hk1:k+1<nt
        ·have hk1I:(k:Int)+1<(nt:Int):=by omega
         have H4:=hide (HNX.out (k+1) (fun _=>rfl) (fun h=>absurd hk1 h))
         go_wp2_with fail
         refine (y29 top _).mono ?_;rintro e w2 ⟨rfl,rfl⟩;rw [HBR.out]
         go_wp2_with fail
         go_roundg fu
         case rel=>exact ⟨k+1,rest,_,by omega,by go_num,rfl,(by first|exact H4.out|(have h:=H4.out;rw [Int.add_zero] at h;exact h)),⟨by omega,by omega⟩,hrl,hst4,hne,hres2,hB2⟩
         case measure=>omega
        ·have hk1I: ¬((k:Int)+1<(nt:Int)):=by omega
         have H4:=hide (HNX.out k (fun h=>absurd h hk1) (fun _=>rfl))
         go_wp2_with fail
         refine (y29 top _).mono ?_;rintro e w2 ⟨rfl,rfl⟩;rw [HBR.out]
         go_wp2_with fail
         go_roundg fu
         case rel=>exact ⟨k,rest,_,by omega,rfl,rfl,(by first|exact H4.out|(have h:=H4.out;rw [Int.add_zero] at h;exact h)),⟨by omega,by omega⟩,hrl,hst4,hne,hres2,hB2⟩
         case measure=>omega
       ·by_cases hk1:k+1<nt
        ·have hk1I:(k:Int)+1<(nt:Int):=by omega
         have H4:=hide (HNX.out (k+1) (fun _=>rfl) (fun h=>absurd hk1 h))
         go_wp2_with fail
         refine (y29 top _).mono ?_;rintro e w2 ⟨rfl,rfl⟩;rw [HBR.out]
         go_wp2_with fail
         go_roundg fu
         case rel=>exact ⟨k+1,rest,_,by omega,by go_num,rfl,(by first|exact H4.out|(have h:=H4.out;rw [Int.add_zero] at h;exact h)),⟨by omega,by omega⟩,hrl,hst4,hne,hres2,hB2⟩
         case measure=>omega
        ·have hk1I: ¬((k:Int)+1<(nt:Int)):=by omega
         have H4:=hide (HNX.out k (fun h=>absurd h hk1) (fun _=>rfl))
         go_wp2_with fail
         refine (y29 top _).mono ?_;rintro e w2 ⟨rfl,rfl⟩;rw [HBR.out]
         go_wp2_with fail
         go_roundg fu
         case rel=>exact ⟨k,rest,_,by omega,rfl,rfl,(by first|exact H4.out|(have h:=H4.out;rw [Int.add_zero] at h;exact h)),⟨by omega,by omega⟩,hrl,hst4,hne,hres2,hB2⟩
         case measure=>omega
end Go.Proofs.YtbpgkkoeehopjaaGreat.gram
namespace Go.Proofs.YtbpgkkoeehopjaaGreat.tree
open Go.RowKit words
structure RowT (w:World) (S:Nat→Prop) (base:Nat) (e:TypeId) (k:Nat) (v:Value) (n:Nat) (cs:List Leaf) (vs:List Value):Prop where
 own:w.ownsRow base e k v n vs
 reads:ReadsL w (fun b=>S b∧v.ownBlock≠some b) cs vs
 le: ∀b,S b→b<w.heap.size
section
variable {w w' : World} {S S' : Nat → Prop} {base n k : Nat} {e : TypeId} {v : Value} {cs : List Leaf} {vs : List Value}
theorem RowT.nil (h: ∀b,S b→b<w.heap.size):RowT w S base e k (.slice none 0 0) 0 [] []:=⟨World.ownsRow_nil _ _ _ _,ReadsL.nil,h⟩
theorem RowT.lift (h:RowT w S base e k v n cs vs) (h1: ∀b,S b→S' b) (h2: ∀b,S' b→b<w.heap.size):RowT w S' base e k v n cs vs:=
 ⟨h.own,ReadsL.keep (fun b hb=>⟨h1 b hb.1,hb.2⟩) (fun _ _=>rfl) _ _ h.reads,h2⟩
theorem RowT.other {row:Option Nat} (h:RowT w S base e k v n cs vs) (hg:w.grownBy w' row) (hrow: ∀b,row=some b→ ¬S b) (hne:v.ownBlock=none∨v.ownBlock≠row):RowT w' S base e k v n cs vs:=
 ⟨h.own.kept hg hne,ReadsL.keep (fun _ hb=>hb) (fun p hp=>World.cell?_of_block (hg.block p.block (h.le _ hp.1) (fun e=>hrow _ e.symm hp.1))) _ _ h.reads,fun b hb=>Qap (h.le b hb) hg.size⟩
theorem x1l {B:Nat} (hb:Below B w w') (hB:w.heap.size≤B):w.grownBy w' none:=⟨hb.os,hb.tape,hb.output,hb.size,fun i hi _=>hb.block i (by omega)⟩
theorem RowT.below (h:RowT w S base e k v n cs vs) (hb:Below w.heap.size w w'):RowT w' S base e k v n cs vs:=
 h.other (x1l hb (Qab _)) (fun b e=>by cases e) (by cases v.ownBlock<;>simp)
theorem RowT.alloc (h:RowT w S base e k v n cs vs) (o:Obj):RowT (w.alloc o) S base e k v n cs vs:=h.below ((Below.refl _ _).alloc (Qab _) o)
theorem RowT.push {m:Nat} {v':Value} {cs':List Leaf} {vs':List Value} (h:RowT w S base e k v n cs vs) (ho:w'.ownsRow base e k v' (n+m) (vs++vs')) (hg:w.grownBy w' v.ownBlock)
  (hat:v'.ownBlock=v.ownBlock∨v'.ownBlock=some w.heap.size) (hr:ReadsL w (fun b=>S b∧v.ownBlock≠some b) cs' vs'):RowT w' S base e k v' (n+m) (cs++cs') (vs++vs'):=by
 refine ⟨ho,ReadsL.keep (w:=w) (S:=fun b=>S b∧v.ownBlock≠some b) (fun b hb=>⟨hb.1,?_⟩) (fun p hp=>World.cell?_of_block (hg.block p.block (h.le _ hp.1) (fun e=>hp.2 e.symm))) _ _ (h.reads.app hr),fun b hb=>Qap (h.le b hb) hg.size⟩;rcases hat with hat|hat
 ·rw [hat];exact hb.2
 ·rw [hat];intro e;injection e with e;have:=h.le _ hb.1;omega
theorem RowT.list (h:RowT w S base e k v n cs vs):Reads w (Lo w.heap.size) (.list n cs) v:=by
 obtain ⟨A,c,rfl,h1,h2⟩:=y0e h.own;refine y19 h1 h2 (ReadsL.keep (fun b hb=>h.le b hb.1) (fun p _=>rfl) _ _ h.reads) ?_;intro hn;obtain ⟨ad,e,hb,hc⟩:=Rd.of_own h.own hn;exact ⟨ad,e,hb,hc⟩
theorem y6v (w:World) (p:Addr) (u:Value):w.grownBy (w.setCell p u) (some p.block):=
 ⟨rfl,rfl,rfl,by simp [World.setCell],fun k hk hne=>Below.heap_setCell w p u k (fun e=>hne (by rw [e]))⟩
end
theorem y2k {w:World} {base k n:Nat} {e:TypeId} {v:Value} {vs:List Value} {cs:List Leaf} {S:Nat→Prop} (h:w.ownsRow base e k v n vs) (hr:ReadsL w S cs vs) (hS: ∀g,v.ownBlock=some g→S g):
  Reads w S (.list n cs) v:=by
 obtain ⟨A,c,rfl,h1,h2⟩:=y0e h;refine y19 h1 h2 hr ?_;intro hn;obtain ⟨ad,e,hb,hc⟩:=Rd.of_own h hn;exact ⟨ad,e,hS _ (by rw [e];rfl),hc⟩
theorem y23 {w:World} {B B' e e' s s' n n':Nat} {v v':Value} {xs xs':List Value} (h:w.ownsRow B e s v n xs) (h':w.ownsRow B' e' s' v' n' xs') (hne:e≠e'):v.ownBlock=none∨v.ownBlock≠v'.ownBlock:=by
 rcases h.2 with ⟨rfl,_⟩|⟨g,cap,cur,rfl,_,hg,_⟩
 ·exact .inl rfl
 ·rcases h'.2 with ⟨rfl,_⟩|⟨g',cap',cur',rfl,_,hg',_⟩
  ·exact .inr (by simp [Value.ownBlock])
  ·refine .inr fun ee=>?_
   have:g=g':=by simpa [Value.ownBlock] using ee
   subst this;rw [hg] at hg';injection hg' with hg';injection hg' with _ ht;exact hne ht
theorem y7y {w:World} {B e s n g:Nat} {t:TypeId} {fr:Nat×Nat} {v:Value} {xs:List Value} {cs:Array Value} (h:w.ownsRow B e s v n xs) (hg:w.heap[g]?=some (.cells cs t fr)) (hne:e≠t):v.ownBlock≠some g:=by
 rcases h.2 with ⟨rfl,_⟩|⟨g',cap,cur,rfl,_,hg',_⟩
 ·simp [Value.ownBlock]
 ·intro e
  have:g'=g:=by simpa [Value.ownBlock] using e
  subst this;rw [hg] at hg';injection hg' with hg';injection hg' with _ ht;exact hne ht.symm
end Go.Proofs.YtbpgkkoeehopjaaGreat.tree
namespace Go.Proofs.YtbpgkkoeehopjaaGreat.lex
open Go.RowKit words enc utf dec ln lines tree gram
set_option maxRecDepth 100000
def seen (c:Int):Int:=if y7r c=true then c else -1
def y3k (zs:List Int) (clean:Bool):List Int:=zs.map seen++(if clean=true then [] else [-1])++[-2]
set_option maxHeartbeats 4000000 in
theorem q4o (A:Option Addr) (n c B:Nat) (zs:List Int) (clean:Bool) (w:World) (hr:Rd w B A (zs.map (Value.int .i32))) (hB:B≤w.heap.size) (hn:zs.length=n) (h63:n≤4194304):
  Calls Tryz.prog 136 #[.slice A n c,.bool clean] w fun e w'=>∃v,e= .returned v∧w'.ownsRow w.heap.size 21 1 v (y3k zs clean).length ((y3k zs clean).map (Value.int .i32))∧Below w.heap.size w w':=by
 obtain ⟨i0,hi0,hz0,hz1,hz2⟩:=info_parts y95;have HN:=hide hn;clear hn;go_enter Tryz.func136,Tryz.ntmps136
 go_wp2_with fail
 go_loopw [5,6] (fun v iv wr=>∃k:Nat,k≤n∧iv= .int .i64 k∧wr.ownsRow w.heap.size 21 1 v k (((zs.map seen).take k).map (Value.int .i32))∧Below w.heap.size w wr) (fun _ iv _=>n - (intOf iv).toNat)
 case atStart=>exact ⟨0,Qak _,rfl,World.ownsRow_nil _ _ _ _,Below.refl _ _⟩
 case round=>
  obtain ⟨k,hk,rfl,hown,hb⟩:=hrel;obtain ⟨Av,cv,rfl,_,hcv⟩:=y0e hown;by_cases hlt:k<n
  ·have hkI:(k:Int)<(n:Int):=by omega
   obtain ⟨z,hz⟩: ∃z,zs[k]?=some z:=⟨_,Qad (by rw [HN.out];exact hlt)⟩;obtain ⟨ad,rfl,hc⟩:=y2g (hr.below' hb hB) hz
   have hnext: ∀(v2:Value) (w2:World),w2.ownsRow w.heap.size 21 1 v2 (k+1) (((zs.map seen).take k).map (Value.int .i32)++[.int .i32 (seen z)])→w2.ownsRow w.heap.size 21 1 v2 (k+1) (((zs.map seen).take (k+1)).map (Value.int .i32)):=fun v2 w2 h=>by
    have e:(zs.map seen)[k]?=some (seen z):=by rw [Qbz,hz];rfl
    obtain ⟨hk',he⟩:=Qac.1 e;rw [Qbk hk',he];simpa using h
   have HNX:=hide hnext;clear hnext hz
   cases hs:y7r z with
   |true=>
    have hse:seen z=z:=by unfold seen;rw [if_pos hs]
    have HSE:=hide hse;have HS:=hide hs;clear hs hse
    go_wp2_with fail
    refine (y56 z _).mono ?_;rintro e wr ⟨rfl,rfl⟩;rw [HS.out]
    go_wp2_with (at_builtin;refine y0b _ rfl _ _ 187 rfl w.heap.size 21 i0 (.int .i32 0) 1 4 Tryz.underlying187 hi0 hz0 hz1 hz2 rfl (by decide) _ _ _ rfl (hown.alloc _) _ _ 1 1 [_] rfl (by rfl) (y3f _ [_] _ (Qaw _)) (y33 [_]) (by simp only [maxLen];omega) (by omega) (Qah hb.size (by simp)) ?_)
    intro v2 w2 hown2 hg2 hat2;have hb2:=y0d (hb.alloc hb.size _) (hown.alloc _) (Qab _) hg2 (Qah hb.size (by simp));have hown3:=HNX.out v2 w2 (by rw [HSE.out];simpa [List.map_take] using hown2)
    go_wp2_with fail
    go_roundw
    case rel=>exact ⟨k+1,by omega,by go_num,hown3,hb2⟩
    case measure=>simp [intOf];omega
   |false=>
    have hse:seen z= -1:=by unfold seen;rw [if_neg (by rw [hs];decide)]
    have HSE:=hide hse;have HS:=hide hs;clear hs hse
    go_wp2_with fail
    refine (y56 z _).mono ?_;rintro e wr ⟨rfl,rfl⟩;rw [HS.out]
    go_wp2_with (at_builtin;refine y0b _ rfl _ _ 187 rfl w.heap.size 21 i0 (.int .i32 0) 1 4 Tryz.underlying187 hi0 hz0 hz1 hz2 rfl (by decide) _ _ _ rfl (hown.alloc _) _ _ 1 1 [_] rfl (by rfl) (y3f _ [_] _ (Qaw _)) (y33 [_]) (by simp only [maxLen];omega) (by omega) (Qah hb.size (by simp)) ?_)
    intro v2 w2 hown2 hg2 hat2;have hb2:=y0d (hb.alloc hb.size _) (hown.alloc _) (Qab _) hg2 (Qah hb.size (by simp));have hown3:=HNX.out v2 w2 (by rw [HSE.out];simpa [List.map_take] using hown2)
    go_wp2_with fail
    go_roundw
    case rel=>exact ⟨k+1,by omega,by go_num,hown3,hb2⟩
    case measure=>simp [intOf];omega
  ·obtain rfl:k=n:=by omega
   rw [Qaj (by rw [Qay,HN.out];exact Qab _)] at hown;have hbs:=hb.size
   cases clean with
   |true=>
    have hlen:(y3k zs true).length=k+1:=by simp [y3k,HN.out]
    have hcells:(y3k zs true).map (Value.int .i32)=(zs.map seen).map (Value.int .i32)++[.int .i32 (-2)]:=by simp [y3k]
    have HL1:=hide hlen;have HC1:=hide hcells;clear hlen hcells
    go_wp2_with (at_builtin;refine y0b _ rfl _ _ 187 rfl w.heap.size 21 i0 (.int .i32 0) 1 4 Tryz.underlying187 hi0 hz0 hz1 hz2 rfl (by decide) _ _ _ rfl (hown.alloc _) _ _ 1 1 [_] rfl (by rfl) (y3f _ [_] _ (Qaw _)) (y33 [_]) (by simp only [maxLen];omega) (by omega) (Qah hbs (by simp)) ?_)
    intro v2 w2 hown2 hg2 hat2;have hb2:=y0d (hb.alloc hbs _) (hown.alloc _) (Qab _) hg2 (Qah hbs (by simp))
    go_wp2_with fail
    go_ret;exact ⟨_,rfl,by rw [HL1.out,HC1.out];simpa using hown2,hb2⟩
   |false=>
    have hlen:(y3k zs false).length=k+2:=by simp [y3k,HN.out]
    have hcells:(y3k zs false).map (Value.int .i32)=(zs.map seen).map (Value.int .i32)++[.int .i32 (-1)]++[.int .i32 (-2)]:=by simp [y3k]
    have HL1:=hide hlen;have HC1:=hide hcells;clear hlen hcells
    go_wp2_with (at_builtin;refine y0b _ rfl _ _ 187 rfl w.heap.size 21 i0 (.int .i32 0) 1 4 Tryz.underlying187 hi0 hz0 hz1 hz2 rfl (by decide) _ _ _ rfl (hown.alloc _) _ _ 1 1 [_] rfl (by rfl) (y3f _ [_] _ (Qaw _)) (y33 [_]) (by simp only [maxLen];omega) (by omega) (Qah hbs (by simp)) ?_)
    intro v2 w2 hown2 hg2 hat2;have hb2:=y0d (hb.alloc hbs _) (hown.alloc _) (Qab _) hg2 (Qah hbs (by simp));have hbs2:=hb2.size
    go_wp2_with (at_builtin;refine y0b _ rfl _ _ 187 rfl w.heap.size 21 i0 (.int .i32 0) 1 4 Tryz.underlying187 hi0 hz0 hz1 hz2 rfl (by decide) _ _ _ rfl (hown2.alloc _) _ _ 1 1 [_] rfl (by rfl) (y3f _ [_] _ (Qaw _)) (y33 [_]) (by simp only [maxLen];omega) (by omega) (Qah hbs2 (by simp)) ?_)
    intro v3 w3 hown3 hg3 hat3;have hb3:=y0d (hb2.alloc hbs2 _) (hown2.alloc _) (Qab _) hg3 (Qah hbs2 (by simp))
    go_wp2_with fail
    go_ret;exact ⟨_,rfl,by rw [HL1.out,HC1.out];simpa using hown3,hb3⟩
theorem z83 {w:World} {g:Nat} {a b c d e f h:Value} {t:TypeId} (hg:w.heap[g]?=some (.cells #[a,b,c,d,e,f,h] t (0,0))) (u0 u1 u2 u3 u4 u5 u6:Value):
  let w':=(((((((w.setCell ⟨g,0,none⟩ u0).setCell ⟨g,1,none⟩ u1).setCell ⟨g,2,none⟩ u2).setCell ⟨g,3,none⟩ u3).setCell ⟨g,4,none⟩ u4).setCell ⟨g,5,none⟩ u5).setCell ⟨g,6,none⟩ u6)
  w'.cell? ⟨g,0,none⟩=some u0∧w'.cell? ⟨g,1,none⟩=some u1∧w'.cell? ⟨g,2,none⟩=some u2∧w'.cell? ⟨g,3,none⟩=some u3∧w'.cell? ⟨g,4,none⟩=some u4∧w'.cell? ⟨g,5,none⟩=some u5∧w'.cell? ⟨g,6,none⟩=some u6:=by
 refine ⟨?_,?_,?_,?_,?_,?_,?_⟩<;>simp [World.setCell,World.cell?,Array.getElem?_modify,hg]
def y59 (zs s:List Int) (f i:Nat):Option TokD:=
 match behF s f i with
 |none=>none
 |some a=>match oneF s f a with
  |none=>none
  |some r=>if a≤r.1∧r.1≤s.length∧a≤zs.length then some ⟨r.2.1,(pl zs a).1,(pl zs a).2,a,r.1,(encS ((s.drop a).take (r.1 - a))).data.toList,r.2.2⟩ else none
theorem x59 {zs s:List Int} {f i:Nat} {t:TokD} (h:y59 zs s f i=some t): ∃too:Nat,t.stop=(too:Int):=by
 unfold y59 at h
 cases ha:behF s f i with
 |none=>rw [ha] at h;cases h
 |some a=>
  rw [ha] at h;dsimp only at h
  cases ho:oneF s f a with
  |none=>rw [ho] at h;cases h
  |some r=>
   rw [ho] at h;dsimp only at h;by_cases hok:a≤r.1∧r.1≤s.length∧a≤zs.length
   ·rw [if_pos hok] at h;injection h with h;subst h;exact ⟨r.1,rfl⟩
   ·rw [if_neg hok] at h;cases h
set_option maxHeartbeats 4000000 in
theorem x9l (HB:z3j) (A Ap:Option Addr) (n c np cp B:Nat) (zs s:List Int) (w:World) (hr:Rd w B A (s.map (Value.int .i32))) (hB:B≤w.heap.size) (hn:s.length=n) (hnc:n≤c) (hcm:c≤maxLen) (h63:n≤4000000) (hlast:s.getLast?=some (-2))
  (hp:Rd w B Ap (y4i (places zs (np)))) (hnp:np=zs.length+1) (f i:Nat) (t:TokD) (h:y59 zs s f i=some t):
  Calls Tryz.prog 138 #[.slice A n c,.slice Ap np cp,.int .i64 i] w fun e w'=>e= .returned (tokV t)∧Below w.heap.size w w':=by
 have hc63:c≤9223372036854775807:=by simpa [maxLen] using hcm
 unfold y59 at h
 cases ha:behF s f i with
 |none=>rw [ha] at h;cases h
 |some a=>
  rw [ha] at h;dsimp only at h
  cases ho:oneF s f a with
  |none=>rw [ho] at h;cases h
  |some r=>
   rw [ho] at h;dsimp only at h;by_cases hok:a≤r.1∧r.1≤s.length∧a≤zs.length
   ·rw [if_pos hok] at h;injection h with h;subst h;obtain ⟨g1,g2,g3⟩:=hok;obtain ⟨too,kind,value⟩:=r;dsimp only at g1 g2 ⊢;obtain ⟨sub,hsub⟩: ∃l,(s.drop a).take (too - a)=l:=⟨_,rfl⟩
    have hsl:sub.length=too - a:=by rw [←hsub,Qau,Qav];omega
    have haI:(a:Int)≤(too:Int):=by omega
    have htc:too≤c:=by omega
    have hst:str (encS sub).data.toList=encS sub:=str_of _;rw [hsub];simp only [tokV];rw [hst];have HSL:=hide hsl;clear hst hsl;have hbw:Below w.heap.size w (w.alloc (.cells #[.int .i64 0,.int .i64 0,.int .i64 0,.int .i64 0,.int .i64 0,.string ⟨#[]⟩,.string ⟨#[]⟩] 148)):=(Below.refl _ _).alloc (Qab _) _;have hblk:(w.alloc (.cells #[.int .i64 0,.int .i64 0,.int .i64 0,.int .i64 0,.int .i64 0,.string ⟨#[]⟩,.string ⟨#[]⟩] 148)).heap[w.heap.size]?=some (.cells #[.int .i64 0,.int .i64 0,.int .i64 0,.int .i64 0,.int .i64 0,.string ⟨#[]⟩,.string ⟨#[]⟩] 148 (0,0)):=heap_alloc_new w _;go_enter Tryz.func138,Tryz.ntmps138
    go_wp2_with fail
    generalize w.alloc (.cells #[.int .i64 0,.int .i64 0,.int .i64 0,.int .i64 0,.int .i64 0,.string ⟨#[]⟩,.string ⟨#[]⟩] 148)=w1 at hbw hblk ⊢;have hr1:=hr.below' hbw hB;have hp1:=hp.below' hbw hB;have hB1:=Qah hB hbw.size;refine (x5q A n c B s w1 hr1 hn (by omega) f i a ha).mono ?_;rintro e w1 ⟨rfl,rfl⟩
    go_wp2_with fail
    refine (x1i HB A n c B s w1 hr1 hB1 hn hnc hcm h63 hlast f a (too,kind,value) ho).mono ?_;rintro e w2 ⟨rfl,hb2⟩;have hB2:=hbw.trans (hb2.mono hbw.size);have hblk2:=(hb2.block w.heap.size (Qan.1 hblk).1).trans hblk;have hr2:=hr.below' hB2 hB;have hrs:=(hr2.drop a).take (too - a);rw [←List.map_drop,←List.map_take,hsub] at hrs;clear hsub;obtain ⟨ad,rfl,_,p0,p1⟩:=q4j (hp.below' hB2 hB) (k:=a) (by omega)
    have hanp:(a:Int)<(np:Int):=by omega
    go_wp2_with fail
    ·have hrs0:Rd w2 B A (sub.map (Value.int .i32)):=by
      rw [Qa0 (l:=sub) (by have:=HSL.out;omega)];exact Rd.nil
     refine (y41 A (too - a) _ B sub _ hrs0 (Qah hB hB2.size) HSL.out (by omega)).mono ?_;rintro e w3 ⟨rfl,hb3⟩;have hB3:=hB2.trans (hb3.mono hB2.size);have hblk3:=(hb3.block w.heap.size (Qan.1 hblk2).1).trans hblk2;have p0:=(hb3.cell (p:=ad.add (a*2)) (World.block_lt_of_cell? _ _ p0)).trans p0;have p1:=(hb3.cell (p:=⟨(ad.add (a*2)).block,(ad.add (a*2)).off+1,none⟩) (World.block_lt_of_cell? _ _ p1)).trans p1;have c0:w3.cell? ⟨w.heap.size,0,none⟩=some (.int .i64 0):=cell_of_row w3 w.heap.size 0 _ _ (0,0) hblk3;have c1:w3.cell? ⟨w.heap.size,1,none⟩=some (.int .i64 0):=cell_of_row w3 w.heap.size 1 _ _ (0,0) hblk3;have c2:w3.cell? ⟨w.heap.size,2,none⟩=some (.int .i64 0):=cell_of_row w3 w.heap.size 2 _ _ (0,0) hblk3;have c3:w3.cell? ⟨w.heap.size,3,none⟩=some (.int .i64 0):=cell_of_row w3 w.heap.size 3 _ _ (0,0) hblk3;have c4:w3.cell? ⟨w.heap.size,4,none⟩=some (.int .i64 0):=cell_of_row w3 w.heap.size 4 _ _ (0,0) hblk3;have c5:w3.cell? ⟨w.heap.size,5,none⟩=some (.string ⟨#[]⟩):=cell_of_row w3 w.heap.size 5 _ _ (0,0) hblk3;have c6:w3.cell? ⟨w.heap.size,6,none⟩=some (.string ⟨#[]⟩):=cell_of_row w3 w.heap.size 6 _ _ (0,0) hblk3;have f0:=frozen_of_row w3 w.heap.size 0 _ _ hblk3;have f1:=frozen_of_row w3 w.heap.size 1 _ _ hblk3;have f2:=frozen_of_row w3 w.heap.size 2 _ _ hblk3;have f3:=frozen_of_row w3 w.heap.size 3 _ _ hblk3;have f4:=frozen_of_row w3 w.heap.size 4 _ _ hblk3;have f5:=frozen_of_row w3 w.heap.size 5 _ _ hblk3;have f6:=frozen_of_row w3 w.heap.size 6 _ _ hblk3
     go_wp2_with fail
     obtain ⟨z0,z1,z2,z3,z4,z5,z6⟩:=z83 hblk3 (.int .i64 kind) (.int .i64 (pl zs a).1) (.int .i64 (pl zs a).2) (.int .i64 a) (.int .i64 too) (.string (encS sub)) (.string (str value));exact bodyPost_ret (v:=.agg #[.int .i64 kind,.int .i64 (pl zs a).1,.int .i64 (pl zs a).2,.int .i64 a,.int .i64 too,.string (encS sub),.string (str value)]) (by simp [results,Tryz.results138,go_sem,z0,z1,z2,z3,z4,z5,z6]) rfl ⟨rfl,((((((hB3.setCell (Qab _) _).setCell (Qab _) _).setCell (Qab _) _).setCell (Qab _) _).setCell (Qab _) _).setCell (Qab _) _).setCell (Qab _) _⟩
    ·refine (y41 _ (too - a) _ B sub _ hrs (Qah hB hB2.size) HSL.out (by omega)).mono ?_;rintro e w3 ⟨rfl,hb3⟩;have hB3:=hB2.trans (hb3.mono hB2.size);have hblk3:=(hb3.block w.heap.size (Qan.1 hblk2).1).trans hblk2;have p0:=(hb3.cell (p:=ad.add (a*2)) (World.block_lt_of_cell? _ _ p0)).trans p0;have p1:=(hb3.cell (p:=⟨(ad.add (a*2)).block,(ad.add (a*2)).off+1,none⟩) (World.block_lt_of_cell? _ _ p1)).trans p1;have c0:w3.cell? ⟨w.heap.size,0,none⟩=some (.int .i64 0):=cell_of_row w3 w.heap.size 0 _ _ (0,0) hblk3;have c1:w3.cell? ⟨w.heap.size,1,none⟩=some (.int .i64 0):=cell_of_row w3 w.heap.size 1 _ _ (0,0) hblk3;have c2:w3.cell? ⟨w.heap.size,2,none⟩=some (.int .i64 0):=cell_of_row w3 w.heap.size 2 _ _ (0,0) hblk3;have c3:w3.cell? ⟨w.heap.size,3,none⟩=some (.int .i64 0):=cell_of_row w3 w.heap.size 3 _ _ (0,0) hblk3;have c4:w3.cell? ⟨w.heap.size,4,none⟩=some (.int .i64 0):=cell_of_row w3 w.heap.size 4 _ _ (0,0) hblk3;have c5:w3.cell? ⟨w.heap.size,5,none⟩=some (.string ⟨#[]⟩):=cell_of_row w3 w.heap.size 5 _ _ (0,0) hblk3;have c6:w3.cell? ⟨w.heap.size,6,none⟩=some (.string ⟨#[]⟩):=cell_of_row w3 w.heap.size 6 _ _ (0,0) hblk3;have f0:=frozen_of_row w3 w.heap.size 0 _ _ hblk3;have f1:=frozen_of_row w3 w.heap.size 1 _ _ hblk3;have f2:=frozen_of_row w3 w.heap.size 2 _ _ hblk3;have f3:=frozen_of_row w3 w.heap.size 3 _ _ hblk3;have f4:=frozen_of_row w3 w.heap.size 4 _ _ hblk3;have f5:=frozen_of_row w3 w.heap.size 5 _ _ hblk3;have f6:=frozen_of_row w3 w.heap.size 6 _ _ hblk3
     go_wp2_with fail
     obtain ⟨z0,z1,z2,z3,z4,z5,z6⟩:=z83 hblk3 (.int .i64 kind) (.int .i64 (pl zs a).1) (.int .i64 (pl zs a).2) (.int .i64 a) (.int .i64 too) (.string (encS sub)) (.string (str value));exact bodyPost_ret (v:=.agg #[.int .i64 kind,.int .i64 (pl zs a).1,.int .i64 (pl zs a).2,.int .i64 a,.int .i64 too,.string (encS sub),.string (str value)]) (by simp [results,Tryz.results138,go_sem,z0,z1,z2,z3,z4,z5,z6]) rfl ⟨rfl,((((((hB3.setCell (Qab _) _).setCell (Qab _) _).setCell (Qab _) _).setCell (Qab _) _).setCell (Qab _) _).setCell (Qab _) _).setCell (Qab _) _⟩
   ·rw [if_neg hok] at h;cases h
def y6a (zs s:List Int) (fB:Nat):Nat→Nat→Option (List TokD)
 |0,_=>none
 |f+1,i=>match y59 zs s fB i with
  |none=>none
  |some t=>if t.kind=0∨t.kind=1 then some [t] else if 3000000<t.stop then none else (match y6a zs s fB f t.stop.toNat with
   |none=>none
   |some l=>some (t::l))
def y1n (src:List UInt8):Option (List TokD):=
 y6a (decF src).1 (y3k (decF src).1 (decide ((decF src).2=src.length))) (src.length+3) (src.length+3) 0
theorem q4p:(Tryz.prog.info? 148).map (fun i=>(i.zero,i.size,i.bytes))=some (some (.agg #[.int .i64 0,.int .i64 0,.int .i64 0,.int .i64 0,.int .i64 0,.string ⟨#[]⟩,.string ⟨#[]⟩]),7,72):=by kernel_rfl
theorem x1m {t:TokD}: ∀u∈tokC t,u.oneCell'=true:=fun u hu=>by
 simp only [tokC,Qbd,List.mem_nil_iff,or_false] at hu
 rcases hu with rfl|rfl|rfl|rfl|rfl|rfl|rfl<;>rfl
theorem z1d {w:World} {S:Nat→Prop}: ∀(l:List TokD),ReadsL w S (x58 l) (l.flatMap tokC)
 |[]=>ReadsL.nil
 |t::l=>by
  have h:ReadsL w S (tokL t) (tokC t):=ReadsL.cons (y1z rfl) (ReadsL.cons (y1z rfl) (ReadsL.cons (y1z rfl) (ReadsL.cons (y1z rfl) (ReadsL.cons (y1z rfl) (ReadsL.cons (y1z rfl) (ReadsL.cons (y1z rfl) ReadsL.nil))))));exact h.app (z1d l)
theorem x9m (zs:List Int) (b:Bool):(y3k zs b).getLast?=some (-2):=by unfold y3k;simp
set_option maxHeartbeats 8000000 in
theorem z5o (HB:z3j) (A:Option Addr) (n c B:Nat) (src:List UInt8) (w:World) (hr:Rd w B A (Lib.byteCells src)) (hB:B≤w.heap.size) (hn:src.length=n) (hnc:n≤c) (hcm:c≤maxLen) (h63:n≤2200000) (r:List TokD) (h:y1n src=some r):
  Calls Tryz.prog 95 #[.slice A n c] w fun e w'=>∃v,e= .returned v∧Reads w' (fun b=>w.heap.size≤b∧b<w'.heap.size) (.list r.length (x58 r)) v∧Below w.heap.size w w':=by
 obtain ⟨i0,hi0,hz0,hz1,hz2⟩:=info_parts q4p;unfold y1n at h;obtain ⟨zs,m,hd⟩: ∃zs m,decF src=(zs,m):=⟨_,_,rfl⟩;have hzs:=z2o src;have hmle:=x8x src;rw [hd] at h hzs hmle;dsimp only at h hzs hmle;obtain ⟨cl,hcl⟩: ∃b,decide (m=src.length)=b:=⟨_,rfl⟩;rw [hcl] at h;obtain ⟨s,hs⟩: ∃s,y3k zs cl=s:=⟨_,rfl⟩;rw [hs] at h
 have hsl:s.length≤n+2:=by rw [←hs];unfold y3k;cases cl<;>simp<;>omega
 obtain ⟨k,hk⟩: ∃k,zs.length=k:=⟨_,rfl⟩
 have hkn:k≤n:=by omega
 have HD:=hide hd;have HS:=hide hs;have HK:=hide hk;have HH:=hide h
 have HLA:Hid (s.getLast?=some (-2)):=by show _=_;rw [←hs];exact x9m zs cl
 have hbool:((m:Int)==(n:Int))=cl:=by
  rw [←hcl,hn];by_cases e:m=n
  ·rw [Qa5 e];simp [e]
  ·rw [Qa4 e,Qa3];omega
 clear hd hs hk h hcl hzs;go_enter Tryz.func95,Tryz.ntmps95
 go_wp2_with fail
 refine (one.RefDecode_any A n c B src _ hr hB hn hnc hcm (by omega)).mono ?_;intro e w1 hp;unfold x81 at hp;rw [HD.out] at hp;obtain ⟨v1,rfl,hown1,hb1⟩:=hp;dsimp only at hown1;rw [HK.out] at hown1;obtain ⟨A1,c1,rfl,hc11,hc12⟩:=y0e hown1
 go_wp2_with fail
 refine (q4o A1 k c1 w1.heap.size zs cl _ (Rd.of_own hown1) (Qab _) HK.out (by omega)).mono ?_;rintro e w2 ⟨v2,rfl,hown2,hb2⟩;rw [HS.out] at hown2;obtain ⟨A2,c2,rfl,hc21,hc22⟩:=y0e hown2;have hB2:=hb1.trans (hb2.mono hb1.size);have hown1:=y22 hown1 hb2
 go_wp2_with fail
 refine (z63 A1 k c1 w2.heap.size zs _ (Rd.of_own hown1) (Qab _) HK.out (by omega)).mono ?_;rintro e w3 ⟨v3,rfl,hown3,hb3⟩;obtain ⟨A3,c3,rfl,hc31,hc32⟩:=y0e hown3;have hB3:=hB2.trans (hb3.mono hB2.size);have hown2:=y22 hown2 hb3;have rd2:=Rd.of_own hown2;have rd3:=Rd.of_own hown3;clear hown1 hown2 hown3 hb1 hb2 hb3 hB2
 go_wp2_with fail
 go_loopg [7,8] (n+3) (fun fu v iv wr=>∃(i:Nat) (done:List TokD),fu≤n+3∧iv= .int .i64 i∧Hid (∃l,y6a zs s (n+3) fu i=some l∧r=done++l)∧Hid (done.length+fu≤n+3)∧wr.ownsRow w3.heap.size 148 7 v done.length (done.flatMap tokC)∧Below w3.heap.size w3 wr)
 case atStart=>exact ⟨0,[],Qab _,rfl,⟨r,by have h:=HH.out;rw [hn] at h;exact h,rfl⟩,(by show 0+_≤_;omega),World.ownsRow_nil _ _ _ _,Below.refl _ _⟩
 case round=>
  obtain ⟨i,done,hfu,rfl,hto,hdl,hown,hb⟩:=hrel;obtain ⟨Av,cv,rfl,_,hcv⟩:=y0e hown;obtain ⟨l,hl,hrl⟩:=hto.out
  cases gk with
  |zero=>rw [y6a] at hl;cases hl
  |succ fu=>
   rw [y6a] at hl
   cases ht:y59 zs s (n+3) i with
   |none=>rw [ht] at hl;cases hl
   |some t=>
    rw [ht] at hl;dsimp only at hl;have hcall:=x9l HB A2 A3 s.length c2 (k+1) c3 w3.heap.size zs s wr (rd2.below' hb (Qab _)) hb.size rfl hc21 hc22 (by omega) HLA.out (rd3.below' hb (Qab _)) (by rw [HK.out]) (n+3) i t ht;have hdl':done.length+(fu+1)≤n+3:=hdl.out;have HL:=hide hl;have HRL:=hide hrl;have HTO:=hide (x59 ht);obtain ⟨kind,line,col,start,stop,text,value⟩:=t;clear ht hl hrl hto
    go_wp2_with fail
    refine hcall.mono ?_;rintro e w4 ⟨rfl,hb4⟩;clear hcall;have hown4:=y22 hown hb4;have hB4:=hb.trans (hb4.mono hb.size);have hbs4:=hB4.size
    go_upto_region 7 with (fail)
    have hblk5:TokAt (w4.alloc (.cells #[.int .i64 kind,.int .i64 line,.int .i64 col,.int .i64 start,.int .i64 stop,.string (str text),.string (str value)] 148)) w4.heap.size ⟨kind,line,col,start,stop,text,value⟩:=heap_alloc_new w4 _;have hown5:=hown4.alloc (.cells #[.int .i64 kind,.int .i64 line,.int .i64 col,.int .i64 start,.int .i64 stop,.string (str text),.string (str value)] 148);have hB5:=hB4.alloc hbs4 (.cells #[.int .i64 kind,.int .i64 line,.int .i64 col,.int .i64 start,.int .i64 stop,.string (str text),.string (str value)] 148)
    have hz5:(w4.alloc (.cells #[.int .i64 kind,.int .i64 line,.int .i64 col,.int .i64 start,.int .i64 stop,.string (str text),.string (str value)] 148)).heap.size=w4.heap.size+1:=by simp
    obtain ⟨g5,hg5⟩: ∃g,w4.heap.size=g:=⟨_,rfl⟩
    have hlt5: ∀g,(Value.slice Av done.length cv).ownBlock=some g→g<g5:=fun g h=>by rw [←hg5];exact (hown4.lt g h).2
    generalize w4.alloc (.cells #[.int .i64 kind,.int .i64 line,.int .i64 col,.int .i64 start,.int .i64 stop,.string (str text),.string (str value)] 148)=w5 at hblk5 hown5 hB5 hz5 ⊢;rw [hg5] at hblk5 hbs4 hz5 ⊢;have x0:=hblk5.cell 0;have x1:=hblk5.cell 1;have x2:=hblk5.cell 2;have x3:=hblk5.cell 3;have x4:=hblk5.cell 4;have x5:=hblk5.cell 5;have x6:=hblk5.cell 6
    have hrd5:Rd (w5.alloc (.cells #[.int .i64 kind,.int .i64 line,.int .i64 col,.int .i64 start,.int .i64 stop,.string (str text),.string (str value)] 148)) (g5+2) (some ⟨g5+1,0,none⟩) (tokC ⟨kind,line,col,start,stop,text,value⟩):=by
     have h:=y3f (B:=w5.heap.size+1) w5 (tokC ⟨kind,line,col,start,stop,text,value⟩) 148 (Qaw _);rw [hz5] at h;exact h
    clear hown hown4 hb4 hb hB4
    go_wp2_with (at_builtin;refine y0b _ rfl _ _ 137 rfl w3.heap.size 148 i0 (.agg #[.int .i64 0,.int .i64 0,.int .i64 0,.int .i64 0,.int .i64 0,.string ⟨#[]⟩,.string ⟨#[]⟩]) 7 72 Tryz.underlying137 hi0 hz0 hz1 hz2 rfl (by decide) _ _ _ rfl (hown5.alloc _) _ _ 1 1 (tokC ⟨kind,line,col,start,stop,text,value⟩) rfl (by rfl) hrd5 x1m (by simp only [maxLen];omega) (by omega) (by simp;omega) ?_)
    intro v6 w6 hown6 hg6 hat6;have hb6:=y0d (hB5.alloc (by omega) _) (hown5.alloc _) (Qab _) hg6 (by simp;omega)
    have hblk6:TokAt w6 g5 ⟨kind,line,col,start,stop,text,value⟩:=by
     show w6.heap[g5]?=_
     rw [hg6.block g5 (by simp;omega) (fun e=>by have:=hlt5 g5 e.symm;omega),Below.heap_alloc _ _ _ (by omega)];exact hblk5
    have y0:w6.cell? ⟨g5,0,none⟩=some (.int .i64 kind):=hblk6.cell 0;have y4:w6.cell? ⟨g5,4,none⟩=some (.int .i64 stop):=hblk6.cell 4
    have hown7:w6.ownsRow w3.heap.size 148 7 v6 (done++[(⟨kind,line,col,start,stop,text,value⟩:TokD)]).length ((done++[(⟨kind,line,col,start,stop,text,value⟩:TokD)]).flatMap tokC):=by
     rw [Qae,Qbu];simpa using hown6
    have hl:=HL.out;clear x0 x1 x2 x3 x4 x5 x6 hown6 hown5;by_cases k0:kind=0
    ·rw [if_pos (.inl k0)] at hl;injection hl with hl;subst k0
     have hr1:r=done++[⟨0,line,col,start,stop,text,value⟩]:=by rw [HRL.out,←hl]
     have HR1:=hide hr1;clear hl hr1
     go_wp2_with fail
     go_ret;rw [HR1.out];obtain ⟨A7,c7,rfl,h71,h72⟩:=y0e hown7;have hB6:=hB3.trans (hb6.mono hB3.size);exact ⟨_,rfl,y2k hown7 (z1d _) (fun b hb=>⟨Qah hB3.size (hown7.lt b hb).1,(hown7.lt b hb).2⟩),hB6⟩
    ·have b0:((kind:Int)==0)=false:=by rw [Qa3];exact k0
     by_cases k1:kind=1
     ·rw [if_pos (.inr k1)] at hl;injection hl with hl;subst k1
      have hr1:r=done++[⟨1,line,col,start,stop,text,value⟩]:=by rw [HRL.out,←hl]
      have HR1:=hide hr1;clear hl hr1
      go_wp2_with fail
      go_ret;rw [HR1.out];obtain ⟨A7,c7,rfl,h71,h72⟩:=y0e hown7;have hB6:=hB3.trans (hb6.mono hB3.size);exact ⟨_,rfl,y2k hown7 (z1d _) (fun b hb=>⟨Qah hB3.size (hown7.lt b hb).1,(hown7.lt b hb).2⟩),hB6⟩
     ·have b1:((kind:Int)==1)=false:=by rw [Qa3];exact k1
      rw [if_neg (by rintro (h|h);exact k0 h;exact k1 h)] at hl;by_cases hbig:3000000<stop
      ·rw [if_pos hbig] at hl;cases hl
      rw [if_neg hbig] at hl;obtain ⟨too,hto⟩:=HTO.out;subst hto;rw [Int.toNat_natCast] at hl
      cases hrest:y6a zs s (n+3) fu too with
      |none=>rw [hrest] at hl;cases hl
      |some l2=>
       rw [hrest] at hl;injection hl with hl;have hnx:Hid (∃l,y6a zs s (n+3) fu too=some l∧r=(done++[(⟨kind,line,col,start,too,text,value⟩:TokD)])++l):=⟨l2,hrest,by rw [HRL.out,←hl];simp⟩
       have hdn:Hid ((done++[(⟨kind,line,col,start,too,text,value⟩:TokD)]).length+fu≤n+3):=by show _≤_;rw [Qae,Qbj];omega
       clear hl hrest k0 k1
       go_wp2_with fail
       go_roundg fu
       case rel=>exact ⟨too,done++[⟨kind,line,col,start,too,text,value⟩],by omega,rfl,hnx,hdn,hown7,hb6⟩
       case measure=>omega
end Go.Proofs.YtbpgkkoeehopjaaGreat.lex
namespace Go.Proofs.YtbpgkkoeehopjaaGreat.rd
open Go.RowKit words enc tree gram lex
set_option maxRecDepth 100000
theorem z5p (w:World) (g i:Nat) (u:Value):w.grownBy (w.setCell ⟨g,i,none⟩ u) (some g):=y6v w ⟨g,i,none⟩ u
def isF (t:TokD) (x:Txt):Bool:=decide (t.text=x)&&(t.kind !=6)&&(t.kind !=7)
theorem q4q (kind:Int) (text x:Txt) (P:Bool→Prop) (h1:((str text).toList==(str x).toList)=false→P false) (h2:((str text).toList==(str x).toList)=true→((kind:Int) !=6)=false→P false)
  (h3:((str text).toList==(str x).toList)=true→((kind:Int) !=6)=true→((kind:Int) !=7)=false→P false) (h4:((str text).toList==(str x).toList)=true→((kind:Int) !=6)=true→((kind:Int) !=7)=true→P true):
  P (decide (text=x)&&(kind !=6)&&(kind !=7)):=by
 rw [y5e] at h1 h2 h3 h4
 cases a:decide (text=x) with
 |false=>rw [Bool.false_and,Bool.false_and];exact h1 a
 |true=>
  cases b:(kind !=6) with
  |false=>rw [Bool.true_and,Bool.false_and];exact h2 a b
  |true=>
   cases c:(kind !=7) with
   |false=>exact h3 a b c
   |true=>exact h4 a b c
def y0g (n k:Nat):Nat:=if k+1<n then k+1 else k
theorem y42 {w w':World} (hb:Below w.heap.size w w') (row:Option Nat):w.grownBy w' row:=⟨hb.os,hb.tape,hb.output,hb.size,fun i hi _=>hb.block i hi⟩
def setL (w:World) (g:Nat):Nat→List Value→World
 |_,[]=>w
 |i,u::us=>setL (w.setCell ⟨g,i,none⟩ u) g (i+1) us
theorem z5q {g:Nat}: ∀{us:List Value} {w:World} {i:Nat},w.grownBy (setL w g i us) (some g)
 |[],w,i=>y42 (Below.refl _ _) _
 |u::us,w,i=>(z5p w g i u).trans (z5q (us:=us))
theorem x1n {g:Nat} {t:TypeId}: ∀{us:List Value} {w:World} {i:Nat} {pre old post:List Value},w.heap[g]?=some (.cells (pre++old++post).toArray t (0,0))→pre.length=i→old.length=us.length→
  (setL w g i us).heap[g]?=some (.cells (pre++us++post).toArray t (0,0))
 |[],w,i,pre,old,post,h,hp,ho=>by
  obtain rfl:old=[]:=Qa0 ho;exact h
 |u::us,w,i,pre,old,post,h,hp,ho=>by
  cases old with
  |nil=>simp at ho
  |cons o old=>
   have h2:=heap_setCell_same w g i _ _ u h
   have e:((pre++(o::old)++post).toArray.setIfInBounds i u)=((pre++[u])++old++post).toArray:=by
    subst hp;simp
   rw [e] at h2;have h3:=x1n (us:=us) (i:=i+1) (pre:=pre++[u]) (old:=old) (post:=post) h2 (by simp [hp]) (by simpa using ho);rw [setL];simpa using h3
structure NamedD where
 name:Txt
 line:Int
 col:Int
def namedC (d:NamedD):List Value:=[.string (str d.name),.int .i64 d.line,.int .i64 d.col]
abbrev namedV (d:NamedD):Value:=.agg #[.string (str d.name),.int .i64 d.line,.int .i64 d.col]
def y1c (t:TokD):NamedD:=⟨t.text,t.line,t.col⟩
def kindsT:Txt:=[115,99,104,101,109,97,32,115,99,97,108,97,114,32,116,121,112,101,32,105,110,116,101,114,102,97,99,101,32,117,110,105,111,110,32,101,110,117,109,32,105,110,112,117,116,32,100,105,114,101,99,116,105,118,101]
def z5r (word:Txt):List Txt→Nat→Nat
 |[],_=>0
 |x::r,i=>if x=word then i+1 else z5r word r (i+1)
def y43 (word:Txt):Nat:=z5r word (y3w kindsT) 0
theorem named_info:(Tryz.prog.info? 34).map (fun i=>(i.zero,i.size,i.bytes))=some (some (.slice none 0 0),1,24):=by kernel_rfl
def y3y (toks:List TokD) (mark:Txt):Nat→Nat→Option (List NamedD×Nat)
 |0,_=>none
 |f+1,k=>match toks[k]? with
  |none=>none
  |some t=>match toks[y0g toks.length k]? with
   |none=>none
   |some t1=>if isF t1 mark=true then (match y3y toks mark f (y0g toks.length k+1) with
    |none=>none
    |some r=>some (y1c t::r.1,r.2)) else some ([y1c t],y0g toks.length k)
def y35 (toks:List TokD) (mark:Txt) (f k:Nat):Option (List NamedD×Nat):=match toks[k]? with
 |none=>none
 |some t=>y3y toks mark f (if isF t mark=true then k+1 else k)
theorem z0h (l:Txt) (b:UInt8):str l++⟨#[b]⟩=str (l++[b]):=by
 apply ByteArray.ext;simp [str]
def z2j (toks:List TokD) (r:Txt×Txt) (k:Nat):Option ((Txt×Txt)×Nat):=if r.2.length≤2000 then (match toks[k]? with
 |none=>none
 |some t=>if isF t [33]=true then some ((r.1,r.2++[33]),k+1) else some (r,k)) else none
def typF (toks:List TokD):Nat→Nat→Option ((Txt×Txt)×Nat)
 |0,_=>none
 |f+1,k=>match toks[k]? with
  |none=>none
  |some t=>if isF t [91]=true then (match typF toks f (k+1) with
   |none=>none
   |some r=>match toks[r.2]? with
    |none=>none
    |some t1=>if r.1.2.length≤1000 then z2j toks (r.1.1,r.1.2++[93]) (if isF t1 [93]=true then r.2+1 else r.2) else none) else z2j toks (t.text,[]) (y0g toks.length k)
abbrev typV (r:Txt×Txt):Value:=.agg #[.string (str r.1),.string (str r.2)]
end Go.Proofs.YtbpgkkoeehopjaaGreat.rd
namespace Go.Proofs.YtbpgkkoeehopjaaGreat.dat
open Go.RowKit words tree gram rd
mutual
inductive LitD where
 |mk (kind:Int) (text:Txt) (block:Bool) (items:List LitD) (fields:List PairD) (line col:Int)
inductive PairD where
 |mk (name:Txt) (value:LitD) (line col:Int)
end
abbrev str' (l:Txt):Leaf:=.lit (.string (str l))
abbrev int' (i:Int):Leaf:=.lit (.int .i64 i)
abbrev z84 (b:Bool):Leaf:=.lit (.bool b)
mutual
def litL:LitD→List Leaf
 | .mk kind text block items fields line col=>[int' kind,str' text,z84 block,.list items.length (litsL items),.list fields.length (pairsL fields),int' line,int' col]
def litsL:List LitD→List Leaf
 |[]=>[]
 |d::r=>litL d++litsL r
def pairL:PairD→List Leaf
 | .mk name value line col=>str' name::(litL value++[int' line,int' col])
def pairsL:List PairD→List Leaf
 |[]=>[]
 |d::r=>pairL d++pairsL r
end
theorem y6w (d:LitD):(litL d).length=7:=by cases d;rfl
theorem y4k (d:PairD):(pairL d).length=10:=by cases d;simp [pairL,y6w]
theorem y8g: ∀l,litsL l=l.flatMap litL
 |[]=>rfl
 |d::r=>by rw [litsL,y8g r,List.flatMap_cons]
theorem y4l: ∀l,pairsL l=l.flatMap pairL
 |[]=>rfl
 |d::r=>by rw [pairsL,y4l r,List.flatMap_cons]
theorem z85 (a b:List LitD):litsL (a++b)=litsL a++litsL b:=by rw [y8g,y8g,y8g,Qbu]
theorem y8h (a b:List PairD):pairsL (a++b)=pairsL a++pairsL b:=by rw [y4l,y4l,y4l,Qbu]
def litZ:LitD:=.mk 0 [] false [] [] 0 0
structure NoteD where
 has:Bool
 block:Bool
 text:Txt
abbrev y7n:NoteD:=⟨false,false,[]⟩
def q4r (d:NoteD):List Leaf:=[z84 d.has,z84 d.block,str' d.text]
def y87 (d:NamedD):List Leaf:=[str' d.name,int' d.line,int' d.col]
structure RootD where
 op:Int
 type:Txt
 line:Int
 col:Int
def z2k (d:RootD):List Leaf:=[int' d.op,str' d.type,int' d.line,int' d.col]
structure DirD where
 name:Txt
 args:List PairD
 line:Int
 col:Int
def dirL (d:DirD):List Leaf:=[str' d.name,.list d.args.length (pairsL d.args),int' d.line,int' d.col]
def y24 (l:List DirD):List Leaf:=l.flatMap dirL
structure InputD where
 note:NoteD
 name:Txt
 ty:Txt×Txt
 has:Bool
 lit:LitD
 dirs:List DirD
 line:Int
 col:Int
def y4m (d:InputD):List Leaf:=q4r d.note++([str' d.name,str' d.ty.1,str' d.ty.2,z84 d.has]++(litL d.lit++[.list d.dirs.length (y24 d.dirs),int' d.line,int' d.col]))
def y0o (l:List InputD):List Leaf:=l.flatMap y4m
theorem y8i (d:InputD):(y4m d).length=17:=by simp [y4m,q4r,y6w]
structure FieldD where
 note:NoteD
 name:Txt
 args:List InputD
 ty:Txt×Txt
 dirs:List DirD
 line:Int
 col:Int
def y3z (d:FieldD):List Leaf:=q4r d.note++[str' d.name,.list d.args.length (y0o d.args),str' d.ty.1,str' d.ty.2,.list d.dirs.length (y24 d.dirs),int' d.line,int' d.col]
def y0u (l:List FieldD):List Leaf:=l.flatMap y3z
structure ValueD where
 note:NoteD
 name:Txt
 dirs:List DirD
 line:Int
 col:Int
def y7z (d:ValueD):List Leaf:=q4r d.note++[str' d.name,.list d.dirs.length (y24 d.dirs),int' d.line,int' d.col]
def y12 (l:List ValueD):List Leaf:=l.flatMap y7z
def y0v (l:List NamedD):List Leaf:=l.flatMap y87
def y30 (l:List RootD):List Leaf:=l.flatMap z2k
structure DefD where
 kind:Int
 ext:Bool
 note:NoteD
 name:Txt
 ifaces:List NamedD
 dirs:List DirD
 fields:List FieldD
 inputs:List InputD
 members:List NamedD
 values:List ValueD
 roots:List RootD
 rep:Bool
 places:List NamedD
 line:Int
 col:Int
def defL (d:DefD):List Leaf:=[int' d.kind,z84 d.ext,z84 d.note.has,z84 d.note.block,str' d.note.text,str' d.name,.list d.ifaces.length (y0v d.ifaces),.list d.dirs.length (y24 d.dirs),.list d.fields.length (y0u d.fields),.list d.inputs.length (y0o d.inputs),
 .list d.members.length (y0v d.members),.list d.values.length (y12 d.values),.list d.roots.length (y30 d.roots),z84 d.rep,.list d.places.length (y0v d.places),int' d.line,int' d.col]
def y0r (l:List DefD):List Leaf:=l.flatMap defL
theorem y1b (d:DefD):(defL d).length=17:=rfl
def In (a b:Nat):Nat→Prop:=fun x=>a≤x∧x<b
structure Dat (w:World) (a T:Nat) (t:Leaf) (v:Value):Prop where
 reads:Reads w (In a T) t v
 le:T≤w.heap.size
structure DatL (w:World) (a T:Nat) (ts:List Leaf) (vs:List Value):Prop where
 reads:ReadsL w (In a T) ts vs
 le:T≤w.heap.size
section
variable {w w' : World} {a T : Nat} {t : Leaf} {v : Value} {ts : List Leaf} {vs : List Value}
theorem Dat.other {row:Option Nat} (h:Dat w a T t v) (hg:w.grownBy w' row) (hrow: ∀b,row=some b→b<a∨T≤b):Dat w' a T t v:=
 ⟨h.reads.keep (fun _ h=>h) (fun p hp=>World.cell?_of_block (hg.block p.block (Qap hp.2 h.le) (fun e=>by have:=hrow _ e.symm;have:=hp.1;have:=hp.2;omega))),Qah h.le hg.size⟩
theorem DatL.other {row:Option Nat} (h:DatL w a T ts vs) (hg:w.grownBy w' row) (hrow: ∀b,row=some b→b<a∨T≤b):DatL w' a T ts vs:=
 ⟨ReadsL.keep (fun _ h=>h) (fun p hp=>World.cell?_of_block (hg.block p.block (Qap hp.2 h.le) (fun e=>by have:=hrow _ e.symm;have:=hp.1;have:=hp.2;omega))) _ _ h.reads,Qah h.le hg.size⟩
theorem Dat.below (h:Dat w a T t v) (hb:Below w.heap.size w w'):Dat w' a T t v:=h.other (y42 hb none) (fun b e=>by cases e)
theorem DatL.below (h:DatL w a T ts vs) (hb:Below w.heap.size w w'):DatL w' a T ts vs:=h.other (y42 hb none) (fun b e=>by cases e)
theorem Dat.lift {a' T':Nat} (h:Dat w a T t v) (ha:a'≤a) (hT:T≤T') (hw:T'≤w.heap.size):Dat w a' T' t v:=
 ⟨h.reads.keep (fun b hb=>⟨Qah ha hb.1,Qap hb.2 hT⟩) (fun _ _=>rfl),hw⟩
theorem DatL.lift {a' T':Nat} (h:DatL w a T ts vs) (ha:a'≤a) (hT:T≤T') (hw:T'≤w.heap.size):DatL w a' T' ts vs:=
 ⟨ReadsL.keep (fun b hb=>⟨Qah ha hb.1,Qap hb.2 hT⟩) (fun _ _=>rfl) _ _ h.reads,hw⟩
theorem DatL.nil (h:T≤w.heap.size):DatL w a T [] []:=⟨ReadsL.nil,h⟩
theorem DatL.cons (h:Dat w a T t v) (h':DatL w a T ts vs):DatL w a T (t::ts) (v::vs):=⟨ReadsL.cons h.reads h'.reads,h.le⟩
theorem DatL.lit {u:Value} (h':DatL w a T ts vs) (h:u.oneCell'=true:=by rfl):DatL w a T (.lit u::ts) (u::vs):=⟨ReadsL.cons (y1z h) h'.reads,h'.le⟩
theorem DatL.app {ts':List Leaf} {vs':List Value} (h:DatL w a T ts vs) (h':DatL w a T ts' vs'):DatL w a T (ts++ts') (vs++vs'):=⟨h.reads.app h'.reads,h.le⟩
theorem DatL.one (h:DatL w a T ts vs): ∀u∈vs,u.oneCell'=true:=h.reads.one
theorem DatL.len (h:DatL w a T ts vs):vs.length=ts.length:=h.reads.len
theorem DatL.nil_inv (h:DatL w a T [] vs):vs=[]:=by have:=h.reads;simp only [ReadsL] at this;exact this
theorem DatL.cons_inv (h:DatL w a T (t::ts) vs): ∃v r,vs=v::r∧Dat w a T t v∧DatL w a T ts r:=by
 have:=h.reads;simp only [ReadsL] at this;obtain ⟨v,r,e,h1,h2⟩:=this;exact ⟨v,r,e,⟨h1,h.le⟩,⟨h2,h.le⟩⟩
theorem DatL.lit_inv {u:Value} (h:DatL w a T (.lit u::ts) vs): ∃r,vs=u::r∧DatL w a T ts r:=by
 obtain ⟨v,r,e,h1,h2⟩:=h.cons_inv;have:=y92 h1.reads;subst this;exact ⟨r,e,h2⟩
theorem DatL.list_inv {n:Nat} {cs:List Leaf} (h:DatL w a T (.list n cs::ts) vs): ∃A c r,vs= .slice A n c::r∧Dat w a T (.list n cs) (.slice A n c)∧DatL w a T ts r:=by
 obtain ⟨v,r,e,h1,h2⟩:=h.cons_inv;obtain ⟨A,c,vs',rfl,_⟩:=y0k h1.reads;exact ⟨A,c,r,e,h1,h2⟩
theorem Dat.nil (h:T≤w.heap.size):Dat w a T (.list 0 []) (.slice none 0 0):=⟨y19 (Qab _) (Qak _) ReadsL.nil (fun h=>absurd rfl h),h⟩
theorem y0l {kind:Int} {text:Txt} {block:Bool} {items:List LitD} {fields:List PairD} {line col:Int} (h:DatL w a T (litL (.mk kind text block items fields line col)) vs):
  ∃Ai ci Af cf,vs=[.int .i64 kind,.string (str text),.bool block,.slice Ai items.length ci,.slice Af fields.length cf,.int .i64 line,.int .i64 col]∧Dat w a T (.list items.length (litsL items)) (.slice Ai items.length ci)∧Dat w a T (.list fields.length (pairsL fields)) (.slice Af fields.length cf):=by
 obtain ⟨r1,rfl,h1⟩:=h.lit_inv;obtain ⟨r2,rfl,h2⟩:=h1.lit_inv;obtain ⟨r3,rfl,h3⟩:=h2.lit_inv;obtain ⟨Ai,ci,r4,rfl,hi,h4⟩:=h3.list_inv;obtain ⟨Af,cf,r5,rfl,hf,h5⟩:=h4.list_inv;obtain ⟨r6,rfl,h6⟩:=h5.lit_inv;obtain ⟨r7,rfl,h7⟩:=h6.lit_inv;rw [h7.nil_inv];exact ⟨Ai,ci,Af,cf,rfl,hi,hf⟩
theorem y3o {kind:Int} {text:Txt} {block:Bool} {items:List LitD} {fields:List PairD} {line col:Int} {vi vf:Value} (hi:Dat w a T (.list items.length (litsL items)) vi) (hf:Dat w a T (.list fields.length (pairsL fields)) vf):
  DatL w a T (litL (.mk kind text block items fields line col)) [.int .i64 kind,.string (str text),.bool block,vi,vf,.int .i64 line,.int .i64 col]:=
 .lit (.lit (.lit (.cons hi (.cons hf (.lit (.lit (.nil hi.le)))))))
end
open enc lex dec
set_option maxRecDepth 100000
theorem y2l {a b T:Nat} (h:b<a∨T≤b): ¬In a T b:=fun hb=>by have:=hb.1;have:=hb.2;omega
theorem _root_.Go.Proofs.YtbpgkkoeehopjaaGreat.tree.RowT.dat {w:World} {B b0 k n:Nat} {e:TypeId} {v:Value} {cs:List Leaf} {vs:List Value} (h:RowT w (In B w.heap.size) b0 e k v n cs vs) (hB:B≤b0):Dat w B w.heap.size (.list n cs) v:=by
 refine ⟨y2k h.own (ReadsL.keep (fun b hb=>hb.1) (fun _ _=>rfl) _ _ h.reads) (fun g hg=>⟨?_,?_⟩),Qab _⟩
 ·have:=(h.own.lt g hg).1;omega
 ·exact (h.own.lt g hg).2
def y6b (toks:List TokD) (k:Nat):Option (NoteD×Nat):=toks[k]?.map fun t=>if t.kind=6∨t.kind=7 then (⟨true,t.kind==7,t.value⟩,k+1) else (y7n,k)
abbrev noteV (d:NoteD):Value:=.agg #[.bool d.has,.bool d.block,.string (str d.text)]
def z65 (t:TokD):Int×Txt:=
 if t.text=[116,114,117,101] then (5,t.text)
 else if t.text=[102,97,108,115,101] then (5,t.text)
 else if t.text=[110,117,108,108] then (6,[])
 else (7,t.text)
def y4n (toks:List TokD) (g:Nat→Option (LitD×Nat)):Nat→Nat→Option (List LitD×Nat)
 |0,_=>none
 |f+1,k=>toks[k]?.bind fun t=>if isF t [93]=true then some ([],k+1) else (g k).bind fun q=>(y4n toks g f q.2).bind fun r=>some (q.1::r.1,r.2)
def y1o (toks:List TokD) (cl:Txt) (g:Nat→Option (LitD×Nat)):Nat→Nat→Option (List PairD×Nat)
 |0,_=>none
 |f+1,k=>toks[k]?.bind fun t=>if isF t cl=true then some ([],k+1) else (toks[y0g toks.length k]?).bind fun t1=>(g (if isF t1 [58]=true then y0g toks.length k+1 else y0g toks.length k)).bind fun q=>(y1o toks cl g f q.2).bind fun r=>some (.mk t.text q.1 t.line t.col::r.1,r.2)
def litF (toks:List TokD) (L:Nat):Nat→Nat→Option (LitD×Nat)
 |0,_=>none
 |f+1,k=>toks[k]?.bind fun t=>
  if t.kind=3 then some (.mk (z65 t).1 (z65 t).2 false [] [] t.line t.col,y0g toks.length k)
  else if t.kind=4 then some (.mk 2 t.text false [] [] t.line t.col,y0g toks.length k)
  else if t.kind=5 then some (.mk 3 t.text false [] [] t.line t.col,y0g toks.length k)
  else if t.kind=6∨t.kind=7 then some (.mk 4 t.value (t.kind==7) [] [] t.line t.col,y0g toks.length k)
  else if t.text=[91] then (y4n toks (litF toks L f) L (y0g toks.length k)).bind fun r=>some (.mk 8 [] false r.1 [] t.line t.col,r.2)
  else (y1o toks [125] (litF toks L f) L (y0g toks.length k)).bind fun r=>some (.mk 9 [] false [] r.1 t.line t.col,r.2)
theorem x3t:(Tryz.prog.info? 181).map (fun i=>(i.zero,i.size,i.bytes))=some (some (.agg #[.string ⟨#[]⟩,.slice none 0 0,.int .i64 0,.int .i64 0]),4,56):=by kernel_rfl
def z1e (toks:List TokD) (L f k:Nat):Option (List PairD×Nat):=toks[k]?.bind fun t=>if isF t [40]=true then y1o toks [41] (litF toks L f) L (k+1) else some ([],k)
def y3p (toks:List TokD) (L f:Nat):Nat→Nat→Option (List DirD×Nat)
 |0,_=>none
 |fu+1,k=>toks[k]?.bind fun t=>if isF t [64]=true then
   (toks[y0g toks.length k]?).bind fun t1=>(z1e toks L f (y0g toks.length (y0g toks.length k))).bind fun q=>(y3p toks L f fu q.2).bind fun r=>some (⟨t1.text,q.1,t.line,t.col⟩::r.1,r.2)
  else some ([],k)
def y2c (toks:List TokD) (L f k:Nat):Option (List DirD×Nat):=y3p toks L f L k
theorem y70 (a b:List DirD):y24 (a++b)=y24 a++y24 b:=by simp [y24]
theorem x6a:(Tryz.prog.info? 123).map (fun i=>(i.zero,i.size,i.bytes))=some (some (.agg #[.bool false,.bool false,.string ⟨#[]⟩,.string ⟨#[]⟩,.string ⟨#[]⟩,.string ⟨#[]⟩,.bool false,.int .i64 0,.string ⟨#[]⟩,.bool false,.slice none 0 0,.slice none 0 0,.int .i64 0,.int .i64 0,.slice none 0 0,.int .i64 0,.int .i64 0]),17,216):=by kernel_rfl
def y5q (toks:List TokD) (L f k:Nat):Option (InputD×Nat):=
 (y6b toks k).bind fun p=>(toks[p.2]?).bind fun t0=>(toks[y0g toks.length p.2]?).bind fun t1=>
 (typF toks f (if isF t1 [58]=true then y0g toks.length p.2+1 else y0g toks.length p.2)).bind fun r=>(toks[r.2]?).bind fun t3=>
 (if isF t3 [61]=true then litF toks L f (r.2+1) else some (litZ,r.2)).bind fun q=>(y2c toks L f q.2).bind fun s=>
 some (⟨p.1,t0.text,r.1,isF t3 [61],q.1,s.1,t0.line,t0.col⟩,s.2)
def y1v (toks:List TokD) (too:Txt) (L f:Nat):Nat→Nat→Option (List InputD×Nat)
 |0,_=>none
 |fu+1,k=>toks[k]?.bind fun t=>if isF t too=true then some ([],k+1) else (y5q toks L f k).bind fun q=>(y1v toks too L f fu q.2).bind fun r=>some (q.1::r.1,r.2)
def y1x (toks:List TokD) (fr too:Txt) (L f k:Nat):Option (List InputD×Nat):=toks[k]?.bind fun t=>if isF t fr=true then y1v toks too L f L (k+1) else some ([],k)
theorem y6x (a b:List InputD):y0o (a++b)=y0o a++y0o b:=by simp [y0o]
theorem x1o {toks:List TokD} {L f k:Nat} {d:InputD} {k':Nat} (h:y5q toks L f k=some (d,k')): ∃p t0 t1 ty k3 t3 q,y6b toks k=some p∧toks[p.2]?=some t0∧toks[y0g toks.length p.2]?=some t1∧
  typF toks f (if isF t1 [58]=true then y0g toks.length p.2+1 else y0g toks.length p.2)=some (ty,k3)∧toks[k3]?=some t3∧
  (if isF t3 [61]=true then litF toks L f (k3+1) else some (litZ,k3))=some q∧y2c toks L f q.2=some (d.dirs,k')∧
  d=⟨p.1,t0.text,ty,isF t3 [61],q.1,d.dirs,t0.line,t0.col⟩:=by
 unfold y5q at h;simp only [Qag] at h;obtain ⟨p,hp,t0,h0,t1,h1,r,hr,t3,h3,q,hq,s,hs,h6⟩:=h;injection h6 with h6;injection h6 with e1 e2;subst e1 e2;exact ⟨p,t0,t1,r.1,r.2,t3,q,hp,h0,h1,hr,h3,hq,hs,rfl⟩
theorem z1f {w:World} {a T:Nat} {nh nb:Bool} {nt dn tn tw:Txt} {dh:Bool} {lit:LitD} {dirs:List DirD} {dl dc:Int} {ls:List Value} {dv:Value} (h:DatL w a T (litL lit) ls) (hd:Dat w a T (.list dirs.length (y24 dirs)) dv):
  DatL w a T (y4m ⟨⟨nh,nb,nt⟩,dn,(tn,tw),dh,lit,dirs,dl,dc⟩) ([.bool nh,.bool nb,.string (str nt),.string (str dn),.string (str tn),.string (str tw),.bool dh]++(ls++[dv,.int .i64 dl,.int .i64 dc])):=
 .lit (.lit (.lit (.lit (.lit (.lit (.lit (h.app (.cons hd (.lit (.lit (.nil h.le)))))))))))
theorem x6b:(Tryz.prog.info? 52).map (fun i=>(i.zero,i.size,i.bytes))=some (some (.agg #[.bool false,.bool false,.string ⟨#[]⟩,.string ⟨#[]⟩,.slice none 0 0,.string ⟨#[]⟩,.string ⟨#[]⟩,.slice none 0 0,.int .i64 0,.int .i64 0]),10,136):=by kernel_rfl
theorem z5s:(Tryz.prog.info? 133).map (fun i=>(i.zero,i.size,i.bytes))=some (some (.agg #[.bool false,.bool false,.string ⟨#[]⟩,.string ⟨#[]⟩,.slice none 0 0,.int .i64 0,.int .i64 0]),7,80):=by kernel_rfl
theorem z3o:(Tryz.prog.info? 100).map (fun i=>(i.zero,i.size,i.bytes))=some (some (.agg #[.int .i64 0,.string ⟨#[]⟩,.int .i64 0,.int .i64 0]),4,40):=by kernel_rfl
abbrev defA (u0 u1 u2 u3 u4 u5 u6 u7 u8 u9 u10 u11 u12 u13 u14 u15 u16:Value):Array Value:= #[u0,u1,u2,u3,u4,u5,u6,u7,u8,u9,u10,u11,u12,u13,u14,u15,u16]
def y2y (toks:List TokD) (L f k:Nat):Option (FieldD×Nat):=
 (y6b toks k).bind fun p=>(toks[p.2]?).bind fun t0=>(y1x toks [40] [41] L f (y0g toks.length p.2)).bind fun r=>(toks[r.2]?).bind fun t2=>
 (typF toks f (if isF t2 [58]=true then r.2+1 else r.2)).bind fun q=>(y2c toks L f q.2).bind fun s=>some (⟨p.1,t0.text,r.1,q.1,s.1,t0.line,t0.col⟩,s.2)
def y3q (toks:List TokD) (L f k:Nat):Option (ValueD×Nat):=
 (y6b toks k).bind fun p=>(toks[p.2]?).bind fun t0=>(y2c toks L f (y0g toks.length p.2)).bind fun s=>some (⟨p.1,t0.text,s.1,t0.line,t0.col⟩,s.2)
def opF (t:Txt):Int:=if t=[115,117,98,115,99,114,105,112,116,105,111,110] then 3 else if t=[109,117,116,97,116,105,111,110] then 2 else 1
def y6y (toks:List TokD) (k:Nat):Option (RootD×Nat):=
 (y6b toks k).bind fun p=>(toks[p.2]?).bind fun t0=>(toks[y0g toks.length p.2]?).bind fun t1=>(toks[if isF t1 [58]=true then y0g toks.length p.2+1 else y0g toks.length p.2]?).bind fun t2=>
 some (⟨opF t0.text,t2.text,t0.line,t0.col⟩,y0g toks.length (if isF t1 [58]=true then y0g toks.length p.2+1 else y0g toks.length p.2))
theorem y9j (a b:List FieldD):y0u (a++b)=y0u a++y0u b:=by simp [y0u]
theorem y6z (a b:List ValueD):y12 (a++b)=y12 a++y12 b:=by simp [y12]
theorem y49 (a b:List RootD):y30 (a++b)=y30 a++y30 b:=by simp [y30]
theorem z5t {w:World} {a T:Nat} {nh nb:Bool} {nt dn tn tw:Txt} {args:List InputD} {dirs:List DirD} {dl dc:Int} {av dv:Value} (h:Dat w a T (.list args.length (y0o args)) av) (hd:Dat w a T (.list dirs.length (y24 dirs)) dv):
  DatL w a T (y3z ⟨⟨nh,nb,nt⟩,dn,args,(tn,tw),dirs,dl,dc⟩) [.bool nh,.bool nb,.string (str nt),.string (str dn),av,.string (str tn),.string (str tw),dv,.int .i64 dl,.int .i64 dc]:=
 .lit (.lit (.lit (.lit (.cons h (.lit (.lit (.cons hd (.lit (.lit (.nil h.le))))))))))
theorem z5u {w:World} {a T:Nat} {nh nb:Bool} {nt dn:Txt} {dirs:List DirD} {dl dc:Int} {dv:Value} (hd:Dat w a T (.list dirs.length (y24 dirs)) dv):
  DatL w a T (y7z ⟨⟨nh,nb,nt⟩,dn,dirs,dl,dc⟩) [.bool nh,.bool nb,.string (str nt),.string (str dn),dv,.int .i64 dl,.int .i64 dc]:=
 .lit (.lit (.lit (.lit (.cons hd (.lit (.lit (.nil hd.le)))))))
theorem z3p {w:World} {a T:Nat} {op:Int} {ty:Txt} {dl dc:Int} (h:T≤w.heap.size):DatL w a T (z2k ⟨op,ty,dl,dc⟩) [.int .i64 op,.string (str ty),.int .i64 dl,.int .i64 dc]:=
 .lit (.lit (.lit (.lit (.nil h))))
def y2p {α:Type} (toks:List TokD) (e:Nat→Option (α×Nat)):Nat→Nat→Option (List α×Nat)
 |0,_=>none
 |fu+1,k=>toks[k]?.bind fun t=>if isF t [125]=true then some ([],k+1) else (e k).bind fun q=>(y2p toks e fu q.2).bind fun r=>some (q.1::r.1,r.2)
def y15 {α:Type} (toks:List TokD) (e:Nat→Option (α×Nat)) (L k:Nat):Option (List α×Nat):=toks[k]?.bind fun t=>if isF t [123]=true then y2p toks e L (k+1) else some ([],k)
theorem y60:(Tryz.prog.info? 43).map (·.size)=some 17:=by kernel_rfl
theorem y61 {g:Nat}: ∀{us:List Value} {w:World} {i:Nat},w.setCells g i us=setL w g i us
 |[],_,_=>rfl
 |_::us,_,_=>y61 (us:=us)
theorem y88 {w:World} {g i:Nat} {us:List Value}:w.grownBy (w.setCells g i us) (some g):=by rw [y61];exact z5q
theorem y18 {w:World} {a T:Nat} {kind:Int} {ext nh nb rep:Bool} {nt name:Txt} {ifaces:List NamedD} {dirs:List DirD} {fields:List FieldD} {inputs:List InputD} {members:List NamedD} {values:List ValueD} {roots:List RootD} {places:List NamedD} {l c:Int}
  {iv dv fv nv mv vv rv pv:Value} (h1:Dat w a T (.list ifaces.length (y0v ifaces)) iv) (h2:Dat w a T (.list dirs.length (y24 dirs)) dv) (h3:Dat w a T (.list fields.length (y0u fields)) fv) (h4:Dat w a T (.list inputs.length (y0o inputs)) nv)
  (h5:Dat w a T (.list members.length (y0v members)) mv) (h6:Dat w a T (.list values.length (y12 values)) vv) (h7:Dat w a T (.list roots.length (y30 roots)) rv) (h8:Dat w a T (.list places.length (y0v places)) pv):
  DatL w a T (defL ⟨kind,ext,⟨nh,nb,nt⟩,name,ifaces,dirs,fields,inputs,members,values,roots,rep,places,l,c⟩) (defA (.int .i64 kind) (.bool ext) (.bool nh) (.bool nb) (.string (str nt)) (.string (str name)) iv dv fv nv mv vv rv (.bool rep) pv (.int .i64 l) (.int .i64 c)).toList:=
 .lit (.lit (.lit (.lit (.lit (.lit (.cons h1 (.cons h2 (.cons h3 (.cons h4 (.cons h5 (.cons h6 (.cons h7 (.lit (.cons h8 (.lit (.lit (.nil h1.le)))))))))))))))))
def y36 (toks:List TokD) (k:Nat):Option (NoteD×Bool×TokD×Nat):=
 (y6b toks k).bind fun p=>(toks[p.2]?).bind fun t0=>(toks[if isF t0 [101,120,116,101,110,100]=true then p.2+1 else p.2]?).bind fun t1=>
 some (p.1,isF t0 [101,120,116,101,110,100],t1,y0g toks.length (if isF t0 [101,120,116,101,110,100]=true then p.2+1 else p.2))
def optF (toks:List TokD) (mark sep:Txt) (L k:Nat):Option (List NamedD×Nat):=(toks[k]?).bind fun t=>if isF t mark=true then y35 toks sep L (k+1) else some ([],k)
def dirF (toks:List TokD) (L f:Nat) (h:NoteD×Bool×TokD×Nat):Option (DefD×Nat):=
 (toks[h.2.2.2]?).bind fun t2=>(toks[if isF t2 [64]=true then h.2.2.2+1 else h.2.2.2]?).bind fun t3=>
 (y1x toks [40] [41] L f (y0g toks.length (if isF t2 [64]=true then h.2.2.2+1 else h.2.2.2))).bind fun i=>(toks[i.2]?).bind fun t5=>
 (toks[if isF t5 [114,101,112,101,97,116,97,98,108,101]=true then i.2+1 else i.2]?).bind fun t6=>
 (y35 toks [124] L (if isF t6 [111,110]=true then (if isF t5 [114,101,112,101,97,116,97,98,108,101]=true then i.2+1 else i.2)+1 else (if isF t5 [114,101,112,101,97,116,97,98,108,101]=true then i.2+1 else i.2))).bind fun p=>
 some (⟨8,h.2.1,h.1,t3.text,[],[],[],i.1,[],[],[],isF t5 [114,101,112,101,97,116,97,98,108,101],p.1,t3.line,t3.col⟩,p.2)
def y3c (toks:List TokD) (L f:Nat) (h:NoteD×Bool×TokD×Nat):Option (DefD×Nat):=
 (y2c toks L f h.2.2.2).bind fun d=>(y15 toks (y6y toks) L d.2).bind fun r=>some (⟨1,h.2.1,h.1,[],[],d.1,[],[],[],[],r.1,false,[],h.2.2.1.line,h.2.2.1.col⟩,r.2)
def y3d (toks:List TokD) (L f:Nat) (h:NoteD×Bool×TokD×Nat):Option (DefD×Nat):=
 (toks[h.2.2.2]?).bind fun t=>(y2c toks L f (y0g toks.length h.2.2.2)).bind fun d=>some (⟨2,h.2.1,h.1,t.text,[],d.1,[],[],[],[],[],false,[],t.line,t.col⟩,d.2)
def y2d (kind:Int) (toks:List TokD) (L f:Nat) (h:NoteD×Bool×TokD×Nat):Option (DefD×Nat):=
 (toks[h.2.2.2]?).bind fun t=>(optF toks [105,109,112,108,101,109,101,110,116,115] [38] L (y0g toks.length h.2.2.2)).bind fun i=>(y2c toks L f i.2).bind fun d=>
 (y15 toks (y2y toks L f) L d.2).bind fun r=>some (⟨kind,h.2.1,h.1,t.text,i.1,d.1,r.1,[],[],[],[],false,[],t.line,t.col⟩,r.2)
def y5h (toks:List TokD) (L f:Nat) (h:NoteD×Bool×TokD×Nat):Option (DefD×Nat):=
 (toks[h.2.2.2]?).bind fun t=>(y2c toks L f (y0g toks.length h.2.2.2)).bind fun d=>(optF toks [61] [124] L d.2).bind fun m=>some (⟨5,h.2.1,h.1,t.text,[],d.1,[],[],m.1,[],[],false,[],t.line,t.col⟩,m.2)
def y9k (toks:List TokD) (L f:Nat) (h:NoteD×Bool×TokD×Nat):Option (DefD×Nat):=
 (toks[h.2.2.2]?).bind fun t=>(y2c toks L f (y0g toks.length h.2.2.2)).bind fun d=>(y15 toks (y3q toks L f) L d.2).bind fun r=>some (⟨6,h.2.1,h.1,t.text,[],d.1,[],[],[],r.1,[],false,[],t.line,t.col⟩,r.2)
def y5i (toks:List TokD) (L f:Nat) (h:NoteD×Bool×TokD×Nat):Option (DefD×Nat):=
 (toks[h.2.2.2]?).bind fun t=>(y2c toks L f (y0g toks.length h.2.2.2)).bind fun d=>(y1x toks [123] [125] L f d.2).bind fun r=>some (⟨7,h.2.1,h.1,t.text,[],d.1,[],r.1,[],[],[],false,[],t.line,t.col⟩,r.2)
def y3v (toks:List TokD) (L f:Nat) (h:NoteD×Bool×TokD×Nat):Option (DefD×Nat):=
 match y43 h.2.2.1.text with
 |1=>y3c toks L f h
 |2=>y3d toks L f h
 |3=>y2d 3 toks L f h
 |4=>y2d 4 toks L f h
 |5=>y5h toks L f h
 |6=>y9k toks L f h
 |7=>y5i toks L f h
 |8=>dirF toks L f h
 |_=>none
def defF (toks:List TokD) (L f k:Nat):Option (DefD×Nat):=(y36 toks k).bind (y3v toks L f)
theorem y0h {w:World} {a T:Nat} {vs:List Value} {d:DefD} (h:DatL w a T (defL d) vs): ∃A6 c6 A7 c7 A8 c8 A9 c9 A10 c10 A11 c11 A12 c12 A14 c14,
  vs=[.int .i64 d.kind,.bool d.ext,.bool d.note.has,.bool d.note.block,.string (str d.note.text),.string (str d.name),.slice A6 d.ifaces.length c6,.slice A7 d.dirs.length c7,.slice A8 d.fields.length c8,.slice A9 d.inputs.length c9,
   .slice A10 d.members.length c10,.slice A11 d.values.length c11,.slice A12 d.roots.length c12,.bool d.rep,.slice A14 d.places.length c14,.int .i64 d.line,.int .i64 d.col]∧
  Dat w a T (.list d.ifaces.length (y0v d.ifaces)) (.slice A6 d.ifaces.length c6)∧Dat w a T (.list d.dirs.length (y24 d.dirs)) (.slice A7 d.dirs.length c7)∧Dat w a T (.list d.fields.length (y0u d.fields)) (.slice A8 d.fields.length c8)∧
  Dat w a T (.list d.inputs.length (y0o d.inputs)) (.slice A9 d.inputs.length c9)∧Dat w a T (.list d.members.length (y0v d.members)) (.slice A10 d.members.length c10)∧Dat w a T (.list d.values.length (y12 d.values)) (.slice A11 d.values.length c11)∧
  Dat w a T (.list d.roots.length (y30 d.roots)) (.slice A12 d.roots.length c12)∧Dat w a T (.list d.places.length (y0v d.places)) (.slice A14 d.places.length c14):=by
 obtain ⟨r0,rfl,h0⟩:=h.lit_inv;obtain ⟨r1,rfl,h1⟩:=h0.lit_inv;obtain ⟨r2,rfl,h2⟩:=h1.lit_inv;obtain ⟨r3,rfl,h3⟩:=h2.lit_inv;obtain ⟨r4,rfl,h4⟩:=h3.lit_inv;obtain ⟨r5,rfl,h5⟩:=h4.lit_inv;obtain ⟨A6,c6,r6,rfl,d6,h6⟩:=h5.list_inv;obtain ⟨A7,c7,r7,rfl,d7,h7⟩:=h6.list_inv;obtain ⟨A8,c8,r8,rfl,d8,h8⟩:=h7.list_inv;obtain ⟨A9,c9,r9,rfl,d9,h9⟩:=h8.list_inv;obtain ⟨A10,c10,r10,rfl,d10,h10⟩:=h9.list_inv;obtain ⟨A11,c11,r11,rfl,d11,h11⟩:=h10.list_inv;obtain ⟨A12,c12,r12,rfl,d12,h12⟩:=h11.list_inv;obtain ⟨r13,rfl,h13⟩:=h12.lit_inv;obtain ⟨A14,c14,r14,rfl,d14,h14⟩:=h13.list_inv;obtain ⟨r15,rfl,h15⟩:=h14.lit_inv;obtain ⟨r16,rfl,h16⟩:=h15.lit_inv;rw [h16.nil_inv];exact ⟨A6,c6,A7,c7,A8,c8,A9,c9,A10,c10,A11,c11,A12,c12,A14,c14,rfl,d6,d7,d8,d9,d10,d11,d12,d14⟩
def y1f (toks:List TokD) (L f:Nat):Nat→Nat→Option (List DefD)
 |0,_=>none
 |fu+1,k=>toks[k]?.bind fun t=>if t.kind=0 then some [] else (defF toks L f k).bind fun q=>(y1f toks L f fu q.2).bind fun r=>some (q.1::r)
theorem x9n (a b:List DefD):y0r (a++b)=y0r a++y0r b:=by simp [y0r]
theorem y1l {α:Type} {l:List α} {k:Nat} {x:α} (h:l[k]?=some x):l.take (k+1)=l.take k++[x]:=by
 obtain ⟨hk,rfl⟩:=Qac.1 h;exact Qbk hk
theorem DatL.app_inv {w:World} {a T:Nat}: ∀{t1 t2:List Leaf} {vs:List Value},DatL w a T (t1++t2) vs→ ∃v1 v2,vs=v1++v2∧DatL w a T t1 v1∧DatL w a T t2 v2
 |[],t2,vs,h=>⟨[],vs,rfl,.nil h.le,h⟩
 |s::t1,t2,vs,h=>by
  rw [List.cons_append] at h;obtain ⟨v,r,rfl,h1,h2⟩:=h.cons_inv;obtain ⟨v1,v2,rfl,h3,h4⟩:=h2.app_inv;exact ⟨v::v1,v2,rfl,.cons h1 h3,h4⟩
theorem y2n {w:World} {a T:Nat} {nm:Txt} {v:LitD} {l c:Int} {vs:List Value} (h:DatL w a T (pairL (.mk nm v l c)) vs): ∃ls,vs= .string (str nm)::(ls++[.int .i64 l,.int .i64 c])∧DatL w a T (litL v) ls:=by
 obtain ⟨r,rfl,h1⟩:=h.lit_inv;obtain ⟨v1,v2,rfl,h2,h3⟩:=h1.app_inv;obtain ⟨r2,rfl,h4⟩:=h3.lit_inv;obtain ⟨r3,rfl,h5⟩:=h4.lit_inv;rw [h5.nil_inv];exact ⟨v1,rfl,h2⟩
theorem y71 {w:World} {a T:Nat} {d:DirD} {vs:List Value} (h:DatL w a T (dirL d) vs): ∃A c,vs=[.string (str d.name),.slice A d.args.length c,.int .i64 d.line,.int .i64 d.col]∧Dat w a T (.list d.args.length (pairsL d.args)) (.slice A d.args.length c):=by
 obtain ⟨r0,rfl,h0⟩:=h.lit_inv;obtain ⟨A,c,r1,rfl,hd,h1⟩:=h0.list_inv;obtain ⟨r2,rfl,h2⟩:=h1.lit_inv;obtain ⟨r3,rfl,h3⟩:=h2.lit_inv;rw [h3.nil_inv];exact ⟨A,c,rfl,hd⟩
theorem y5j {w:World} {a T:Nat} {nh nb:Bool} {nt dn tn tw:Txt} {dh:Bool} {lit:LitD} {dirs:List DirD} {dl dc:Int} {vs:List Value} (h:DatL w a T (y4m ⟨⟨nh,nb,nt⟩,dn,(tn,tw),dh,lit,dirs,dl,dc⟩) vs):
  ∃ls A c,vs=[.bool nh,.bool nb,.string (str nt),.string (str dn),.string (str tn),.string (str tw),.bool dh]++(ls++[.slice A dirs.length c,.int .i64 dl,.int .i64 dc])∧DatL w a T (litL lit) ls∧Dat w a T (.list dirs.length (y24 dirs)) (.slice A dirs.length c):=by
 obtain ⟨r0,rfl,h0⟩:=h.lit_inv;obtain ⟨r1,rfl,h1⟩:=h0.lit_inv;obtain ⟨r2,rfl,h2⟩:=h1.lit_inv;obtain ⟨r3,rfl,h3⟩:=h2.lit_inv;obtain ⟨r4,rfl,h4⟩:=h3.lit_inv;obtain ⟨r5,rfl,h5⟩:=h4.lit_inv;obtain ⟨r6,rfl,h6⟩:=h5.lit_inv;have h6':DatL w a T (litL lit++[.list dirs.length (y24 dirs),int' dl,int' dc]) r6:=h6;obtain ⟨v1,v2,rfl,h7,h8⟩:=h6'.app_inv;obtain ⟨A,c,r9,rfl,hd,h9⟩:=h8.list_inv;obtain ⟨r10,rfl,h10⟩:=h9.lit_inv;obtain ⟨r11,rfl,h11⟩:=h10.lit_inv;rw [h11.nil_inv];exact ⟨v1,A,c,rfl,h7,hd⟩
theorem y62 {w:World} {a T:Nat} {nh nb:Bool} {nt dn tn tw:Txt} {args:List InputD} {dirs:List DirD} {dl dc:Int} {vs:List Value} (h:DatL w a T (y3z ⟨⟨nh,nb,nt⟩,dn,args,(tn,tw),dirs,dl,dc⟩) vs):
  ∃A c A2 c2,vs=[.bool nh,.bool nb,.string (str nt),.string (str dn),.slice A args.length c,.string (str tn),.string (str tw),.slice A2 dirs.length c2,.int .i64 dl,.int .i64 dc]∧Dat w a T (.list args.length (y0o args)) (.slice A args.length c)∧Dat w a T (.list dirs.length (y24 dirs)) (.slice A2 dirs.length c2):=by
 obtain ⟨r0,rfl,h0⟩:=h.lit_inv;obtain ⟨r1,rfl,h1⟩:=h0.lit_inv;obtain ⟨r2,rfl,h2⟩:=h1.lit_inv;obtain ⟨r3,rfl,h3⟩:=h2.lit_inv;obtain ⟨A,c,r4,rfl,hd,h4⟩:=h3.list_inv;obtain ⟨r5,rfl,h5⟩:=h4.lit_inv;obtain ⟨r6,rfl,h6⟩:=h5.lit_inv;obtain ⟨A2,c2,r7,rfl,hd2,h7⟩:=h6.list_inv;obtain ⟨r8,rfl,h8⟩:=h7.lit_inv;obtain ⟨r9,rfl,h9⟩:=h8.lit_inv;rw [h9.nil_inv];exact ⟨A,c,A2,c2,rfl,hd,hd2⟩
theorem named_info:(Tryz.prog.info? 113).map (fun i=>(i.zero,i.size,i.bytes))=some (some (.agg #[.string ⟨#[]⟩,.int .i64 0,.int .i64 0]),3,32):=by kernel_rfl
theorem y5k: ∀l:List NamedD,(y0v l).length=l.length*3
 |[]=>rfl
 |x::r=>by rw [y0v,List.flatMap_cons,Qae,←y0v,y5k r,List.length_cons,Nat.succ_mul];simp [y87];omega
theorem y6c: ∀l:List RootD,(y30 l).length=l.length*4
 |[]=>rfl
 |x::r=>by rw [y30,List.flatMap_cons,Qae,←y30,y6c r,List.length_cons,Nat.succ_mul];simp [z2k];omega
theorem x1p {w:World} {a T:Nat} {nh nb:Bool} {nt dn:Txt} {dirs:List DirD} {dl dc:Int} {vs:List Value} (h:DatL w a T (y7z ⟨⟨nh,nb,nt⟩,dn,dirs,dl,dc⟩) vs):
  ∃A c,vs=[.bool nh,.bool nb,.string (str nt),.string (str dn),.slice A dirs.length c,.int .i64 dl,.int .i64 dc]∧Dat w a T (.list dirs.length (y24 dirs)) (.slice A dirs.length c):=by
 obtain ⟨r0,rfl,h0⟩:=h.lit_inv;obtain ⟨r1,rfl,h1⟩:=h0.lit_inv;obtain ⟨r2,rfl,h2⟩:=h1.lit_inv;obtain ⟨r3,rfl,h3⟩:=h2.lit_inv;obtain ⟨A,c,r4,rfl,hd,h4⟩:=h3.list_inv;obtain ⟨r5,rfl,h5⟩:=h4.lit_inv;obtain ⟨r6,rfl,h6⟩:=h5.lit_inv;rw [h6.nil_inv];exact ⟨A,c,rfl,hd⟩
end Go.Proofs.YtbpgkkoeehopjaaGreat.dat
namespace Go.Proofs.YtbpgkkoeehopjaaGreat.dat
open Go.RowKit words enc tree gram lex rd dec
structure RowI (w:World) (lo hi:Nat) (e:TypeId) (m:Nat) (v:Value) (n:Nat) (cs:List Leaf) (vs:List Value):Prop where
 row:RowT w (In lo hi) lo e m v n cs vs
 lt: ∀b,v.ownBlock=some b→b<hi
 le:hi≤w.heap.size
section
variable {w w' : World} {lo hi n m : Nat} {e : TypeId} {v : Value} {cs : List Leaf} {vs : List Value}
theorem RowI.of (h:RowT w (In lo w.heap.size) lo e m v n cs vs):RowI w lo w.heap.size e m v n cs vs:=⟨h,fun b hb=>(h.own.lt b hb).2,Qab _⟩
theorem RowI.other {row:Option Nat} (h:RowI w lo hi e m v n cs vs) (hg:w.grownBy w' row) (hrow: ∀b,row=some b→b<lo∨hi≤b):RowI w' lo hi e m v n cs vs:=
 ⟨h.row.other hg (fun b hb=>y2l (hrow b hb)) (by
   cases hv:v.ownBlock with
   |none=>exact .inl rfl
   |some b=>exact .inr (fun e=>by have:=(h.row.own.lt b hv).1;have:=h.lt b hv;have:=hrow b e.symm;omega)),h.lt,Qah h.le hg.size⟩
theorem RowI.below (h:RowI w lo hi e m v n cs vs) (hb:Below w.heap.size w w'):RowI w' lo hi e m v n cs vs:=h.other (y42 hb none) (fun b e=>by cases e)
theorem RowI.dat (h:RowI w lo hi e m v n cs vs):Dat w lo hi (.list n cs) v:=
 ⟨y2k h.row.own (ReadsL.keep (fun b hb=>hb.1) (fun _ _=>rfl) _ _ h.row.reads) (fun g hg=>⟨(h.row.own.lt g hg).1,h.lt g hg⟩),h.le⟩
end
def Inn (w:World) (base:Nat) (own:Nat→Nat):Nat→Prop:=fun b=>own b=0∧base≤b∧b<w.heap.size
structure RowC (w:World) (base:Nat) (own:Nat→Nat) (id:Nat) (e:TypeId) (m:Nat) (v:Value) (n:Nat) (cs:List Leaf) (vs:List Value):Prop where
 row:w.ownsRow base e m v n vs
 reads:ReadsL w (Inn w base own) cs vs
 mine: ∀b,v.ownBlock=some b→own b=id
def upd (own:Nat→Nat) (v:Value) (id:Nat):Nat→Nat:=fun b=>if v.ownBlock=some b then id else own b
section
variable {w w' : World} {base id n k m : Nat} {own own' : Nat → Nat} {e : TypeId} {v v' : Value} {cs cs' : List Leaf} {vs vs' : List Value}
theorem z3q (h:w.ownsRow base e m v n vs) (hk: ∀b,v.ownBlock=some b→w'.heap[b]?=w.heap[b]?):w'.ownsRow base e m v n vs:=by
 refine ⟨h.1,?_⟩;rcases h.2 with h2|⟨g,cap,cur,rfl,hb,hc,h4⟩
 ·exact .inl h2
 ·exact .inr ⟨g,cap,cur,rfl,hb,(hk g rfl).trans hc,h4⟩
theorem q4s {base':Nat} (h:w.ownsRow base e m v n vs) (hb:base'≤base):w.ownsRow base' e m v n vs:=by
 refine ⟨h.1,?_⟩;rcases h.2 with h2|⟨g,cap,cur,rfl,hb',hc,h4⟩
 ·exact .inl h2
 ·exact .inr ⟨g,cap,cur,rfl,Qah hb hb',hc,h4⟩
theorem RowC.frame (h:RowC w base own id e m v n cs vs) (hs:w.heap.size≤w'.heap.size) (hk: ∀b,base≤b→b<w.heap.size→own b=0∨own b=id→w'.heap[b]?=w.heap[b]?) (ha: ∀b,b<w.heap.size→own' b=own b):RowC w' base own' id e m v n cs vs:=
 ⟨z3q h.row (fun b hb=>hk b (h.row.lt b hb).1 (h.row.lt b hb).2 (.inr (h.mine b hb))),
  ReadsL.keep (fun b hb=>⟨(ha b hb.2.2).trans hb.1,hb.2.1,Qap hb.2.2 hs⟩) (fun p hp=>World.cell?_of_block (hk p.block hp.2.1 hp.2.2 (.inl hp.1))) _ _ h.reads,
  fun b hb=>(ha b (h.row.lt b hb).2).trans (h.mine b hb)⟩
theorem x9o (h:RowC w base own id e m v n cs vs) (hat:v'.ownBlock=v.ownBlock∨v'.ownBlock=some w.heap.size): ∀b,b<w.heap.size→upd own v' id b=own b:=by
 intro b hb;unfold upd;split
 ·rename_i hv;rcases hat with hat|hat
  ·exact (h.mine b (hat.symm.trans hv)).symm
  ·rw [hat] at hv;injection hv with hv;omega
 ·rfl
theorem RowC.push (h:RowC w base own id e m v n cs vs) (hid:id≠0) (ho:w'.ownsRow base e m v' (n+k) (vs++vs')) (hg:w.grownBy w' v.ownBlock) (hat:v'.ownBlock=v.ownBlock∨v'.ownBlock=some w.heap.size) (hr:ReadsL w (Inn w base own) cs' vs'):
  RowC w' base (upd own v' id) id e m v' (n+k) (cs++cs') (vs++vs'):=by
 refine ⟨ho,?_,fun b hb=>by unfold upd;rw [if_pos hb]⟩;refine ReadsL.keep (fun b hb=>⟨(x9o h hat b hb.2.2).trans hb.1,hb.2.1,Qap hb.2.2 hg.size⟩) (fun p hp=>World.cell?_of_block (hg.block p.block hp.2.2 (fun e=>hid ((h.mine _ e.symm).symm.trans hp.1)))) _ _ (h.reads.app hr)
theorem RowC.of {lo hi:Nat} (h:RowI w lo hi e m v n cs vs) (hb:base≤lo) (hin: ∀b,lo≤b→b<hi→v.ownBlock≠some b→own b=0) (hmine: ∀b,v.ownBlock=some b→own b=id):RowC w base own id e m v n cs vs:=
 ⟨q4s h.row.own hb,ReadsL.keep (fun b hb'=>⟨hin b hb'.1.1 hb'.1.2 hb'.2,Qah hb hb'.1.1,Qap hb'.1.2 h.le⟩) (fun _ _=>rfl) _ _ h.row.reads,hmine⟩
theorem RowC.dat (h:RowC w base own id e m v n cs vs):Dat w base w.heap.size (.list n cs) v:=
 ⟨y2k h.row (ReadsL.keep (fun b hb=>⟨hb.2.1,hb.2.2⟩) (fun _ _=>rfl) _ _ h.reads) (fun g hg=>h.row.lt g hg),Qab _⟩
end
end Go.Proofs.YtbpgkkoeehopjaaGreat.dat
namespace Go.Proofs.YtbpgkkoeehopjaaGreat.dat
open Go.RowKit words gram tree rd
mutual
def litN:LitD→Nat
 | .mk _ _ _ items fields _ _=>litsN items+pairsN fields+1
def litsN:List LitD→Nat
 |[]=>0
 |d::r=>litN d+litsN r
def pairN:PairD→Nat
 | .mk _ v _ _=>litN v+1
def pairsN:List PairD→Nat
 |[]=>0
 |d::r=>pairN d+pairsN r
end
theorem y8j (d:LitD):0<litN d:=by cases d;simp [litN]
theorem z67: ∀l,l.length≤litsN l
 |[]=>Qab _
 |d::r=>by have:=y8j d;have:=z67 r;simp only [List.length_cons,litsN];omega
theorem x9p (d:PairD):0<pairN d:=by cases d;simp [pairN]
theorem y72: ∀l,l.length≤pairsN l
 |[]=>Qab _
 |d::r=>by have:=x9p d;have:=y72 r;simp only [List.length_cons,pairsN];omega
theorem x1q: ∀{l:List LitD} {k:Nat} {d:LitD},l[k]?=some d→litN d≤litsN l
 |[],k,d,h=>by simp at h
 |x::r,0,d,h=>by simp only [List.getElem?_cons_zero] at h;injection h with h;subst h;simp only [litsN];omega
 |x::r,k+1,d,h=>by simp only [List.getElem?_cons_succ] at h;have:=x1q h;simp only [litsN];omega
theorem z0i: ∀{l:List PairD} {k:Nat} {d:PairD},l[k]?=some d→pairN d≤pairsN l
 |[],k,d,h=>by simp at h
 |x::r,0,d,h=>by simp only [List.getElem?_cons_zero] at h;injection h with h;subst h;simp only [pairsN];omega
 |x::r,k+1,d,h=>by simp only [List.getElem?_cons_succ] at h;have:=z0i h;simp only [pairsN];omega
def sumN {α:Type} (f:α→Nat):List α→Nat
 |[]=>0
 |d::r=>f d+sumN f r
theorem y6d {α:Type} {f:α→Nat}: ∀{l:List α} {k:Nat} {d:α},l[k]?=some d→f d≤sumN f l
 |[],k,d,h=>by simp at h
 |x::r,0,d,h=>by simp only [List.getElem?_cons_zero] at h;injection h with h;subst h;simp only [sumN];omega
 |x::r,k+1,d,h=>by simp only [List.getElem?_cons_succ] at h;have:=y6d (f:=f) h;simp only [sumN];omega
theorem y0w {α:Type} {f:α→Nat} (hf: ∀a,0<f a): ∀l:List α,l.length≤sumN f l
 |[]=>Qab _
 |d::r=>by have:=hf d;have:=y0w hf r;simp only [List.length_cons,sumN];omega
theorem y73 {α:Type} {f:α→Nat}: ∀(a b:List α),sumN f (a++b)=sumN f a+sumN f b
 |[],b=>by simp [sumN]
 |d::r,b=>by rw [List.cons_append,sumN,y73 r b,sumN];omega
def dirN (d:DirD):Nat:=pairsN d.args+1
def y2q (d:InputD):Nat:=litN d.lit+sumN dirN d.dirs+1
def y31 (d:FieldD):Nat:=sumN y2q d.args+sumN dirN d.dirs+1
def y4o (d:ValueD):Nat:=sumN dirN d.dirs+1
def defN (d:DefD):Nat:=d.ifaces.length+sumN dirN d.dirs+sumN y31 d.fields+sumN y2q d.inputs+d.members.length+sumN y4o d.values+d.roots.length+d.places.length+1
def y0i (l:List DefD):Nat:=sumN defN l
theorem y63 (d:DirD):0<dirN d:=Nat.succ_pos _
theorem y5a (d:InputD):0<y2q d:=Nat.succ_pos _
theorem y5b (d:FieldD):0<y31 d:=Nat.succ_pos _
theorem y8k (d:ValueD):0<y4o d:=Nat.succ_pos _
theorem y28 (d:DefD):0<defN d:=Nat.succ_pos _
theorem y74 {w:World} {a T n c m:Nat} {A:Option Addr} {α:Type} {f:α→List Leaf} (hf: ∀x,(f x).length=m) {l:List α} (h:Dat w a T (.list n (l.flatMap f)) (.slice A n c)) {k:Nat} {x:α} (hk:l[k]?=some x) (hm:0<m):
  ∃ad vs,A=some ad∧DatL w a T (f x) vs∧vs.length=m∧In a T (ad.add (k*m)).block∧(∀u,vs[0]?=some u→w.cell? (ad.add (k*m))=some u)∧ ∀j u,vs[j+1]?=some u→w.cell? ⟨(ad.add (k*m)).block,(ad.add (k*m)).off+(j+1),none⟩=some u:=by
 obtain ⟨A',c',us,he,_,_,hl,hd⟩:=y0k h.reads;injection he with e1 e2 e3;subst e1 e3
 have key: ∀(l:List α) (k:Nat) (us:List Value),ReadsL w (In a T) (l.flatMap f) us→l[k]?=some x→ ∃vs,ReadsL w (In a T) (f x) vs∧vs.length=m∧ ∀j,j<m→us[k*m+j]?=vs[j]?:=by
  intro l
  induction l with
  |nil=>intro k us _ hk;simp at hk
  |cons y r ih=>
   intro k us hl hk;rw [List.flatMap_cons] at hl
   have hsplit: ∀(t1 t2:List Leaf) (us:List Value),ReadsL w (In a T) (t1++t2) us→ ∃v1 v2,us=v1++v2∧ReadsL w (In a T) t1 v1∧ReadsL w (In a T) t2 v2:=by
    intro t1
    induction t1 with
    |nil=>intro t2 us h;exact ⟨[],us,rfl,ReadsL.nil,h⟩
    |cons s t1 ih2=>
     intro t2 us h;rw [List.cons_append] at h;simp only [ReadsL] at h;obtain ⟨v,r,rfl,h1,h2⟩:=h;obtain ⟨v1,v2,rfl,h3,h4⟩:=ih2 t2 r h2;exact ⟨v::v1,v2,rfl,ReadsL.cons h1 h3,h4⟩
   obtain ⟨v1,v2,rfl,h1,h2⟩:=hsplit _ _ _ hl
   have hlen1:v1.length=m:=by rw [h1.len,hf]
   cases k with
   |zero=>
    simp only [List.getElem?_cons_zero] at hk;injection hk with hk;subst hk;exact ⟨v1,h1,hlen1,fun j hj=>by rw [Nat.zero_mul,Nat.zero_add,Qa9 (by omega)]⟩
   |succ k=>
    simp only [List.getElem?_cons_succ] at hk;obtain ⟨vs,h3,h4,h5⟩:=ih k v2 h2 hk;refine ⟨vs,h3,h4,fun j hj=>?_⟩;rw [Qba (by rw [hlen1,Nat.succ_mul];omega),hlen1,show (k+1)*m+j - m=k*m+j by rw [Nat.succ_mul];omega];exact h5 j hj
 obtain ⟨vs,h1,h2,h3⟩:=key l k us hl hk;have h0:us[k*m+0]?=vs[0]?:=h3 0 hm;have hne: ∃u,vs[0]?=some u:=⟨_,Qad (by omega)⟩;obtain ⟨u0,hu0⟩:=hne;obtain ⟨ad,rfl,hS,hc0⟩:=hd.at (h0.trans hu0)
 have hat: ∀j u,vs[j]?=some u→w.cell? (ad.add (k*m+j))=some u:=fun j u hj=>by
  have hjm:j<m:=by rw [←h2];exact (Qac.1 hj).1
  obtain ⟨ad',e,_,hc⟩:=hd.at ((h3 j hjm).trans hj);injection e with e;subst e;exact hc
 exact ⟨ad,vs,rfl,⟨h1,h.le⟩,h2,by rw [y55];exact hS,fun u hu=>hat 0 u hu,fun j u hj=>z6w (hat (j+1) u hj)⟩
end Go.Proofs.YtbpgkkoeehopjaaGreat.dat
