/- Part 16 of a proof: see the text that holds the statement. -/
import Derived.Test.YtbpgkkoeehopjaaGreatP1
import Derived.Test.YtbpgkkoeehopjaaGreatP4
import Derived.Test.YtbpgkkoeehopjaaGreatP7
import Derived.Test.YtbpgkkoeehopjaaGreatP8
import Derived.Test.YtbpgkkoeehopjaaGreatP9
import Derived.Test.YtbpgkkoeehopjaaGreatP10
import Derived.Test.YtbpgkkoeehopjaaGreatP12
import Derived.Test.YtbpgkkoeehopjaaGreatP13
import Derived.Test.YtbpgkkoeehopjaaGreatP15
import Derived.Deep.QuietTactic
import Derived.BigQuiet
import Derived.Test.YtbpgkkoeehopjaaGreatRows
import Derived.ChangeArms
import Derived.ProofKit
import Derived.OpenShut
import Derived.Deep.Matrix
import Derived.SizedLaws
set_option linter.unusedVariables false
set_option linter.unusedSimpArgs false
namespace Go.Proofs.YtbpgkkoeehopjaaGreat.hp
open Go.RowKit words enc tree gram lex rd dec dat held
set_option maxRecDepth 100000
set_option maxHeartbeats 40000000
attribute [local go_sem ↓] Go.wp_at_zero Go.wp_at_succ
def y65 (d e:NoteD):Bool:=d.has==e.has&&d.block==e.block&&d.text==e.text
def z3c (p:Bool) (d e:ValueD):Bool:=y65 d.note e.note&&d.name==e.name&&(!p||d.line==e.line&&d.col==e.col)&&y2d (z96 p) d.dirs e.dirs
section
variable {w0 w K : World} {M : List Ent}
theorem z6a (p:Bool) {l m:List ValueD} {A B:Option Addr} {c b:Nat} (hn:sumN y3x l≤9000000) (heq:y2d (z3c p) l m=true) (hd:RD K (.list l.length (l.flatMap y6s)) (.slice A l.length c)) (he:RD K (.list m.length (m.flatMap y6s)) (.slice B m.length b)) (H:Hp w0 w K M):
  Calls Tryz.prog 114 #[.slice A l.length c,.slice B m.length b,.bool p] w fun e w'=>e= .returned (.bool true)∧Hp w0 w' K M:=by
 obtain ⟨e6,E6⟩:=y28 heq;have hnf:=Qah (y0x y7f l) hn;have HF:=hide (show ∀x∈l,y3x x≤9000000 from fun x hx=>by obtain ⟨k,hk⟩:=Qaq hx;have:=y77 (f:=y3x) hk;omega);have HE6:=hide (show ∀(k:Nat) (x y:ValueD),l[k]?=some x→m[k]?=some y→(z3c p) x y=true from fun k x y=>E6);rw [←e6] at he ⊢;obtain ⟨nf,hnf2⟩: ∃x,l.length=x:=⟨_,rfl⟩;rw [hnf2] at hd he hnf e6 ⊢;have HNF:=hide hnf2;have HNG:=hide e6.symm;clear hnf2 e6 E6 heq hn;go_enter Tryz.func114,Tryz.ntmps114
 go_wp2_with fail
 go_loopw [7] (fun i wr=>∃k:Nat,k≤nf∧i= .int .i64 k∧Hp w0 wr K M) (fun i _=>nf - (intOf i).toNat)
 case atStart=>exact ⟨0,Qak _,rfl,H⟩
 case round=>
  clear H;obtain ⟨k,hk,rfl,H⟩:=hrel;by_cases hlt:k<nf
  ·obtain ⟨x,ad,us,hx,rfl,hxl,hat⟩:=el_k (m:=7) (f:=y6s) (fun _=>rfl) hd (by rw [HNF.out];exact hlt) (by decide);obtain ⟨y,bd,vs,hy,rfl,hyl,hbt⟩:=el_k (m:=7) (f:=y6s) (fun _=>rfl) he (by rw [HNG.out];exact hlt) (by decide);obtain ⟨hkI,hwr⟩:=wr_k hlt hnf;have hxn:=HF.out x (Qaf hx);have hxy:=HE6.out k x y hx hy
   cases p with
   |false=>
    obtain ⟨⟨xh,xb,xt⟩,xn,xd,xl,xc⟩:=x;obtain ⟨⟨yh,yb,yt⟩,yn,yd,yl,yc⟩:=y;simp only [z3c,y65,Qao,Qa7] at hxy;obtain ⟨⟨⟨⟨⟨rfl,rfl⟩,rfl⟩,rfl⟩,hpos⟩,hxy⟩:=hxy;simp only [y3x] at hxn;clear hpos;obtain ⟨hr0,rfl,h0⟩:=hxl.lit_inv;obtain ⟨hr1,rfl,h1⟩:=h0.lit_inv;obtain ⟨hr2,rfl,h2⟩:=h1.lit_inv;obtain ⟨hr3,rfl,h3⟩:=h2.lit_inv;obtain ⟨hA4,hc4,hr4,rfl,hd4,h4⟩:=h3.list_inv;obtain ⟨hr5,rfl,h5⟩:=h4.lit_inv;obtain ⟨hr6,rfl,h6⟩:=h5.lit_inv;obtain rfl:=h6.nil_inv;obtain ⟨kr0,rfl,k0⟩:=hyl.lit_inv;obtain ⟨kr1,rfl,k1⟩:=k0.lit_inv;obtain ⟨kr2,rfl,k2⟩:=k1.lit_inv;obtain ⟨kr3,rfl,k3⟩:=k2.lit_inv;obtain ⟨kA4,kc4,kr4,rfl,kd4,k4⟩:=k3.list_inv;obtain ⟨kr5,rfl,k5⟩:=k4.lit_inv;obtain ⟨kr6,rfl,k6⟩:=k5.lit_inv;obtain rfl:=k6.nil_inv;have hxy:=hide hxy;have hc:=fun {w M} (h:Hp w0 w K M)=>y2p _ (by omega) hxy.out hd4 kd4 h;clear hx hy
    go_wp2_with fail
    refine rB [] H ?_;clear H;intro w H;refine rT 0 H ?_;refine rT 1 H ?_;refine rT 2 H ?_;refine rT 3 H ?_;refine rT 4 H ?_ (hd:=datB);refine rT 5 H ?_;refine rT 6 H ?_;refine rT 7 H ?_;refine rT 8 H ?_;refine rT 9 H ?_ (hd:=datB);refine rT 10 H ?_;refine rT 11 H ?_;refine rT 12 H ?_;refine rT 13 H ?_;refine rT 14 H ?_;refine rT 15 H ?_;refine rT 16 H ?_;refine rT 17 H ?_;refine rT 18 H ?_;refine rT 19 H ?_;refine rT 20 H ?_;refine rT 21 H ?_;refine rT 22 H ?_;refine rT 23 H ?_;refine rT 24 H ?_;refine rT 25 H ?_;refine rT 26 H ?_;refine rU 27 H ?_;refine rU 28 H ?_;refine rU 29 H ?_;refine rU 30 H ?_;refine rU 31 H ?_;refine rU 32 H ?_;refine rU 33 H ?_;refine rU 34 H ?_;refine rU 35 H ?_;refine rU 36 H ?_;refine rU 37 H ?_;refine rT 38 H ?_;refine rT 39 H ?_;refine rE ?_
    go_wp2_with fail
    refine rB [] H ?_;clear H;intro w H;refine rT 0 H ?_;refine rT 1 H ?_;refine rT 2 H ?_;refine rT 3 H ?_;refine rT 4 H ?_;refine rT 5 H ?_;refine rT 6 H ?_;refine rT 7 H ?_;refine rT 8 H ?_;refine rT 9 H ?_;refine rT 10 H ?_;refine rC 11 (hc H) ?_;clear H;rintro e w ⟨rfl,H⟩;refine rX H ?_;refine rT 12 H ?_;refine rE ?_
    go_wp2_with fail
    go_roundw
    case rel=>exact ⟨k+1,by omega,by go_num,H⟩
    case measure=>simp [intOf];omega
   |true=>
    obtain ⟨⟨xh,xb,xt⟩,xn,xd,xl,xc⟩:=x;obtain ⟨⟨yh,yb,yt⟩,yn,yd,yl,yc⟩:=y;simp only [z3c,y65,Qao,Qa7] at hxy;obtain ⟨⟨⟨⟨⟨rfl,rfl⟩,rfl⟩,rfl⟩,hpos⟩,hxy⟩:=hxy;simp only [y3x] at hxn;simp only [Bool.not_true,Bool.false_or,Qao,Qa7] at hpos;obtain ⟨rfl,rfl⟩:=hpos;obtain ⟨hr0,rfl,h0⟩:=hxl.lit_inv;obtain ⟨hr1,rfl,h1⟩:=h0.lit_inv;obtain ⟨hr2,rfl,h2⟩:=h1.lit_inv;obtain ⟨hr3,rfl,h3⟩:=h2.lit_inv;obtain ⟨hA4,hc4,hr4,rfl,hd4,h4⟩:=h3.list_inv;obtain ⟨hr5,rfl,h5⟩:=h4.lit_inv;obtain ⟨hr6,rfl,h6⟩:=h5.lit_inv;obtain rfl:=h6.nil_inv;obtain ⟨kr0,rfl,k0⟩:=hyl.lit_inv;obtain ⟨kr1,rfl,k1⟩:=k0.lit_inv;obtain ⟨kr2,rfl,k2⟩:=k1.lit_inv;obtain ⟨kr3,rfl,k3⟩:=k2.lit_inv;obtain ⟨kA4,kc4,kr4,rfl,kd4,k4⟩:=k3.list_inv;obtain ⟨kr5,rfl,k5⟩:=k4.lit_inv;obtain ⟨kr6,rfl,k6⟩:=k5.lit_inv;obtain rfl:=k6.nil_inv;have hxy:=hide hxy;have hc:=fun {w M} (h:Hp w0 w K M)=>y2p _ (by omega) hxy.out hd4 kd4 h;clear hx hy
    go_wp2_with fail
    refine rB [] H ?_;clear H;intro w H;refine rT 0 H ?_;refine rT 1 H ?_;refine rT 2 H ?_;refine rT 3 H ?_;refine rT 4 H ?_ (hd:=datB);refine rT 5 H ?_;refine rT 6 H ?_;refine rT 7 H ?_;refine rT 8 H ?_;refine rT 9 H ?_ (hd:=datB);refine rT 10 H ?_;refine rT 11 H ?_;refine rT 12 H ?_;refine rT 13 H ?_;refine rT 14 H ?_;refine rT 15 H ?_;refine rT 16 H ?_;refine rT 17 H ?_;refine rT 18 H ?_;refine rT 19 H ?_;refine rT 20 H ?_;refine rT 21 H ?_;refine rT 22 H ?_;refine rT 23 H ?_;refine rT 24 H ?_;refine rT 25 H ?_;refine rT 26 H ?_;refine rT 27 H ?_;refine rT 28 H ?_;refine rT 29 H ?_;refine rT 30 H ?_;refine rT 31 H ?_ (hd:=datA);refine rT 32 H ?_;refine rT 33 H ?_;refine rT 34 H ?_;refine rT 35 H ?_;refine rT 36 H ?_ (hd:=datA);refine rT 37 H ?_;refine rT 38 H ?_;refine rT 39 H ?_;refine rE ?_
    go_wp2_with fail
    refine rB [] H ?_;clear H;intro w H;refine rT 0 H ?_;refine rT 1 H ?_;refine rT 2 H ?_;refine rT 3 H ?_;refine rT 4 H ?_;refine rT 5 H ?_;refine rT 6 H ?_;refine rT 7 H ?_;refine rT 8 H ?_;refine rT 9 H ?_;refine rT 10 H ?_;refine rC 11 (hc H) ?_;clear H;rintro e w ⟨rfl,H⟩;refine rX H ?_;refine rT 12 H ?_;refine rE ?_
    go_wp2_with fail
    go_roundw
    case rel=>exact ⟨k+1,by omega,by go_num,H⟩
    case measure=>simp [intOf];omega
  ·obtain rfl:nf=k:=by omega
   go_wp2_with fail
   go_ret;exact ⟨rfl,H⟩
end
def z0q (p:Bool) (d e:InputD):Bool:=y65 d.note e.note&&d.name==e.name&&d.ty.1==e.ty.1&&d.ty.2==e.ty.2&&d.has==e.has&&(!p||d.line==e.line&&d.col==e.col)&&z95 p d.lit e.lit&&y2d (z96 p) d.dirs e.dirs
section
variable {w0 w K : World} {M : List Ent}
theorem y58 (p:Bool) {l m:List InputD} {A B:Option Addr} {c b:Nat} (hn:sumN y14 l≤9000000) (heq:y2d (z0q p) l m=true) (hd:RD K (.list l.length (l.flatMap y3v)) (.slice A l.length c)) (he:RD K (.list m.length (m.flatMap y3v)) (.slice B m.length b)) (H:Hp w0 w K M):
  Calls Tryz.prog 113 #[.slice A l.length c,.slice B m.length b,.bool p] w fun e w'=>e= .returned (.bool true)∧Hp w0 w' K M:=by
 obtain ⟨e6,E6⟩:=y28 heq;have hnf:=Qah (y0x y4f l) hn;have HF:=hide (show ∀x∈l,y14 x≤9000000 from fun x hx=>by obtain ⟨k,hk⟩:=Qaq hx;have:=y77 (f:=y14) hk;omega);have HE6:=hide (show ∀(k:Nat) (x y:InputD),l[k]?=some x→m[k]?=some y→(z0q p) x y=true from fun k x y=>E6);rw [←e6] at he ⊢;obtain ⟨nf,hnf2⟩: ∃x,l.length=x:=⟨_,rfl⟩;rw [hnf2] at hd he hnf e6 ⊢;have HNF:=hide hnf2;have HNG:=hide e6.symm;clear hnf2 e6 E6 heq hn;go_enter Tryz.func113,Tryz.ntmps113
 go_wp2_with fail
 go_loopw [7] (fun i wr=>∃k:Nat,k≤nf∧i= .int .i64 k∧Hp w0 wr K M) (fun i _=>nf - (intOf i).toNat)
 case atStart=>exact ⟨0,Qak _,rfl,H⟩
 case round=>
  clear H;obtain ⟨k,hk,rfl,H⟩:=hrel;by_cases hlt:k<nf
  ·obtain ⟨x,ad,us,hx,rfl,hxl,hat⟩:=el_k (m:=17) (f:=y3v) y7d hd (by rw [HNF.out];exact hlt) (by decide);obtain ⟨y,bd,vs,hy,rfl,hyl,hbt⟩:=el_k (m:=17) (f:=y3v) y7d he (by rw [HNG.out];exact hlt) (by decide);obtain ⟨hkI,hwr⟩:=wr_k hlt hnf;have hxn:=HF.out x (Qaf hx);have hxy:=HE6.out k x y hx hy
   cases p with
   |false=>
    obtain ⟨⟨nh,nb,nt⟩,dn,⟨tn,tw⟩,dh,⟨dk,dt,db,di,df,dln,dcl⟩,ds,dl,dc⟩:=x;obtain ⟨⟨yh,yb,yt⟩,en,⟨un,uw⟩,eh,⟨ek,et,eb,ei,ef,eln,ecl⟩,es,el,ec⟩:=y;simp only [z0q,y65,Qao,Qa7] at hxy;obtain ⟨⟨⟨⟨⟨⟨⟨⟨⟨rfl,rfl⟩,rfl⟩,rfl⟩,rfl⟩,rfl⟩,rfl⟩,hpos⟩,hlit⟩,hxy⟩:=hxy;simp only [y14] at hxn;clear hpos;obtain ⟨ls,Ad,cd,rfl,hvl,hds⟩:=y4j hxl;obtain ⟨Xi,xi,Xf,xf,rfl,-,-⟩:=y0l hvl;obtain ⟨ls,Bd,ce,rfl,hul,hes⟩:=y4j hyl;obtain ⟨Yi,yi,Yf,yf,rfl,-,-⟩:=y0l hul;have hxy:=hide hxy;have hlt2:=hide hlit;have hc:=fun {w M} (h:Hp w0 w K M)=>y7s _ 9000000 _ _ #[_,_,_,_,_,_,_] #[_,_,_,_,_,_,_] w0 w K M (by omega) (Qab _) hlt2.out hvl hul h;have hc2:=fun {w M} (h:Hp w0 w K M)=>y2p _ (by omega) hxy.out hds hes h;simp only [List.cons_append,List.nil_append] at hat hbt;clear hlit;clear hx hy
    go_wp2_with fail
    refine rB [] H ?_;clear H;intro w H;refine rT 0 H ?_;refine rT 1 H ?_;refine rT 2 H ?_;refine rT 3 H ?_;refine rT 4 H ?_ (hd:=datB);refine rT 5 H ?_;refine rT 6 H ?_;refine rT 7 H ?_;refine rT 8 H ?_;refine rT 9 H ?_ (hd:=datB);refine rT 10 H ?_;refine rT 11 H ?_;refine rT 12 H ?_;refine rT 13 H ?_;refine rT 14 H ?_;refine rT 15 H ?_;refine rT 16 H ?_;refine rT 17 H ?_;refine rT 18 H ?_;refine rT 19 H ?_;refine rT 20 H ?_;refine rT 21 H ?_;refine rT 22 H ?_;refine rT 23 H ?_;refine rT 24 H ?_;refine rT 25 H ?_;refine rT 26 H ?_;refine rT 27 H ?_;refine rT 28 H ?_;refine rT 29 H ?_ (hd:=datA);refine rT 30 H ?_;refine rT 31 H ?_;refine rT 32 H ?_;refine rT 33 H ?_;refine rT 34 H ?_ (hd:=datA);refine rT 35 H ?_;refine rT 36 H ?_;refine rT 37 H ?_;refine rT 38 H ?_;refine rT 39 H ?_;refine rT 40 H ?_;refine rT 41 H ?_;refine rT 42 H ?_;refine rT 43 H ?_;refine rT 44 H ?_;refine rT 45 H ?_;refine rT 46 H ?_;refine rT 47 H ?_;refine rT 48 H ?_;refine rT 49 H ?_;refine rT 50 H ?_;refine rT 51 H ?_;refine rT 52 H ?_;refine rU 53 H ?_;refine rU 54 H ?_;refine rU 55 H ?_;refine rU 56 H ?_;refine rU 57 H ?_;refine rU 58 H ?_;refine rU 59 H ?_;refine rU 60 H ?_;refine rU 61 H ?_;refine rU 62 H ?_;refine rU 63 H ?_;refine rT 64 H ?_;refine rT 65 H ?_;refine rE ?_
    go_wp2_with fail
    refine rB [] H ?_;clear H;intro w H;refine rT 0 H ?_;refine rT 1 H ?_;refine rT 2 H ?_;refine rT 3 H ?_;refine rT 4 H ?_ (hd:=datA);refine rT 5 H ?_;refine rT 6 H ?_;refine rT 7 H ?_;refine rT 8 H ?_;refine rT 9 H ?_ (hd:=datA);refine rT 10 H ?_;refine rC 11 (hc H) ?_;clear H;rintro e w ⟨rfl,H⟩;refine rX H ?_;refine rT 12 H ?_;refine rT 13 H ?_;refine rT 14 H ?_;refine rT 15 H ?_;refine rT 16 H ?_;refine rT 17 H ?_;refine rT 18 H ?_;refine rT 19 H ?_;refine rT 20 H ?_;refine rT 21 H ?_;refine rT 22 H ?_;refine rT 23 H ?_;refine rT 24 H ?_;refine rD 25 (hc2 H) ?_;clear H;rintro e w ⟨rfl,H⟩;refine rX H ?_;refine rT 26 H ?_;refine rT 27 H ?_;refine rE ?_
    go_wp2_with fail
    go_roundw
    case rel=>exact ⟨k+1,by omega,by go_num,H⟩
    case measure=>simp [intOf];omega
   |true=>
    obtain ⟨⟨nh,nb,nt⟩,dn,⟨tn,tw⟩,dh,⟨dk,dt,db,di,df,dln,dcl⟩,ds,dl,dc⟩:=x;obtain ⟨⟨yh,yb,yt⟩,en,⟨un,uw⟩,eh,⟨ek,et,eb,ei,ef,eln,ecl⟩,es,el,ec⟩:=y;simp only [z0q,y65,Qao,Qa7] at hxy;obtain ⟨⟨⟨⟨⟨⟨⟨⟨⟨rfl,rfl⟩,rfl⟩,rfl⟩,rfl⟩,rfl⟩,rfl⟩,hpos⟩,hlit⟩,hxy⟩:=hxy;simp only [y14] at hxn;simp only [Bool.not_true,Bool.false_or,Qao,Qa7] at hpos;obtain ⟨rfl,rfl⟩:=hpos;obtain ⟨ls,Ad,cd,rfl,hvl,hds⟩:=y4j hxl;obtain ⟨Xi,xi,Xf,xf,rfl,-,-⟩:=y0l hvl;obtain ⟨ls,Bd,ce,rfl,hul,hes⟩:=y4j hyl;obtain ⟨Yi,yi,Yf,yf,rfl,-,-⟩:=y0l hul;have hxy:=hide hxy;have hlt2:=hide hlit;have hc:=fun {w M} (h:Hp w0 w K M)=>y7s _ 9000000 _ _ #[_,_,_,_,_,_,_] #[_,_,_,_,_,_,_] w0 w K M (by omega) (Qab _) hlt2.out hvl hul h;have hc2:=fun {w M} (h:Hp w0 w K M)=>y2p _ (by omega) hxy.out hds hes h;simp only [List.cons_append,List.nil_append] at hat hbt;clear hlit;clear hx hy
    go_wp2_with fail
    refine rB [] H ?_;clear H;intro w H;refine rT 0 H ?_;refine rT 1 H ?_;refine rT 2 H ?_;refine rT 3 H ?_;refine rT 4 H ?_ (hd:=datB);refine rT 5 H ?_;refine rT 6 H ?_;refine rT 7 H ?_;refine rT 8 H ?_;refine rT 9 H ?_ (hd:=datB);refine rT 10 H ?_;refine rT 11 H ?_;refine rT 12 H ?_;refine rT 13 H ?_;refine rT 14 H ?_;refine rT 15 H ?_;refine rT 16 H ?_;refine rT 17 H ?_;refine rT 18 H ?_;refine rT 19 H ?_;refine rT 20 H ?_;refine rT 21 H ?_;refine rT 22 H ?_;refine rT 23 H ?_;refine rT 24 H ?_;refine rT 25 H ?_;refine rT 26 H ?_;refine rT 27 H ?_;refine rT 28 H ?_;refine rT 29 H ?_ (hd:=datA);refine rT 30 H ?_;refine rT 31 H ?_;refine rT 32 H ?_;refine rT 33 H ?_;refine rT 34 H ?_ (hd:=datA);refine rT 35 H ?_;refine rT 36 H ?_;refine rT 37 H ?_;refine rT 38 H ?_;refine rT 39 H ?_;refine rT 40 H ?_;refine rT 41 H ?_;refine rT 42 H ?_;refine rT 43 H ?_;refine rT 44 H ?_;refine rT 45 H ?_;refine rT 46 H ?_;refine rT 47 H ?_;refine rT 48 H ?_;refine rT 49 H ?_;refine rT 50 H ?_;refine rT 51 H ?_;refine rT 52 H ?_;refine rT 53 H ?_;refine rT 54 H ?_;refine rT 55 H ?_;refine rT 56 H ?_;refine rT 57 H ?_ (hd:=datA);refine rT 58 H ?_;refine rT 59 H ?_;refine rT 60 H ?_;refine rT 61 H ?_;refine rT 62 H ?_ (hd:=datA);refine rT 63 H ?_;refine rT 64 H ?_;refine rT 65 H ?_;refine rE ?_
    go_wp2_with fail
    refine rB [] H ?_;clear H;intro w H;refine rT 0 H ?_;refine rT 1 H ?_;refine rT 2 H ?_;refine rT 3 H ?_;refine rT 4 H ?_ (hd:=datA);refine rT 5 H ?_;refine rT 6 H ?_;refine rT 7 H ?_;refine rT 8 H ?_;refine rT 9 H ?_ (hd:=datA);refine rT 10 H ?_;refine rC 11 (hc H) ?_;clear H;rintro e w ⟨rfl,H⟩;refine rX H ?_;refine rT 12 H ?_;refine rT 13 H ?_;refine rT 14 H ?_;refine rT 15 H ?_;refine rT 16 H ?_;refine rT 17 H ?_;refine rT 18 H ?_;refine rT 19 H ?_;refine rT 20 H ?_;refine rT 21 H ?_;refine rT 22 H ?_;refine rT 23 H ?_;refine rT 24 H ?_;refine rD 25 (hc2 H) ?_;clear H;rintro e w ⟨rfl,H⟩;refine rX H ?_;refine rT 26 H ?_;refine rT 27 H ?_;refine rE ?_
    go_wp2_with fail
    go_roundw
    case rel=>exact ⟨k+1,by omega,by go_num,H⟩
    case measure=>simp [intOf];omega
  ·obtain rfl:nf=k:=by omega
   go_wp2_with fail
   go_ret;exact ⟨rfl,H⟩
end
def z3d (p:Bool) (d e:FieldD):Bool:=y65 d.note e.note&&d.name==e.name&&d.ty.1==e.ty.1&&d.ty.2==e.ty.2&&(!p||d.line==e.line&&d.col==e.col)&&y2d (z0q p) d.args e.args&&y2d (z96 p) d.dirs e.dirs
section
variable {w0 w K : World} {M : List Ent}
theorem z6b (p:Bool) {l m:List FieldD} {A B:Option Addr} {c b:Nat} (hn:sumN y3c l≤9000000) (heq:y2d (z3d p) l m=true) (hd:RD K (.list l.length (l.flatMap y2y)) (.slice A l.length c)) (he:RD K (.list m.length (m.flatMap y2y)) (.slice B m.length b)) (H:Hp w0 w K M):
  Calls Tryz.prog 112 #[.slice A l.length c,.slice B m.length b,.bool p] w fun e w'=>e= .returned (.bool true)∧Hp w0 w' K M:=by
 obtain ⟨e6,E6⟩:=y28 heq;have hnf:=Qah (y0x y3h l) hn;have HF:=hide (show ∀x∈l,y3c x≤9000000 from fun x hx=>by obtain ⟨k,hk⟩:=Qaq hx;have:=y77 (f:=y3c) hk;omega);have HE6:=hide (show ∀(k:Nat) (x y:FieldD),l[k]?=some x→m[k]?=some y→(z3d p) x y=true from fun k x y=>E6);rw [←e6] at he ⊢;obtain ⟨nf,hnf2⟩: ∃x,l.length=x:=⟨_,rfl⟩;rw [hnf2] at hd he hnf e6 ⊢;have HNF:=hide hnf2;have HNG:=hide e6.symm;clear hnf2 e6 E6 heq hn;go_enter Tryz.func112,Tryz.ntmps112
 go_wp2_with fail
 go_loopw [7] (fun i wr=>∃k:Nat,k≤nf∧i= .int .i64 k∧Hp w0 wr K M) (fun i _=>nf - (intOf i).toNat)
 case atStart=>exact ⟨0,Qak _,rfl,H⟩
 case round=>
  clear H;obtain ⟨k,hk,rfl,H⟩:=hrel;by_cases hlt:k<nf
  ·obtain ⟨x,ad,us,hx,rfl,hxl,hat⟩:=el_k (m:=10) (f:=y2y) (fun _=>rfl) hd (by rw [HNF.out];exact hlt) (by decide);obtain ⟨y,bd,vs,hy,rfl,hyl,hbt⟩:=el_k (m:=10) (f:=y2y) (fun _=>rfl) he (by rw [HNG.out];exact hlt) (by decide);obtain ⟨hkI,hwr⟩:=wr_k hlt hnf;have hxn:=HF.out x (Qaf hx);have hxy:=HE6.out k x y hx hy
   cases p with
   |false=>
    obtain ⟨⟨nh,nb,nt⟩,dn,da,⟨tn,tw⟩,ds,dl,dc⟩:=x;obtain ⟨⟨yh,yb,yt⟩,en,ea,⟨un,uw⟩,es,el,ec⟩:=y;simp only [z3d,y65,Qao,Qa7] at hxy;obtain ⟨⟨⟨⟨⟨⟨⟨⟨rfl,rfl⟩,rfl⟩,rfl⟩,rfl⟩,rfl⟩,hpos⟩,hin⟩,hxy⟩:=hxy;simp only [y3c] at hxn;clear hpos;obtain ⟨hr0,rfl,h0⟩:=hxl.lit_inv;obtain ⟨hr1,rfl,h1⟩:=h0.lit_inv;obtain ⟨hr2,rfl,h2⟩:=h1.lit_inv;obtain ⟨hr3,rfl,h3⟩:=h2.lit_inv;obtain ⟨hA4,hc4,hr4,rfl,hd4,h4⟩:=h3.list_inv;obtain ⟨hr5,rfl,h5⟩:=h4.lit_inv;obtain ⟨hr6,rfl,h6⟩:=h5.lit_inv;obtain ⟨hA7,hc7,hr7,rfl,hd7,h7⟩:=h6.list_inv;obtain ⟨hr8,rfl,h8⟩:=h7.lit_inv;obtain ⟨hr9,rfl,h9⟩:=h8.lit_inv;obtain rfl:=h9.nil_inv;obtain ⟨kr0,rfl,k0⟩:=hyl.lit_inv;obtain ⟨kr1,rfl,k1⟩:=k0.lit_inv;obtain ⟨kr2,rfl,k2⟩:=k1.lit_inv;obtain ⟨kr3,rfl,k3⟩:=k2.lit_inv;obtain ⟨kA4,kc4,kr4,rfl,kd4,k4⟩:=k3.list_inv;obtain ⟨kr5,rfl,k5⟩:=k4.lit_inv;obtain ⟨kr6,rfl,k6⟩:=k5.lit_inv;obtain ⟨kA7,kc7,kr7,rfl,kd7,k7⟩:=k6.list_inv;obtain ⟨kr8,rfl,k8⟩:=k7.lit_inv;obtain ⟨kr9,rfl,k9⟩:=k8.lit_inv;obtain rfl:=k9.nil_inv;have hxy:=hide hxy;have hin2:=hide hin;have hc:=fun {w M} (h:Hp w0 w K M)=>y58 _ (by omega) hin2.out hd4 kd4 h;have hc2:=fun {w M} (h:Hp w0 w K M)=>y2p _ (by omega) hxy.out hd7 kd7 h;clear hin;clear hx hy
    go_wp2_with fail
    refine rB [] H ?_;clear H;intro w H;refine rT 0 H ?_;refine rT 1 H ?_;refine rT 2 H ?_;refine rT 3 H ?_;refine rT 4 H ?_ (hd:=datB);refine rT 5 H ?_;refine rT 6 H ?_;refine rT 7 H ?_;refine rT 8 H ?_;refine rT 9 H ?_ (hd:=datB);refine rT 10 H ?_;refine rT 11 H ?_;refine rT 12 H ?_;refine rT 13 H ?_;refine rT 14 H ?_;refine rT 15 H ?_;refine rT 16 H ?_;refine rT 17 H ?_;refine rT 18 H ?_;refine rT 19 H ?_;refine rT 20 H ?_;refine rT 21 H ?_;refine rT 22 H ?_;refine rT 23 H ?_;refine rT 24 H ?_;refine rT 25 H ?_;refine rT 26 H ?_;refine rT 27 H ?_;refine rT 28 H ?_;refine rT 29 H ?_ (hd:=datA);refine rT 30 H ?_;refine rT 31 H ?_;refine rT 32 H ?_;refine rT 33 H ?_;refine rT 34 H ?_ (hd:=datA);refine rT 35 H ?_;refine rT 36 H ?_;refine rT 37 H ?_;refine rT 38 H ?_;refine rT 39 H ?_;refine rU 40 H ?_;refine rU 41 H ?_;refine rU 42 H ?_;refine rU 43 H ?_;refine rU 44 H ?_;refine rU 45 H ?_;refine rU 46 H ?_;refine rU 47 H ?_;refine rU 48 H ?_;refine rU 49 H ?_;refine rU 50 H ?_;refine rT 51 H ?_;refine rT 52 H ?_;refine rE ?_
    go_wp2_with fail
    refine rB [] H ?_;clear H;intro w H;refine rT 0 H ?_;refine rT 1 H ?_;refine rT 2 H ?_;refine rT 3 H ?_;refine rT 4 H ?_;refine rT 5 H ?_;refine rT 6 H ?_;refine rT 7 H ?_;refine rT 8 H ?_;refine rT 9 H ?_;refine rT 10 H ?_;refine rC 11 (hc H) ?_;clear H;rintro e w ⟨rfl,H⟩;refine rX H ?_;refine rT 12 H ?_;refine rT 13 H ?_;refine rT 14 H ?_;refine rT 15 H ?_;refine rT 16 H ?_;refine rT 17 H ?_;refine rT 18 H ?_;refine rT 19 H ?_;refine rT 20 H ?_;refine rT 21 H ?_;refine rT 22 H ?_;refine rT 23 H ?_;refine rT 24 H ?_;refine rD 25 (hc2 H) ?_;clear H;rintro e w ⟨rfl,H⟩;refine rX H ?_;refine rT 26 H ?_;refine rT 27 H ?_;refine rE ?_
    go_wp2_with fail
    go_roundw
    case rel=>exact ⟨k+1,by omega,by go_num,H⟩
    case measure=>simp [intOf];omega
   |true=>
    obtain ⟨⟨nh,nb,nt⟩,dn,da,⟨tn,tw⟩,ds,dl,dc⟩:=x;obtain ⟨⟨yh,yb,yt⟩,en,ea,⟨un,uw⟩,es,el,ec⟩:=y;simp only [z3d,y65,Qao,Qa7] at hxy;obtain ⟨⟨⟨⟨⟨⟨⟨⟨rfl,rfl⟩,rfl⟩,rfl⟩,rfl⟩,rfl⟩,hpos⟩,hin⟩,hxy⟩:=hxy;simp only [y3c] at hxn;simp only [Bool.not_true,Bool.false_or,Qao,Qa7] at hpos;obtain ⟨rfl,rfl⟩:=hpos;obtain ⟨hr0,rfl,h0⟩:=hxl.lit_inv;obtain ⟨hr1,rfl,h1⟩:=h0.lit_inv;obtain ⟨hr2,rfl,h2⟩:=h1.lit_inv;obtain ⟨hr3,rfl,h3⟩:=h2.lit_inv;obtain ⟨hA4,hc4,hr4,rfl,hd4,h4⟩:=h3.list_inv;obtain ⟨hr5,rfl,h5⟩:=h4.lit_inv;obtain ⟨hr6,rfl,h6⟩:=h5.lit_inv;obtain ⟨hA7,hc7,hr7,rfl,hd7,h7⟩:=h6.list_inv;obtain ⟨hr8,rfl,h8⟩:=h7.lit_inv;obtain ⟨hr9,rfl,h9⟩:=h8.lit_inv;obtain rfl:=h9.nil_inv;obtain ⟨kr0,rfl,k0⟩:=hyl.lit_inv;obtain ⟨kr1,rfl,k1⟩:=k0.lit_inv;obtain ⟨kr2,rfl,k2⟩:=k1.lit_inv;obtain ⟨kr3,rfl,k3⟩:=k2.lit_inv;obtain ⟨kA4,kc4,kr4,rfl,kd4,k4⟩:=k3.list_inv;obtain ⟨kr5,rfl,k5⟩:=k4.lit_inv;obtain ⟨kr6,rfl,k6⟩:=k5.lit_inv;obtain ⟨kA7,kc7,kr7,rfl,kd7,k7⟩:=k6.list_inv;obtain ⟨kr8,rfl,k8⟩:=k7.lit_inv;obtain ⟨kr9,rfl,k9⟩:=k8.lit_inv;obtain rfl:=k9.nil_inv;have hxy:=hide hxy;have hin2:=hide hin;have hc:=fun {w M} (h:Hp w0 w K M)=>y58 _ (by omega) hin2.out hd4 kd4 h;have hc2:=fun {w M} (h:Hp w0 w K M)=>y2p _ (by omega) hxy.out hd7 kd7 h;clear hin;clear hx hy
    go_wp2_with fail
    refine rB [] H ?_;clear H;intro w H;refine rT 0 H ?_;refine rT 1 H ?_;refine rT 2 H ?_;refine rT 3 H ?_;refine rT 4 H ?_ (hd:=datB);refine rT 5 H ?_;refine rT 6 H ?_;refine rT 7 H ?_;refine rT 8 H ?_;refine rT 9 H ?_ (hd:=datB);refine rT 10 H ?_;refine rT 11 H ?_;refine rT 12 H ?_;refine rT 13 H ?_;refine rT 14 H ?_;refine rT 15 H ?_;refine rT 16 H ?_;refine rT 17 H ?_;refine rT 18 H ?_;refine rT 19 H ?_;refine rT 20 H ?_;refine rT 21 H ?_;refine rT 22 H ?_;refine rT 23 H ?_;refine rT 24 H ?_;refine rT 25 H ?_;refine rT 26 H ?_;refine rT 27 H ?_;refine rT 28 H ?_;refine rT 29 H ?_ (hd:=datA);refine rT 30 H ?_;refine rT 31 H ?_;refine rT 32 H ?_;refine rT 33 H ?_;refine rT 34 H ?_ (hd:=datA);refine rT 35 H ?_;refine rT 36 H ?_;refine rT 37 H ?_;refine rT 38 H ?_;refine rT 39 H ?_;refine rT 40 H ?_;refine rT 41 H ?_;refine rT 42 H ?_;refine rT 43 H ?_;refine rT 44 H ?_ (hd:=datA);refine rT 45 H ?_;refine rT 46 H ?_;refine rT 47 H ?_;refine rT 48 H ?_;refine rT 49 H ?_ (hd:=datA);refine rT 50 H ?_;refine rT 51 H ?_;refine rT 52 H ?_;refine rE ?_
    go_wp2_with fail
    refine rB [] H ?_;clear H;intro w H;refine rT 0 H ?_;refine rT 1 H ?_;refine rT 2 H ?_;refine rT 3 H ?_;refine rT 4 H ?_;refine rT 5 H ?_;refine rT 6 H ?_;refine rT 7 H ?_;refine rT 8 H ?_;refine rT 9 H ?_;refine rT 10 H ?_;refine rC 11 (hc H) ?_;clear H;rintro e w ⟨rfl,H⟩;refine rX H ?_;refine rT 12 H ?_;refine rT 13 H ?_;refine rT 14 H ?_;refine rT 15 H ?_;refine rT 16 H ?_;refine rT 17 H ?_;refine rT 18 H ?_;refine rT 19 H ?_;refine rT 20 H ?_;refine rT 21 H ?_;refine rT 22 H ?_;refine rT 23 H ?_;refine rT 24 H ?_;refine rD 25 (hc2 H) ?_;clear H;rintro e w ⟨rfl,H⟩;refine rX H ?_;refine rT 26 H ?_;refine rT 27 H ?_;refine rE ?_
    go_wp2_with fail
    go_roundw
    case rel=>exact ⟨k+1,by omega,by go_num,H⟩
    case measure=>simp [intOf];omega
  ·obtain rfl:nf=k:=by omega
   go_wp2_with fail
   go_ret;exact ⟨rfl,H⟩
end
def z0r (p:Bool) (d e:DefD):Bool:=d.kind==e.kind&&d.ext==e.ext&&y65 d.note e.note&&d.name==e.name&&d.rep==e.rep&&(!p||d.line==e.line&&d.col==e.col)&&
 (y2d (y8z p) d.ifaces e.ifaces&&y2d (y8z p) d.members e.members&&y2d (y8z p) d.places e.places&&y2d (z3d p) d.fields e.fields&&y2d (z0q p) d.inputs e.inputs&&y2d (z3c p) d.values e.values&&y2d (z8f p) d.roots e.roots&&y2d (z96 p) d.dirs e.dirs)
section
variable {w0 w K : World} {M : List Ent}
theorem x4r (p:Bool) {d e:DefD} {cs es:Array Value} (hn:defN d≤9000000) (heq:z0r p d e=true) (hd:RL K (defL d) cs.toList) (he:RL K (defL e) es.toList) (H:Hp w0 w K M):
  Calls Tryz.prog 66 #[.agg cs,.agg es,.bool p] w fun e w'=>e= .returned (.bool true)∧Hp w0 w' K M:=by
 obtain ⟨kind,ext,⟨nh,nb,nt⟩,name,ifaces,dirs,fields,inputs,members,values,roots,rep,places,line,col⟩:=d;obtain ⟨kind2,ext2,⟨nh2,nb2,nt2⟩,name2,ifaces2,dirs2,fields2,inputs2,members2,values2,roots2,rep2,places2,line2,col2⟩:=e;simp only [z0r,y65,Qao,Qa7] at heq;obtain ⟨⟨⟨⟨⟨⟨rfl,rfl⟩,⟨rfl,rfl⟩,rfl⟩,rfl⟩,rfl⟩,hpos⟩,⟨⟨⟨⟨⟨⟨e6,e10⟩,e14⟩,e8⟩,e9⟩,e11⟩,e12⟩,e7⟩:=heq;obtain ⟨A6,c6,A7,c7,A8,c8,A9,c9,A10,c10,A11,c11,A12,c12,A14,c14,hcs,d6,d7,d8,d9,d10,d11,d12,d14⟩:=y0c hd;obtain rfl:cs= #[_,_,_,_,_,_,_,_,_,_,_,_,_,_,_,_,_]:=Qal.1 hcs;obtain ⟨B6,b6,B7,b7,B8,b8,B9,b9,B10,b10,B11,b11,B12,b12,B14,b14,hes,f6,f7,f8,f9,f10,f11,f12,f14⟩:=y0c he;obtain rfl:es= #[_,_,_,_,_,_,_,_,_,_,_,_,_,_,_,_,_]:=Qal.1 hes;simp only [defN] at hn;dsimp only at d6 d7 d8 d9 d10 d11 d12 d14 f6 f7 f8 f9 f10 f11 f12 f14 hpos ⊢;have hc6:=fun {w M} (h:Hp w0 w K M)=>y64 p (by omega) e6 d6 f6 h;have hc10:=fun {w M} (h:Hp w0 w K M)=>y64 p (by omega) e10 d10 f10 h;have hc14:=fun {w M} (h:Hp w0 w K M)=>y64 p (by omega) e14 d14 f14 h;have hc8:=fun {w M} (h:Hp w0 w K M)=>z6b p (by omega) e8 d8 f8 h;have hc9:=fun {w M} (h:Hp w0 w K M)=>y58 p (by omega) e9 d9 f9 h;have hc11:=fun {w M} (h:Hp w0 w K M)=>z6a p (by omega) e11 d11 f11 h;have hc12:=fun {w M} (h:Hp w0 w K M)=>z8g p (by omega) e12 d12 f12 h;have hc7:=fun {w M} (h:Hp w0 w K M)=>y2p p (by omega) e7 d7 f7 h;clear hcs hes hd he hn e6 e7 e8 e9 e10 e11 e12 e14 d6 d7 d8 d9 d10 d11 d12 d14 f6 f7 f8 f9 f10 f11 f12 f14
 cases p with
 |false=>
  clear hpos;go_enter Tryz.func66,Tryz.ntmps66
  go_wp2_with (first|(refine oL H ?_)|(refine oP H ?_;clear H;intro w _ H)|((with_reducible refine (hc6 H).mono ?_);clear H;rintro e w ⟨rfl,H⟩)|((with_reducible refine (hc10 H).mono ?_);clear H;rintro e w ⟨rfl,H⟩)|((with_reducible refine (hc14 H).mono ?_);clear H;rintro e w ⟨rfl,H⟩)|((with_reducible refine (hc8 H).mono ?_);clear H;rintro e w ⟨rfl,H⟩)|((with_reducible refine (hc9 H).mono ?_);clear H;rintro e w ⟨rfl,H⟩)|((with_reducible refine (hc11 H).mono ?_);clear H;rintro e w ⟨rfl,H⟩)|((with_reducible refine (hc12 H).mono ?_);clear H;rintro e w ⟨rfl,H⟩)|((with_reducible refine (hc7 H).mono ?_);clear H;rintro e w ⟨rfl,H⟩))
  go_ret;exact ⟨rfl,H.fin⟩
 |true=>
  simp only [Bool.not_true,Bool.false_or,Qao,Qa7] at hpos;obtain ⟨rfl,rfl⟩:=hpos;go_enter Tryz.func66,Tryz.ntmps66
  go_wp2_with (first|(refine oL H ?_)|(refine oP H ?_;clear H;intro w _ H)|((with_reducible refine (hc6 H).mono ?_);clear H;rintro e w ⟨rfl,H⟩)|((with_reducible refine (hc10 H).mono ?_);clear H;rintro e w ⟨rfl,H⟩)|((with_reducible refine (hc14 H).mono ?_);clear H;rintro e w ⟨rfl,H⟩)|((with_reducible refine (hc8 H).mono ?_);clear H;rintro e w ⟨rfl,H⟩)|((with_reducible refine (hc9 H).mono ?_);clear H;rintro e w ⟨rfl,H⟩)|((with_reducible refine (hc11 H).mono ?_);clear H;rintro e w ⟨rfl,H⟩)|((with_reducible refine (hc12 H).mono ?_);clear H;rintro e w ⟨rfl,H⟩)|((with_reducible refine (hc7 H).mono ?_);clear H;rintro e w ⟨rfl,H⟩))
  go_ret;exact ⟨rfl,H.fin⟩
theorem z3e (p:Bool) {l m:List DefD} {A B:Option Addr} {c b:Nat} (hn:y0k l≤9000000) (heq:y2d (z0r p) l m=true) (hd:RD K (.list l.length (y0s l)) (.slice A l.length c)) (he:RD K (.list m.length (y0s m)) (.slice B m.length b)) (H:Hp w0 w K M):
  Calls Tryz.prog 20 #[.slice A l.length c,.slice B m.length b,.bool p] w fun e w'=>e= .returned (.bool true)∧Hp w0 w' K M:=by
 obtain ⟨e6,E6⟩:=y28 heq;have hnf:=Qah (y0x (f:=defN) (fun d=>Nat.succ_pos _) l) hn;have HF:=hide (show ∀x∈l,defN x≤9000000 from fun x hx=>by obtain ⟨k,hk⟩:=Qaq hx;have:=y77 (f:=defN) hk;unfold y0k at hn;omega);have HE6:=hide (show ∀(k:Nat) (x y:DefD),l[k]?=some x→m[k]?=some y→(z0r p) x y=true from fun k x y=>E6);rw [←e6] at he ⊢;obtain ⟨nf,hnf2⟩: ∃x,l.length=x:=⟨_,rfl⟩;rw [hnf2] at hd he hnf e6 ⊢;have HNF:=hide hnf2;have HNG:=hide e6.symm;clear hnf2 e6 E6 heq hn;go_enter Tryz.func20,Tryz.ntmps20
 go_wp2_with fail
 go_loopw [7] (fun i wr=>∃k:Nat,k≤nf∧i= .int .i64 k∧Hp w0 wr K M) (fun i _=>nf - (intOf i).toNat)
 case atStart=>exact ⟨0,Qak _,rfl,H⟩
 case round=>
  clear H;obtain ⟨k,hk,rfl,H⟩:=hrel;by_cases hlt:k<nf
  ·obtain ⟨x,ad,us,hx,rfl,hxl,hat⟩:=el_k (m:=17) (f:=defL) y05 hd (by rw [HNF.out];exact hlt) (by decide);obtain ⟨y,bd,vs,hy,rfl,hyl,hbt⟩:=el_k (m:=17) (f:=defL) y05 he (by rw [HNG.out];exact hlt) (by decide);obtain ⟨hkI,hwr⟩:=wr_k hlt hnf;have hxn:=HF.out x (Qaf hx);have hxy:=HE6.out k x y hx hy;obtain ⟨A6,c6,A7,c7,A8,c8,A9,c9,A10,c10,A11,c11,A12,c12,A14,c14,hcs,-⟩:=y0c hxl;subst hcs;obtain ⟨B6,b6,B7,b7,B8,b8,B9,b9,B10,b10,B11,b11,B12,b12,B14,b14,hes,-⟩:=y0c hyl;subst hes;have hc:=fun {w M} (h:Hp w0 w K M)=>x4r (w0:=w0) (w:=w) (M:=M) p (cs:= #[_,_,_,_,_,_,_,_,_,_,_,_,_,_,_,_,_]) (es:= #[_,_,_,_,_,_,_,_,_,_,_,_,_,_,_,_,_]) hxn hxy hxl hyl h;clear hx hy
   go_wp2_with fail
   refine rB [] H ?_;clear H;intro w H;refine rT 0 H ?_;refine rT 1 H ?_;refine rT 2 H ?_;refine rT 3 H ?_;refine rT 4 H ?_;refine rT 5 H ?_;refine rT 6 H ?_;refine rT 7 H ?_;refine rT 8 H ?_;refine rC 9 (hc H) ?_;clear H;rintro e w ⟨rfl,H⟩;refine rX H ?_;refine rT 10 H ?_;refine rE ?_
   go_wp2_with fail
   go_roundw
   case rel=>exact ⟨k+1,by omega,by go_num,H⟩
   case measure=>simp [intOf];omega
  ·obtain rfl:nf=k:=by omega
   go_wp2_with fail
   go_ret;exact ⟨rfl,H⟩
theorem x1y (d:DefD) {cs:Array Value} (hd:RL K (defL d) cs.toList) (H:Hp w0 w K M):
  Calls Tryz.prog 21 #[.agg cs] w fun e w'=>∃K' g,e= .returned (.slice (some ⟨g,0,none⟩) 1 1)∧Sat K' K∧Hp w0 w' K' M∧RD K' (.list [d].length (y0s [d])) (.slice (some ⟨g,0,none⟩) 1 1):=by
 obtain ⟨A6,c6,A7,c7,A8,c8,A9,c9,A10,c10,A11,c11,A12,c12,A14,c14,hcs,-⟩:=y0c hd;obtain rfl:cs= #[_,_,_,_,_,_,_,_,_,_,_,_,_,_,_,_,_]:=Qal.1 hcs;clear hcs;go_enter Tryz.func21,Tryz.ntmps21
 go_wp2_with (first|(refine oL H ?_)|(refine oA 4 H ?_;clear H;intro w g H)|(refine oP H ?_;clear H;intro w _ H))
 replace H:Hp _ _ _ (.box g _ _::M):=H.fin;obtain ⟨K',hle,H,hq⟩:=H.freezeBox (n:=1) (ls:=y0s [d]) (show RL _ ([d].flatMap defL) _ by rw [List.flatMap_singleton];exact hd) (by simp [maxLen]);go_ret;exact ⟨K',g,rfl,hle,H,hq⟩
theorem q7c (a b:Txt):((str a).toList==(str b).toList)=decide (a=b):=by rw [z4z,z4z];by_cases h:a=b<;>simp [h]
theorem y9u {l:List Txt} {A:Option Addr} {n c:Nat} (x:Txt) (hl:l.length=n) (hn:n≤9000000) (hd:RD K (.list n (l.flatMap fun x=>[str' x])) (.slice A n c)) (H:Hp w0 w K M):
  Calls Tryz.prog 23 #[.slice A n c,.string (str x)] w fun e w'=>e= .returned (.bool (decide (x∈l)))∧w'=w:=by
 obtain ⟨r,hr⟩: ∃r,decide (x∈l)=r:=⟨_,rfl⟩;rw [hr];have HN:=hide hl;have HR:=hide hr;clear hl hr;go_enter Tryz.func23,Tryz.ntmps23
 go_wp2_with fail
 go_loopw [9] (fun i wr=>∃k:Nat,k≤n∧i= .int .i64 k∧Hid (x∉l.take k)∧wr=w) (fun i _=>n - (intOf i).toNat)
 case atStart=>exact ⟨0,Qak _,rfl,(by show _∉_;simp),rfl⟩
 case round=>
  obtain ⟨k,hk,rfl,hno,rfl⟩:=hrel;by_cases hlt:k<n
  ·have hkI:(k:Int)<(n:Int):=by omega
   obtain ⟨y,hy⟩: ∃y,l[k]?=some y:=⟨_,Qad (by rw [HN.out];exact hlt)⟩;obtain ⟨ad,vs,h1,h2,_,_,h5,_⟩:=y43 (m:=1) (f:=fun x=>[str' x]) (fun _=>rfl) hd hy (by omega);obtain ⟨r0,rfl,h0⟩:=h2.lit_inv;obtain rfl:=h0.nil_inv;subst h1;have hc:=H.sat.cell (h5 _ rfl);rw [Nat.mul_one] at hc;have htk:=y1j hy;clear h2 h0 h5;by_cases he:y=x
   ·have e1:((str y).toList==(str x).toList)=true:=by rw [q7c];exact Qa5 he
    obtain rfl:r=true:=by rw [←HR.out];exact Qa5 (he▸Qaf hy)
    clear he hy htk
    go_wp2_with fail
    go_ret;exact ⟨rfl,rfl⟩
   ·have e1:((str y).toList==(str x).toList)=false:=by rw [q7c];exact Qa4 he
    have HNX:Hid (x∉l.take (k+1)):=by
     show _∉_
     rw [htk];intro hm;rcases Qbf.1 hm with hm|hm
     ·exact hno.out hm
     ·exact he (Qax.1 hm).symm
    clear he hy htk hno
    go_wp2_with fail
    go_roundw
    case rel=>exact ⟨k+1,by omega,by go_num,HNX,trivial⟩
    case measure=>simp [intOf];omega
  ·obtain rfl:n=k:=by omega
   have hno:=hno.out;rw [Qaj (by rw [HN.out];exact Qab _)] at hno
   obtain rfl:r=false:=by rw [←HR.out];exact Qa4 hno
   clear hno
   go_wp2_with fail
   go_ret;exact ⟨rfl,rfl⟩
end
end Go.Proofs.YtbpgkkoeehopjaaGreat.hp
namespace Go.Proofs.YtbpgkkoeehopjaaGreat.ty
open Go.RowKit lex gram rd tree dat hp
def y66 (t:Txt) (d:DefD):Bool:=(d.kind==3)&&d.ifaces.any fun n=>decide (n.name=t)
def addN (l:List Txt) (x:Txt):List Txt:=if x∈l then l else l++[x]
def y6e (ts:List DefD) (t:Txt):Option DefD:=(y1u ts t).bind fun i=>ts[i]?
def memO (ts:List DefD) (ms:List NamedD):List Txt:=ms.foldl (fun l m=>if y0e ts m.name=3 then addN l m.name else l) []
def posL (ts:List DefD) (t:Txt):List Txt:=
 if y0e ts t=3 then [t]
 else if y0e ts t=4 then (ts.filter (y66 t)).map (·.name)
 else if y0e ts t=5 then memO ts (((y6e ts t).map (·.members)).getD [])
 else []
def memS (ts:List DefD) (ms:List NamedD) (s:List (Txt×Value)):List (Txt×Value):=ms.zipIdx.foldl (fun s q=>if y0e ts q.1.name=3 then y1e s q.1.name q.2 else s) s
def setL (ts:List DefD) (t:Txt):List (Txt×Value):=
 if y0e ts t=3 then [(t,.int .i64 (((y1u ts t).getD 0:Nat):Int))]
 else if y0e ts t=4 then (ts.zipIdx.filter fun p=>y66 t p.1).map fun p=>(p.1.name,.int .i64 ((p.2:Nat):Int))
 else if y0e ts t=5 then memS ts (((y6e ts t).map (·.members)).getD []) []
 else []
theorem y7t (x:Txt) (n:Nat) (t t':Txt): ∀om:OMap,y1g (addO om t' x n) t=if t'=t then y1e (y1g om t) x n else y1g om t
 |[]=>by
  by_cases h:t'=t
  ·subst h;simp [addO,y1g,y1e,y0r]
  ·simp [addO,y1g,h]
 |p::r=>by
  have ih:=y7t x n t t' r;unfold addO;by_cases hp:p.1=t'
  ·rw [if_pos hp];by_cases h:t'=t
   ·subst h;rw [if_pos rfl];simp [y1g,hp]
   ·rw [if_neg h];have hpt: ¬p.1=t:=fun e=>h (hp▸e);simp [y1g,h,hpt]
  ·rw [if_neg hp];by_cases h:p.1=t
   ·have h': ¬t'=t:=fun e=>hp (h.trans e.symm);rw [if_neg h'];simp [y1g,h]
   ·have e1:y1g (p::addO r t' x n) t=y1g (addO r t' x n) t:=by simp [y1g,h]
    have e2:y1g (p::r) t=y1g r t:=by simp [y1g,h]
    rw [e1,e2,ih]
def stp (ts:List DefD) (t:Txt) (s:List (Txt×Value)) (p:DefD×Nat):List (Txt×Value):=
 if p.1.kind=3 then p.1.ifaces.foldl (fun s n=>if y0e ts n.name=4∧n.name=t then y1e s p.1.name p.2 else s) (if p.1.name=t then y1e s p.1.name p.2 else s)
 else if p.1.kind=5 then p.1.members.zipIdx.foldl (fun s q=>if y0e ts q.1.name=3∧p.1.name=t then y1e s q.1.name q.2 else s) s
 else s
theorem y4z {α β γ:Type} (g:β→γ) {f:β→α→β} {f':γ→α→γ} (h: ∀b a,g (f b a)=f' (g b) a): ∀(l:List α) (b:β),g (l.foldl f b)=l.foldl f' (g b)
 |[],b=>rfl
 |a::r,b=>by rw [List.foldl_cons,List.foldl_cons,y4z g h r,h]
theorem x4s (ts:List DefD) (t:Txt) (m:OMap) (p:DefD×Nat):y1g (y33 ts m p) t=stp ts t (y1g m t) p:=by
 unfold y33 stp;split
 ·rw [y4z (fun m=>y1g m t) (f':=fun s (n:NamedD)=>if y0e ts n.name=4∧n.name=t then y1e s p.1.name p.2 else s),y7t];intro b a;split
  ·rename_i h;rw [y7t];by_cases h2:a.name=t
   ·rw [if_pos h2,if_pos ⟨h,h2⟩]
   ·rw [if_neg h2,if_neg (fun h=>h2 h.2)]
  ·rename_i h;rw [if_neg (fun h2=>h h2.1)]
 ·split
  ·rw [y4z (fun m=>y1g m t) (f':=fun s (q:NamedD×Nat)=>if y0e ts q.1.name=3∧p.1.name=t then y1e s q.1.name q.2 else s)];intro b a;split
   ·rename_i h;rw [y7t];by_cases h2:p.1.name=t
    ·rw [if_pos h2,if_pos ⟨h,h2⟩]
    ·rw [if_neg h2,if_neg (fun h=>h2 h.2)]
   ·rename_i h;rw [if_neg (fun h2=>h h2.1)]
  ·rfl
theorem x4t (ts:List DefD) (t:Txt):y1g (y1z ts) t=ts.zipIdx.foldl (stp ts t) []:=by
 unfold y1z;rw [y4z (fun m=>y1g m t) (f':=stp ts t) (fun b a=>x4s ts t b a)];rfl
theorem z8h (s:List (Txt×Value)) (x:Txt) (n:Nat):y1e (y1e s x n) x n=y1e s x n:=by
 by_cases h:(y0r s x).isSome=true
 ·have e:y1e s x n=s:=by unfold y1e;rw [if_pos h]
  rw [e,e]
 ·have e:y1e s x n=s++[(x,.int .i64 (n:Int))]:=by unfold y1e;rw [if_neg h]
  have h2:(y0r (s++[(x,.int .i64 (n:Int))]) x).isSome=true:=by
   unfold y0r;rw [List.find?_append]
   cases hq:s.find? (fun p=>decide (p.1=x))<;>simp
  rw [e];unfold y1e;rw [if_pos h2]
theorem x1z {α:Type} (s0:List (Txt×Value)) (x:Txt) (n:Nat) (p:α→Prop) [DecidablePred p]: ∀(l:List α) (s:List (Txt×Value)),l.foldl (fun s a=>if p a then y1e s x n else s) s=if l.any (fun a=>decide (p a))=true then y1e s x n else s
 |[],s=>by simp
 |a::r,s=>by
  rw [List.foldl_cons,x1z s0 x n p r,List.any_cons];by_cases h:p a
  ·rw [if_pos h,Qa5 h,Bool.true_or,if_pos rfl,z8h]
   split<;>rfl
  ·rw [if_neg h,Qa4 h,Bool.false_or]
theorem z97 {α β:Type} (f:β→α→β) (h: ∀b a,f b a=b): ∀(l:List α) (b:β),l.foldl f b=b
 |[],b=>rfl
 |a::r,b=>by rw [List.foldl_cons,h,z97 f h r]
theorem x15 {ts:List DefD} (hn:(y0a ts).Nodup) {i:Nat} {d:DefD} (hd:ts[i]?=some d) (t:Txt) (s:List (Txt×Value)):stp ts t s (d,i)=
  if y0e ts t=3 then (if d.name=t then y1e s t i else s)
  else if y0e ts t=4 then (if y66 t d=true then y1e s d.name i else s)
  else if y0e ts t=5 then (if d.name=t then memS ts d.members s else s)
  else s:=by
 have hk:=z7h hn hd
 have hkt:d.name=t→y0e ts t=d.kind:=fun e=>by rw [←e];exact hk
 unfold stp;dsimp only;by_cases h3:d.kind=3
 ·rw [if_pos h3];by_cases k4:y0e ts t=4
  ·have hne: ¬d.name=t:=fun e=>by have:=hkt e;omega
   rw [if_neg (by omega: ¬y0e ts t=3),if_pos k4,if_neg hne,x1z []]
   have:(d.ifaces.any fun a=>decide (y0e ts a.name=4∧a.name=t))=y66 t d:=by
    unfold y66;rw [h3];simp only [beq_self_eq_true,Bool.true_and]
    congr 1
    funext a
    by_cases e:a.name=t
    ·rw [e];simp [k4]
    ·simp [e]
   rw [this]
  ·rw [z97 _ (fun b a=>by rw [if_neg];rintro ⟨h1,h2⟩;rw [h2] at h1;exact k4 h1)];by_cases k3:y0e ts t=3
   ·rw [if_pos k3];by_cases e:d.name=t
    ·rw [if_pos e,if_pos e,e]
    ·rw [if_neg e,if_neg e]
   ·have hne: ¬d.name=t:=fun e=>by have:=hkt e;omega
    rw [if_neg k3,if_neg k4,if_neg hne,if_neg hne]
    split<;>rfl
 ·rw [if_neg h3]
  have hi:y66 t d=false:=by unfold y66;simp [h3]
  by_cases h5:d.kind=5
  ·rw [if_pos h5];by_cases e:d.name=t
   ·have k5:=hkt e;rw [if_neg (by omega),if_neg (by omega),if_pos (by omega),if_pos e];unfold memS
    congr 1
    funext s q
    by_cases hq:y0e ts q.1.name=3
    ·rw [if_pos ⟨hq,e⟩,if_pos hq]
    ·rw [if_neg (fun h=>hq h.1),if_neg hq]
   ·rw [z97 _ (fun b a=>by rw [if_neg (fun h=>e h.2)]),hi];simp [e]
  ·rw [if_neg h5,hi];by_cases e:d.name=t
   ·have:=hkt e
    have k3: ¬y0e ts t=3:=by omega
    have k5: ¬y0e ts t=5:=by omega
    rw [if_neg k3,if_neg k5];simp
   ·simp [e]
theorem z6c {ts:List DefD} (hn:(y0a ts).Nodup) {i j:Nat} {d e:DefD} (hd:ts[i]?=some d) (he:ts[j]?=some e) (h:d.name=e.name):i=j:=by
 have h1:=y7o hn hd;have h2:=y7o hn he;rw [h,h2] at h1;injection h1 with h1;exact h1.symm
theorem x16 {ts:List DefD} (hn:(y0a ts).Nodup) (t:Txt):y1g (y1z ts) t=setL ts t:=by
 rw [x4t];have hstep: ∀k d,ts[k]?=some d→(ts.take (k+1)).zipIdx.foldl (stp ts t) []=stp ts t ((ts.take k).zipIdx.foldl (stp ts t) []) (d,k):=fun k d h=>y23 h _ _
 have hall:ts.zipIdx.foldl (stp ts t) []=(ts.take ts.length).zipIdx.foldl (stp ts t) []:=by rw [List.take_length]
 rw [hall];have hget: ∀k,k<ts.length→ ∃d,ts[k]?=some d:=fun k hk=>⟨_,Qad hk⟩;unfold setL;by_cases k3:y0e ts t=3
 ·rw [if_pos k3]
  obtain ⟨i0,hi0⟩: ∃i0,y1u ts t=some i0:=by
   cases h:y1u ts t with
   |none=>have:=y4p h;omega
   |some i=>exact ⟨i,rfl⟩
  obtain ⟨d0,hd0,e0⟩:=y1o hi0
  have key: ∀k,k≤ts.length→(ts.take k).zipIdx.foldl (stp ts t) []=if i0<k then [(t,.int .i64 ((i0:Nat):Int))] else []:=by
   intro k
   induction k with
   |zero=>intro _;rw [List.take_zero,if_neg (by omega)];rfl
   |succ k ih=>
    intro hk;obtain ⟨d,hd⟩:=hget k (by omega);rw [hstep k d hd,ih (by omega),x15 hn hd,if_pos k3];by_cases e:d.name=t
    ·have:k=i0:=z6c hn hd hd0 (e.trans e0.symm);subst this;rw [if_pos e,if_neg (by omega),if_pos (by omega)];rfl
    ·have:k≠i0:=fun h=>e (by subst h;rw [hd] at hd0;injection hd0 with hd0;rw [hd0];exact e0);rw [if_neg e];by_cases hlt:i0<k
     ·rw [if_pos hlt,if_pos (by omega)]
     ·rw [if_neg hlt,if_neg (by omega)]
  rw [key _ (Qab _),if_pos (Qac.1 hd0).1,hi0];rfl
 ·rw [if_neg k3];by_cases k4:y0e ts t=4
  ·rw [if_pos k4]
   have key: ∀k,k≤ts.length→(ts.take k).zipIdx.foldl (stp ts t) []=((ts.take k).zipIdx.filter fun p=>y66 t p.1).map fun p=>(p.1.name,.int .i64 ((p.2:Nat):Int)):=by
    intro k
    induction k with
    |zero=>intro _;rfl
    |succ k ih=>
     intro hk;obtain ⟨d,hd⟩:=hget k (by omega);rw [hstep k d hd,ih (by omega),x15 hn hd,if_neg k3,if_pos k4,x09 hd,List.filter_append];by_cases h:y66 t d=true
     ·rw [if_pos h]
      have hno:y0r (((ts.take k).zipIdx.filter fun p=>y66 t p.1).map fun p=>((p.1.name,.int .i64 ((p.2:Nat):Int)):Txt×Value)) d.name=none:=by
       unfold y0r;rw [Option.map_eq_none_iff,List.find?_eq_none];intro q hq;obtain ⟨p,hp,rfl⟩:=Qbe.1 hq;have hp1:=y7n (List.mem_filter.1 hp).1;rw [Qbb] at hp1;split at hp1
       ·rename_i hlt;simp only [decide_eq_true_eq];intro e;have:=z6c hn hp1 hd e;omega
       ·cases hp1
      unfold y1e;rw [hno];simp [h]
     ·rw [if_neg h];simp [h]
   rw [key _ (Qab _),List.take_length]
  ·rw [if_neg k4];by_cases k5:y0e ts t=5
   ·rw [if_pos k5]
    obtain ⟨i0,hi0⟩: ∃i0,y1u ts t=some i0:=by
     cases h:y1u ts t with
     |none=>have:=y4p h;omega
     |some i=>exact ⟨i,rfl⟩
    obtain ⟨d0,hd0,e0⟩:=y1o hi0
    have key: ∀k,k≤ts.length→(ts.take k).zipIdx.foldl (stp ts t) []=if i0<k then memS ts d0.members [] else []:=by
     intro k
     induction k with
     |zero=>intro _;rw [List.take_zero,if_neg (by omega)];rfl
     |succ k ih=>
      intro hk;obtain ⟨d,hd⟩:=hget k (by omega);rw [hstep k d hd,ih (by omega),x15 hn hd,if_neg k3,if_neg k4,if_pos k5];by_cases e:d.name=t
      ·have:k=i0:=z6c hn hd hd0 (e.trans e0.symm);subst this;rw [hd] at hd0;injection hd0 with hd0;subst hd0;rw [if_pos e,if_neg (by omega),if_pos (by omega)]
      ·have:k≠i0:=fun h=>e (by subst h;rw [hd] at hd0;injection hd0 with hd0;rw [hd0];exact e0);rw [if_neg e];by_cases hlt:i0<k
       ·rw [if_pos hlt,if_pos (by omega)]
       ·rw [if_neg hlt,if_neg (by omega)]
    rw [key _ (Qab _),if_pos (Qac.1 hd0).1];unfold y6e;rw [hi0];simp [hd0]
   ·rw [if_neg k5]
    have key: ∀k,k≤ts.length→(ts.take k).zipIdx.foldl (stp ts t) []=[]:=by
     intro k
     induction k with
     |zero=>intro _;rfl
     |succ k ih=>
      intro hk;obtain ⟨d,hd⟩:=hget k (by omega);rw [hstep k d hd,ih (by omega),x15 hn hd,if_neg k3,if_neg k4,if_neg k5]
    exact key _ (Qab _)
def q4n (s:List (Txt×Value)):Prop:=∃ns:List Nat,s.map (·.2)=ns.map (fun n=>Value.int .i64 ((n:Nat):Int))∧ns.Pairwise (· < ·)
theorem x4u (ts:List DefD) (ms:List NamedD):q4n (memS ts ms [])∧(memS ts ms []).map (·.1)=memO ts ms:=by
 have key: ∀k,k≤ms.length→ ∃ns:List Nat,((ms.take k).zipIdx.foldl (fun s (q:NamedD×Nat)=>if y0e ts q.1.name=3 then y1e s q.1.name q.2 else s) []).map (·.2)=ns.map (fun n=>Value.int .i64 ((n:Nat):Int))∧ns.Pairwise (· < ·)∧(∀n∈ns,n<k)∧
   ((ms.take k).zipIdx.foldl (fun s (q:NamedD×Nat)=>if y0e ts q.1.name=3 then y1e s q.1.name q.2 else s) []).map (·.1)=(ms.take k).foldl (fun l m=>if y0e ts m.name=3 then addN l m.name else l) []:=by
  intro k
  induction k with
  |zero=>intro _;exact ⟨[],rfl,List.Pairwise.nil,by simp,rfl⟩
  |succ k ih=>
   intro hk;obtain ⟨ns,h1,h2,h3,h4⟩:=ih (by omega);obtain ⟨m,hm⟩: ∃m,ms[k]?=some m:=⟨_,Qad (by omega)⟩;rw [y23 hm,y3z hm];generalize (ms.take k).zipIdx.foldl (fun s (q:NamedD×Nat)=>if y0e ts q.1.name=3 then y1e s q.1.name q.2 else s) []=s at h1 h4 ⊢;generalize (ms.take k).foldl (fun l m=>if y0e ts m.name=3 then addN l m.name else l) []=l at h4 ⊢;dsimp only;by_cases h:y0e ts m.name=3
   ·rw [if_pos h,if_pos h]
    have hin:(y0r s m.name).isSome=true↔m.name∈l:=by
     rw [←h4];unfold y0r;rw [Option.isSome_map,List.find?_isSome];simp only [decide_eq_true_eq,Qbe]
    unfold y1e addN;by_cases hs:(y0r s m.name).isSome=true
    ·rw [if_pos hs,if_pos (hin.1 hs)];exact ⟨ns,h1,h2,fun n hn=>by have:=h3 n hn;omega,h4⟩
    ·rw [if_neg hs,if_neg (fun h=>hs (hin.2 h))];refine ⟨ns++[k],by rw [Qas,Qas,h1];rfl,?_,fun n hn=>?_,by rw [Qas,h4];rfl⟩
     ·rw [List.pairwise_append];exact ⟨h2,by simp,fun a ha b hb=>by obtain rfl:=Qax.1 hb;exact h3 a ha⟩
     ·rcases Qbf.1 hn with hn|hn
      ·have:=h3 n hn;omega
      ·obtain rfl:=Qax.1 hn;omega
   ·rw [if_neg h,if_neg h];exact ⟨ns,h1,h2,fun n hn=>by have:=h3 n hn;omega,h4⟩
 obtain ⟨ns,h1,h2,_,h4⟩:=key ms.length (Qab _);rw [List.take_length] at h1 h4;exact ⟨⟨ns,h1,h2⟩,h4⟩
theorem z8i {α:Type}: ∀(l:List α) (k:Nat),(l.zipIdx k).Pairwise (fun p q=>p.2<q.2)∧ ∀p∈l.zipIdx k,k≤p.2
 |[],k=>⟨List.Pairwise.nil,by simp⟩
 |a::r,k=>by
  obtain ⟨h1,h2⟩:=z8i r (k+1);rw [List.zipIdx_cons];refine ⟨List.pairwise_cons.2 ⟨fun p hp=>?_,h1⟩,fun p hp=>?_⟩
  ·have:=h2 p hp;dsimp only;omega
  ·rcases Qbd.1 hp with rfl|hp
   ·exact Qab _
   ·have:=h2 p hp;omega
theorem y7u (ts:List DefD) (t:Txt):q4n (setL ts t)∧(setL ts t).map (·.1)=posL ts t:=by
 unfold setL posL;split
 ·exact ⟨⟨[(y1u ts t).getD 0],rfl,by simp⟩,rfl⟩
 ·split
  ·refine ⟨⟨(ts.zipIdx.filter fun p=>y66 t p.1).map (·.2),by rw [List.map_map,List.map_map];rfl,?_⟩,?_⟩
   ·rw [List.pairwise_map];exact (z8i ts 0).1.filter _
   ·rw [List.map_map]
    have: ∀(l:List DefD) (k:Nat),((l.zipIdx k).filter fun p=>y66 t p.1).map (fun p=>p.1.name)=(l.filter (y66 t)).map (·.name):=by
     intro l
     induction l with
     |nil=>intro k;rfl
     |cons a r ih=>
      intro k;rw [List.zipIdx_cons,List.filter_cons,List.filter_cons];dsimp only;split
      ·rw [List.map_cons,List.map_cons,ih]
      ·exact ih _
    exact this ts 0
  ·split
   ·exact x4u ts _
   ·exact ⟨⟨[],rfl,List.Pairwise.nil⟩,rfl⟩
theorem z3f {α:Type} (f:α→Int): ∀{l m:List α},l.Perm m→l.Pairwise (fun a b=>f a≤f b)→m.Pairwise (fun a b=>f a<f b)→l=m
 |[],m,h,_,_=>(List.nil_perm.1 h).symm
 |a::r,[],h,_,_=>absurd h.length_eq (by simp)
 |a::r,b::s,h,h1,h2=>by
  rw [List.pairwise_cons] at h1 h2
  have hab:a=b:=by
   have hb:b∈a::r:=h.mem_iff.2 (by simp);rcases Qbd.1 hb with hb|hb
   ·exact hb.symm
   ·have ha:a∈b::s:=h.mem_iff.1 (by simp);rcases Qbd.1 ha with ha|ha
    ·exact ha
    ·have:=h1.1 b hb;have:=h2.1 a ha;omega
  subst hab;rw [z3f f ((List.perm_cons a).1 h) h1.2 h2.2]
theorem z98 {s:List (Txt×Value)} (hn:(s.map (·.1)).Nodup) (hr:q4n s):(s.map (·.1)).Pairwise (fun a b=>y8s s a<y8s s b):=by
 obtain ⟨ns,h1,h2⟩:=hr
 have hfind: ∀(i:Nat) (x:Txt) (v:Value),s[i]?=some (x,v)→y0r s x=some v:=by
  intro i x v hi;unfold y0r
  have:s.find? (fun p=>decide (p.1=x))=some (x,v):=by
   rw [List.find?_eq_some_iff_getElem];obtain ⟨hl,he⟩:=Qac.1 hi;refine ⟨by simp,i,hl,he,fun j hj=>?_⟩;have:=List.pairwise_iff_getElem.1 hn j i (by simpa using (by omega:j<s.length)) (by simpa using hl) hj;simp only [List.getElem_map,he] at this;simpa using this
  rw [this];rfl
 rw [List.pairwise_iff_getElem];intro i j hi hj hij;simp only [Qay] at hi hj
 have hlen:ns.length=s.length:=by have:=congrArg List.length h1;simpa using this.symm
 have hval: ∀k (hk:k<s.length),s[k].2=Value.int .i64 ((ns[k]'(by omega):Nat):Int):=by
  intro k hk;have:=congrArg (·[k]?) h1;simp only [Qbz] at this;rw [Qad hk,Qad (by omega:k<ns.length)] at this;simpa using this
 have hnum: ∀k (hk:k<s.length),y8s s s[k].1=((ns[k]'(by omega):Nat):Int):=by
  intro k hk;unfold y8s;rw [hfind k s[k].1 s[k].2 (Qad hk),hval k hk]
 simp only [List.getElem_map];rw [hnum i hi,hnum j hj];have:=List.pairwise_iff_getElem.1 h2 i j (by omega) (by omega) hij;omega
theorem q6j {ts:List DefD} (hn:(y0a ts).Nodup) {t:Txt} {l:List Txt} (h:l.Perm ((y1g (y1z ts) t).map (·.1))) (hs:l.Pairwise (fun a b=>y8s (y1g (y1z ts) t) a≤y8s (y1g (y1z ts) t) b)):l=posL ts t:=by
 have hso:=(z5t (y6y hn) t).1;rw [x16 hn] at h hs hso;obtain ⟨hr,hp⟩:=y7u ts t;rw [←hp];exact z3f _ h hs (z98 hso hr)
theorem x4v {ts:List DefD} (hn:(y0a ts).Nodup) (t:Txt):(posL ts t).Nodup:=by
 have hso:=(z5t (y6y hn) t).1;rw [x16 hn,(y7u ts t).2] at hso;exact hso
end Go.Proofs.YtbpgkkoeehopjaaGreat.ty
namespace Go.Proofs.YtbpgkkoeehopjaaGreat.hp
open Go.RowKit lex gram rd tree dat ty
theorem y67 (ts:List DefD) (x:Txt):y2t ts x=y6e ts x:=rfl
theorem y40 (ts:List DefD) (x:Txt):y0e ts x=((y6e ts x).map (·.kind)).getD 0:=rfl
theorem z1j {ts:List DefD} {x:Txt} {d:DefD} (h:y6e ts x=some d):d.name=x∧ ∃i,ts[i]?=some d∧y1u ts x=some i:=by
 unfold y6e at h
 cases hi:y1u ts x with
 |none=>rw [hi] at h;cases h
 |some i=>
  rw [hi] at h;obtain ⟨e,he,hn⟩:=y1o hi;have:ts[i]?=some d:=h;rw [this] at he;injection he with he;subst he;exact ⟨hn,i,this,rfl⟩
theorem q2t {ts:List DefD} (hn:(y0a ts).Nodup) {d:DefD} (h:d∈ts):y6e ts d.name=some d:=by
 obtain ⟨i,hi⟩:=Qbp.1 h;unfold y6e;rw [y7o hn hi];exact hi
def KOk (ts:List DefD):Prop:=∀d∈ts,2≤d.kind∧d.kind≤7
theorem z99:KOk givenT:=by
 have:(givenT.all fun d=>decide (2≤d.kind∧d.kind≤7))=true:=by kernel_rfl
 exact fun d hd=>Qa6 (Qbi.1 this d hd)
theorem z3g (l:List DefD):KOk (y0i l):=by
 have h1: ∀(ts:List DefD) (d:DefD),(2≤d.kind∧d.kind≤7)→KOk ts→KOk (addD ts d):=fun ts d hd h e he=>by
  unfold addD at he;split at he
  ·exact h e he
  ·rcases Qbf.1 he with he|he
   ·exact h e he
   ·obtain rfl:=Qax.1 he;exact hd
 have hb:KOk (bare l).1:=by
  refine y3j (Q:=fun p:List DefD×List DefD=>KOk p.1) (fun p d h=>?_) l ([],[]) (fun _ h=>by cases h);unfold step1;split
  ·exact h
  ·split
   ·rename_i hi;dsimp only;split
    ·exact h
    ·exact h1 _ _ ⟨hi.1,hi.2.1⟩ h
   ·exact h
 have ht:KOk (y2j l):=y22 (Q:=KOk) givenT _ (fun ts d hd h=>h1 ts d (z99 d hd) h) hb;refine y3j (Q:=KOk) (fun ts d h=>?_) l _ ht;unfold ty.step2;split
 ·exact h
 ·split
  ·exact h
  ·split
   ·rename_i e he _;intro x hx;rcases List.mem_or_eq_of_mem_set hx with hx|rfl
    ·exact h x hx
    ·exact h e (Qaf he)
   ·exact h
theorem x8x {ts:List DefD} (hk:KOk ts) (x:Txt):(y6e ts x).isSome=decide (y0e ts x≠0):=by
 rw [y40]
 cases h:y6e ts x with
 |none=>rfl
 |some d=>
  obtain ⟨_,i,hi,_⟩:=z1j h;have:=hk d (Qaf hi);simp only [Option.isSome_some,Option.map_some,Option.getD_some];symm;rw [decide_eq_true_eq];omega
theorem z8j {ts:List DefD} (hk:KOk ts) (x:Txt):y0e ts x=0∨y0e ts x=2∨y0e ts x=3∨y0e ts x=4∨y0e ts x=5∨y0e ts x=6∨y0e ts x=7:=by
 rw [y40]
 cases h:y6e ts x with
 |none=>exact .inl rfl
 |some d=>
  obtain ⟨_,i,hi,_⟩:=z1j h;have:=hk d (Qaf hi);simp only [Option.map_some,Option.getD_some];omega
theorem x8y (ts:List DefD) (ms:List NamedD): ∀x∈memO ts ms,y0e ts x=3:=by
 refine y3j (Q:=fun l:List Txt=>∀x∈l,y0e ts x=3) (fun l m h=>?_) ms [] (fun _ h=>by cases h);split
 ·rename_i hm;unfold addN;split
  ·exact h
  ·intro x hx;rcases Qbf.1 hx with hx|hx
   ·exact h x hx
   ·obtain rfl:=Qax.1 hx;exact hm
 ·exact h
section
variable {ts : List DefD} (hn : (y0a ts).Nodup)
include hn
theorem z4u {t x:Txt} (h:x∈posL ts t):y0e ts x=3:=by
 unfold posL at h;split at h
 ·rename_i hk;obtain rfl:=Qax.1 h;exact hk
 ·split at h
  ·obtain ⟨d,hd,rfl⟩:=Qbe.1 h;obtain ⟨hd,hi⟩:=List.mem_filter.1 hd;rw [y40,q2t hn hd];unfold y66 at hi;simp only [Qao,Qa7] at hi;exact hi.1
  ·split at h
   ·exact x8y ts _ x h
   ·cases h
theorem x17 (t:Txt):t∈posL ts t↔y0e ts t=3:=by
 refine ⟨fun h=>z4u hn h,fun h=>?_⟩;unfold posL;rw [if_pos h];exact Qax.2 rfl
theorem x8z {t x:Txt} (hk:y0e ts t=4) (hx:y0e ts x=3):x∈posL ts t↔((((y2t ts x).map (·.ifaces)).getD []).any fun n=>decide (n.name=t))=true:=by
 unfold posL;rw [if_neg (by omega),if_pos hk]
 obtain ⟨d,hd⟩: ∃d,y6e ts x=some d:=by
  rw [y40] at hx
  cases h:y6e ts x with
  |none=>rw [h] at hx;simp at hx
  |some d=>exact ⟨d,rfl⟩
 obtain ⟨hdn,i,hi,_⟩:=z1j hd
 have hd3:d.kind=3:=by rw [y40,hd] at hx;exact hx
 rw [y67,hd];simp only [Option.map_some,Option.getD_some];constructor
 ·intro h;obtain ⟨e,he,hex⟩:=Qbe.1 h;obtain ⟨he,hie⟩:=List.mem_filter.1 he;have:=q2t hn he;rw [hex,hd] at this;injection this with this;subst this;unfold y66 at hie;simp only [Qao] at hie;exact hie.2
 ·intro h;refine Qbe.2 ⟨d,List.mem_filter.2 ⟨Qaf hi,?_⟩,hdn⟩;unfold y66;rw [hd3];exact h
theorem z8k (t x:Txt):(y0r (y1g (y1z ts) t) x).isSome=decide (x∈posL ts t):=by
 rw [x16 hn,←(y7u ts t).2];unfold y0r;rw [Option.isSome_map];by_cases h:x∈(setL ts t).map (·.1)
 ·rw [Qa5 h,List.find?_isSome];obtain ⟨p,hp,rfl⟩:=Qbe.1 h;exact ⟨p,hp,by simp⟩
 ·rw [Qa4 h]
  cases hq:((setL ts t).find? fun p=>decide (p.1=x)) with
  |none=>rfl
  |some p=>
   have h1:=List.mem_of_find?_eq_some hq;have h2:=List.find?_some hq;exact absurd (Qbe.2 ⟨p,h1,Qa6 h2⟩) h
end
section
variable (defs : List DefD)
theorem y30:(y0w defs).types=y0i defs:=rfl
theorem y8d:(y0w defs).objects=y1z (y0i defs):=rfl
theorem y9v {b a:Txt} (hb:y0e (y0w defs).types b=3):y26 (y0w defs) b a=decide (b∈posL (y0i defs) a):=by
 have hn:=y3k defs;have hk:=z8j (z3g defs) a;rw [y30] at hb;have hbp:=(x17 hn b).2 hb;unfold y26;rw [y30,y8d];by_cases h0:y0e (y0i defs) a=0
 ·rw [if_pos (.inr h0)];symm;rw [decide_eq_false_iff_not];unfold posL;rw [if_neg (by omega),if_neg (by omega),if_neg (by omega)];simp
 ·rw [if_neg (by omega)];by_cases e:b=a
  ·subst e;rw [if_pos rfl,Qa5 hbp]
  ·rw [if_neg e];by_cases h5:y0e (y0i defs) a=5
   ·rw [if_pos h5,z8k hn]
   ·rw [if_neg h5];by_cases h4:y0e (y0i defs) a=4
    ·rw [if_neg (by omega)];have:=x8z hn h4 hb;by_cases hm:b∈posL (y0i defs) a
     ·rw [Qa5 hm,this.1 hm]
     ·rw [Qa4 hm]
      cases hq:((((y2t (y0i defs) b).map (·.ifaces)).getD []).any fun n=>decide (n.name=a)) with
      |false=>rfl
      |true=>exact absurd (this.2 hq) hm
    ·rw [if_pos (.inl h4)];symm;rw [decide_eq_false_iff_not];unfold posL;by_cases h3:y0e (y0i defs) a=3
     ·rw [if_pos h3];simp [e]
     ·rw [if_neg h3,if_neg h4,if_neg h5];simp
theorem x0a (a:Txt):y26 (y0w defs) a a=decide (y0e (y0w defs).types a≠0):=by
 unfold y26;by_cases h:y0e (y0w defs).types a=0
 ·rw [if_pos (.inl h)];simp [h]
 ·rw [if_neg (by omega),if_pos rfl];simp [h]
theorem x0b (a b:Txt):z0g (y0w defs) a b=(posL (y0i defs) a).any fun x=>decide (x∈posL (y0i defs) b):=by
 have hn:=y3k defs;unfold z0g;rw [y8d]
 have: ∀l:List (Txt×Value),(l.any fun q=>(y0r (y1g (y1z (y0i defs)) b) q.1).isSome)=(l.map (·.1)).any fun x=>decide (x∈posL (y0i defs) b):=fun l=>by
  rw [List.any_map]
  congr 1
  funext q
  exact z8k hn b q.1
 rw [this,x16 hn,(y7u (y0i defs) a).2]
theorem x80 (a b:Txt):z0g (y0w defs) b a=z0g (y0w defs) a b:=by
 rw [x0b,x0b,Bool.eq_iff_iff,Qbh,Qbh];constructor
 all_goals
  rintro ⟨x,hx,h⟩;exact ⟨x,Qa6 h,Qa5 hx⟩
end
open words enc dec held
set_option maxRecDepth 100000
attribute [local go_sem ↓] Go.wp_at_zero Go.wp_at_succ
def q6k:FieldD:=⟨y6r,[],[],([],[]),[],0,0⟩
theorem z6d {w:World} {B O:Nat} {vs:List Value} (h:At w ⟨B,O,none⟩ vs):w.rangeAt B O vs:=fun k u hu=>by
 cases k with
 |zero=>exact h.1 u hu
 |succ k=>exact h.2 k u hu
theorem q6l (src:Txt) (defs:List DefD) (hp:z5o src defs) (w0 w K:World) (M:List Ent) (H:Hp w0 w K M):
  Calls Tryz.prog 13 #[.string (str src)] w fun e w'=>∃K' A c,e= .returned (.slice A defs.length c)∧Sat K' K∧Hp w0 w' K' M∧RD K' (.list defs.length (y0s defs)) (.slice A defs.length c):=x6l H hp rfl
theorem q4o {l:List Txt} {x:Txt} (h:l.Perm [x]):l=[x]:=List.perm_singleton.1 h
def z6e:Txt:=List.append [101,120,116,101,110,100,32,116,121,112,101,32,81,117,101,114,121,123,98,58,91,73,110,116,33,93,33,125,32,116,121,112,101,32,81,117,101,114,121] [123,97,58,73,110,116,125,32,116,121,112,101,32,81,117,101,114,121,123,99,58,73,110,116,125,32,117,110,105,111,110,32,85,61,81,117,101,114,121]
def z8l:List TokD:=(y3f z6e).getD []
def y5j:List DefD:=(y3w z8l 100 50 100 0).getD []
theorem z8m:z5o z6e y5j:=
 ⟨Qa6 (by kernel_rfl),z8l,40,40,3000,100,50,by kernel_rfl,Qa6 (by kernel_rfl),by omega,by kernel_rfl,by omega,by kernel_rfl⟩
theorem x81:y0k y5j≤1000:=Qa6 (by kernel_rfl)
def y34:Txt:=[81,117,101,114,121]
def uT:Txt:=[85]
def D0:TysD:=y0w y5j
theorem D0_W:TyW D0:=z5v y5j (by have:=x81;omega)
theorem q4p:z7p D0.schema.roots 1=y34:=by kernel_rfl
def Q0:DefD:=(y2t D0.types y34).getD z1a
def F0:FieldD:=Q0.fields.getD 0 q6k
def F1:FieldD:=Q0.fields.getD 1 q6k
theorem x82:y2t D0.types y34=some Q0:=by kernel_rfl
theorem z8n:Q0.fields=[F0,F1]:=by kernel_rfl
theorem q6m:Q0.fields.length=2:=by rw [z8n];rfl
theorem q6n:(y1g D0.objects uT).map (·.1)=[y34]:=by kernel_rfl
theorem q68:y26 D0 y34 uT=true:=by kernel_rfl
theorem q6o:y26 D0 uT y34=false:=by kernel_rfl
set_option maxHeartbeats 16000000 in
theorem x83 (w0 w K:World) (M:List Ent) (H:Hp w0 w K M):
  Calls Tryz.prog 24 #[] w fun e w'=>∃K',e= .returned (.bool true)∧Sat K' K∧Hp w0 w' K' M:=by
 have hK:=Sat.refl K
 have hq:((str y34).toList==[81,117,101,114,121])=true:=by kernel_rfl
 have hn0:((str F0.name).toList==[97])=true:=by kernel_rfl
 have hn1:((str F1.ty.2).toList==[33,93,33])=true:=by kernel_rfl
 go_enter Tryz.func24,Tryz.ntmps24
 go_upto_region 4 with (first
  |(go_at_call 13;refine (q6l z6e y5j z8m _ _ _ _ H).mono ?_;clear H;rintro e w1 ⟨K1,Ad,cd,rfl,hle1,H,hd⟩;replace hK:=hle1.trans hK)
  |(go_at_call 14;refine (y7p y5j _ cd Ad _ _ _ _ H rfl hd (by have:=x81;omega)).mono ?_;clear H;rintro e w2 ⟨K2,g,rfl,hle2,H,hT⟩;replace hd:=hd.sat hle2;replace hK:=hle2.trans hK)
  |(go_at_call 17;refine (q2e (.pointer (some ⟨g,0,none⟩)) 1 D0 _ _ _ _ H hT.tp D0_W).mono ?_;clear H;rintro e w3 ⟨K3,rfl,hle3,H⟩;replace hd:=hd.sat hle3;replace hT:=hT.sat hle3;replace hK:=hle3.trans hK;rw [q4p]))
 go_upto_region 5 with (first
  |(go_at_call 19;refine (x7l (.pointer (some ⟨g,0,none⟩)) y34 D0 _ _ _ _ H hT.tp D0_W).mono ?_;clear H;rintro e w4 ⟨K4,v4,rfl,hle4,H,cs4,rfl,hd4⟩;replace hd:=hd.sat hle4;replace hT:=hT.sat hle4;replace hK:=hle4.trans hK;simp only [x82,Option.getD_some] at hd4;rw [x82];obtain ⟨B6,e6,B7,e7,B8,e8,B9,e9,B10,e10,B11,e11,B12,e12,B14,e14,hcs4,-,-,df,-,-,-,-,-⟩:=y0c hd4;rw [q6m] at hcs4 df;rw [z8n] at df;obtain ⟨ad0,xs0,hB8,hx0,-,hat0⟩:=y3d (m:=10) (f:=y2y) (k:=0) (fun _=>rfl) df rfl (by omega);subst hB8;obtain ⟨bf,of,hbo⟩:=y50 (m:=10) (f:=y2y) (fun _=>rfl) df (by simp) (by omega);subst hbo;obtain ⟨ad1,xs1,hB9,hx1,-,hat1⟩:=y3d (m:=10) (f:=y2y) (k:=1) (fun _=>rfl) df rfl (by omega);injection hB9 with hB9;subst hB9;obtain rfl:cs4= #[.int .i64 Q0.kind,.bool Q0.ext,.bool Q0.note.has,.bool Q0.note.block,.string (str Q0.note.text),.string (str Q0.name),.slice B6 Q0.ifaces.length e6,.slice B7 Q0.dirs.length e7,.slice (some ⟨bf,of,none⟩) 2 e8,.slice B9 Q0.inputs.length e9,.slice B10 Q0.members.length e10,.slice B11 Q0.values.length e11,.slice B12 Q0.roots.length e12,.bool Q0.rep,.slice B14 Q0.places.length e14,.int .i64 Q0.line,.int .i64 Q0.col]:=Qal.1 hcs4)
  |((with_reducible refine isL ?_);first
   |(refine al z43 2 H ?_;clear H;intro w5 g2 H)
   |(refine sA 2 0 H ?_;clear H;intro w7 H)))
 obtain ⟨Af0,cf0,Ag0,cg0,hx0e,-,-⟩:=y6z hx0;obtain ⟨Af1,cf1,Ag1,cg1,hx1e,-,-⟩:=y6z hx1;subst hx0e hx1e;rw [y9n] at hat0 hat1;have f0:=H.sat.cell ((z6d hat0) 3 _ rfl);have f1:=H.sat.cell ((z6d hat1) 6 _ rfl);simp only [Nat.zero_mul,Nat.add_zero,Nat.one_mul] at f0 f1;clear hd4 hcs4 df hx0 hx1 hat0 hat1;have:=H.c 0 8
 go_upto_region 8 with (first
  |(go_at_call 27;refine (z4m (.pointer (some ⟨g,0,none⟩)) uT D0 _ _ _ _ H hT.tp D0_W).mono ?_;clear H;rintro e w7 ⟨K7,l7,v7,rfl,hle7,H,hl7,hp7,-⟩;replace hd:=hd.sat hle7;replace hT:=hT.sat hle7;replace hK:=hle7.trans hK;rw [q6n] at hp7;obtain rfl:=q4o hp7;replace hl7:RD K7 (.list 1 (y1c [y34])) v7:=hl7;obtain ⟨A7,c7,hv7,-,-⟩:=y25 hl7;subst hv7;obtain ⟨ad7,xs7,hA7,hx7,-,hat7⟩:=y3d (m:=1) (f:=fun x=>[str' x]) (l:=[y34]) (k:=0) (fun _=>rfl) hl7 rfl (by omega);subst hA7;obtain ⟨b7,o7,hbo7⟩:=y50 (m:=1) (f:=fun x=>[str' x]) (l:=[y34]) (fun _=>rfl) hl7 (by simp) (by omega);subst hbo7;have:=H.c 0 8))
 have x7:xs7=[.string (str y34)]:=by
  obtain ⟨r0,e0,h0⟩:=DatL.lit_inv hx7;rw [e0,h0.nil_inv]
 subst x7;rw [y9n] at hat7;have f7:=H.sat.cell ((z6d hat7) 0 _ rfl);simp only [Nat.zero_mul,Nat.add_zero] at f7;clear hl7 hx7 hat7 hp7 f0 f1;have mk1:=True.intro
 go_wp2_with (first
  |(go_at_call 37;clear mk1;refine (z5w (.pointer (some ⟨g,0,none⟩)) y34 uT D0 _ _ _ _ H hT.tp D0_W).mono ?_;clear H;rintro e w8 ⟨K8,rfl,hle8,H⟩;replace hT:=hT.sat hle8;replace hK:=hle8.trans hK;rw [q68])
  |(go_at_call 37;refine (z5w (.pointer (some ⟨g,0,none⟩)) uT y34 D0 _ _ _ _ H hT.tp D0_W).mono ?_;clear H;rintro e w9 ⟨K9,rfl,hle9,H⟩;replace hT:=hT.sat hle9;replace hK:=hle9.trans hK;rw [q6o]))
 go_ret;exact ⟨_,rfl,hK,H.tail⟩
set_option maxHeartbeats 40000000
section
variable {w0 w K : World} {M : List Ent}
theorem q69 {l:List Txt} {n c k:Nat} {A:Option Addr} {x:Txt} (h:RD K (.list n (l.flatMap fun x=>[str' x])) (.slice A n c)) (hx:l[k]?=some x): ∃ad,A=some ad∧K.cell? (ad.add k)=some (.string (str x)):=by
 obtain ⟨ad,vs,h1,h2,_,_,h5,_⟩:=y43 (m:=1) (f:=fun x=>[str' x]) (fun _=>rfl) h hx (by omega);obtain ⟨r0,rfl,h0⟩:=h2.lit_inv;have:=h5 _ rfl;rw [Nat.mul_one] at this;exact ⟨ad,h1,this⟩
theorem RD.front {α:Type} {f:α→List Leaf} (hf: ∀x,(f x).length=1) {l:List α} {n c k:Nat} {A:Option Addr} (h:RD K (.list n (l.flatMap f)) (.slice A n c)) (hk:k≤n):RD K (.list k ((l.take k).flatMap f)) (.slice A k c):=by
 have h2:=RD.cut hf h hk (Qak k);rw [Nat.sub_zero,Nat.sub_zero,List.drop_zero] at h2
 have:A.map (·.add 0)=A:=by cases A with|none=>rfl|some a=>simp [Addr.add]
 rwa [this] at h2
theorem z4v (v:Value) (x:Txt) (defs:List DefD) (H:Hp w0 w K M) (hv:Tp K v (y0w defs)) (hW:TyW (y0w defs)) {l:List Txt} (hl:posL (y0i defs) x=l) {n:Nat} (hn:l.length=n):
  Calls Tryz.prog 27 #[v,.string (str x)] w fun e w'=>∃K' A c,e= .returned (.slice A n c)∧Sat K' K∧Hp w0 w' K' M∧RD K' (.list n (l.flatMap fun x=>[str' x])) (.slice A n c):=by
 refine (z4m v x (y0w defs) w0 w K M H hv hW).mono ?_;rintro e w' ⟨K',l',v',rfl,hle,H,hd,hp,hs⟩;have:=q6j (y3k defs) hp hs;rw [hl] at this;subst this;rw [hn,y4n] at hd;obtain ⟨A,c,rfl,-,-⟩:=y25 hd;exact ⟨K',A,c,rfl,hle,H,hd⟩
theorem x84 (v:Value) (x:Txt) (D:TysD) (H:Hp w0 w K M) (hv:Tp K v D) (hW:TyW D) {o:Bool} {d:DefD} (h1:(y2t D.types x).isSome=o) (h2:(y2t D.types x).getD z1a=d):
  Calls Tryz.prog 19 #[v,.string (str x)] w fun e w'=>∃K' cs,e= .returned (.tuple #[.agg cs,.bool o])∧Sat K' K∧Hp w0 w' K' M∧RL K' (defL d) cs.toList:=by
 refine (x7l v x D w0 w K M H hv hW).mono ?_;rintro e w' ⟨K',v',rfl,hle,H,cs,rfl,hd⟩;rw [h1];rw [h2] at hd;exact ⟨K',cs,rfl,hle,H,hd⟩
theorem q2u (ts:List DefD) (t:Txt) (h:y0k ts≤8000000):(posL ts t).length≤9000000:=by
 have hl:=y0x y3m ts;unfold posL;split
 ·simp
 ·split
  ·rw [Qay];have:=Qb3 (y66 t) ts;unfold y0k at h;omega
  ·split
   ·cases hd:y6e ts t with
    |none=>simp [memO]
    |some d=>
     obtain ⟨_,i,hi,_⟩:=z1j hd;have h1:=y24 hi;have h2:=z0b d
     have h3: ∀(ms:List NamedD) (l:List Txt),(ms.foldl (fun l m=>if y0e ts m.name=3 then addN l m.name else l) l).length≤l.length+ms.length:=by
      intro ms
      induction ms with
      |nil=>intro l;simp
      |cons m r ih=>
       intro l;rw [List.foldl_cons];refine Qah (ih _) ?_;unfold addN
       split<;>(try split)<;>simp<;>omega
     have:=h3 d.members [];simp only [List.length_nil] at this;simp only [Option.map_some,Option.getD_some,memO];omega
   ·simp
end
end Go.Proofs.YtbpgkkoeehopjaaGreat.hp
namespace Go.Proofs.YtbpgkkoeehopjaaGreat.opn
open words tree gram rd dat
set_option maxRecDepth 100000
section
variable {H : Type} {enc : TypeId × Value → H} {w : World} {sp : Nat → Bool} {held : Bool}
abbrev bulk (d:DataW H):Nat:=Rows.uptoBulk d
def Op (enc:TypeId×Value→H) (w:World) (sp:Nat→Bool) (held:Bool) (t:TypeId) {α:Type} (f:α→List Leaf) (N:α→Nat) (Q:α→Prop) (m:Nat):Prop:=
 ∀cs x,DataW.trod enc Tryz.prog w 0 sp held m t cs=some x→bulk x.1≤1048576→ ∃d:α,ReadsL w (Lo w.heap.size) (f d) cs∧N d≤bulk x.1∧Q d
end
end Go.Proofs.YtbpgkkoeehopjaaGreat.opn
namespace Go.Proofs.YtbpgkkoeehopjaaGreat.frame
open Go.ChangeShapes Go.WideShapes Go.ChangeAt Go.RowKit words
section
variable {H : Type} {enc : TypeId × Value → H} {P : Program}
theorem y9w (hl:laidOutB P=true) {W W':World} (hb:Below W.heap.size W W'):
  ∀(ts:List TypeId) (vs:List Value) (ds:List (DataW H)) (ps:List MemPlace),
   (∀t∈ts,P.readableRec t=true∧t<P.types.size)→DataW.TrodAll enc P W 0 (fun _=>true) true ts vs ds ps→(∀x∈ps,x.block<W.heap.size)→
   DataW.TrodAll enc P W' 0 (fun b=>decide (b<W.heap.size)) true ts vs ds ps
 |[],vs,ds,ps,_,h,_=>by obtain ⟨rfl,rfl,rfl⟩:=trodAll_nil h;exact trodAll_mk0
 |t::ts,vs,ds,ps,hr,h,hlt=>by
  obtain ⟨v,vs',d,ds',p,q,rfl,rfl,rfl,h0,h1⟩:=trodAll_cons h
  exact trodAll_cons_mk (Below.trod hl (hr t (by simp)).1 (hr t (by simp)).2 h0 hb (fun x hx=>hlt x (by simp [hx])))
   (y9w hl hb ts vs' ds' q (fun t ht=>hr t (by simp [ht])) h1 (fun x hx=>hlt x (by simp [hx])))
theorem law_post {f:Func} {s:ChangeSpec} {apart handsOn:Bool} {W W':World} {args:Array Value} {ds gs:List (DataW H)} {before:List MemPlace} {bt:TypeId} (hs:s.vars=[])
  (hres:(s.fn H (ds++gs)).results=[.lit (.bool true)]) (hargs:(s.fn H (ds++gs)).args=ds) (hvars:(s.fn H (ds++gs)).vars=[])
  (hl:laidOutB P=true) (hr: ∀t∈f.params.toList,P.readableRec t=true∧t<P.types.size) (hrt:f.resultTypes= #[bt]) (hbt:P.underlying bt=some .bool)
  (hW:DataW.Whole enc P f.params.toList s.vars apart W args.toList ds gs before) (hb:Below W.heap.size W W'):
  s.post enc P f apart true handsOn false W args (.bool true) W':=by
 have hlt: ∀x∈before,x.block<W.heap.size:=fun x hx=>by simpa using hW.lt x hx
 have hW':=hW;obtain ⟨p,q,hA,hV,rfl,_,_⟩:=hW;rw [hs] at hV;obtain ⟨rfl,rfl⟩:=trodVars_none hV;refine ⟨ds,[],p++[],[],p,[],hW',?_,?_,?_,hb.frame _,fun h=>by cases h⟩
 ·rw [hres,hrt];exact trodAll_cons_mk (shut_bool hbt _) trodAll_mk0
 ·rw [hargs];exact y9w hl hb _ _ _ _ hr hA (fun x hx=>hlt x (by simpa using hx))
 ·rw [hvars,hs];rfl
end
end Go.Proofs.YtbpgkkoeehopjaaGreat.frame
