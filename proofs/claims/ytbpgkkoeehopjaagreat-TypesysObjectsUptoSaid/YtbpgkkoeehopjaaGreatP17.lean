/- Proved: for every source and every name the type system that is built and that of the document agree about possible types, meeting, within, input and output (TypesysObjects); conditions: arguments up to the sizes of the Upto form. -/
import Derived.Test.YtbpgkkoeehopjaaGreatP16
import Derived.WalkKit
import Derived.ProofKit
import Derived.OpenShut
import Derived.JoinedCond
set_option linter.unusedVariables false
set_option linter.unusedSimpArgs false
namespace Go.Proofs.YtbpgkkoeehopjaaGreat.typesysObjects
open Go.ChangeMaps (open_string shut_string)
open Go.ChangeShapes Go.WideShapes Go.ChangeAt Go.RowKit words tree gram rd dat opn hp frame
set_option maxRecDepth 100000
theorem own:ownKnob Tryz.prog.godebug=none:=by kernel_rfl
theorem laidOut:laidOutB Tryz.prog=true:=by kernel_rfl
theorem bound {H:Type} {l:List (DataW H)} (hk:Rows.uptoSmall H l=true):Rows.uptoBulkAll l≤1048576:=Qa6 hk
theorem lo_in {w:World} {t:Leaf} {v:Value} (h:Reads w (Lo w.heap.size) t v):RD w t v:=⟨h.keep (fun b hb=>⟨Qak _,hb⟩) (fun _ _=>rfl),Qab _⟩
theorem contract (H:Type) (enc:TypeId×Value→H) (W:World) (base:Nat) (args:Array Value) (ds gs:List (DataW H)) (before:List MemPlace)
  (hval: ∀(j:Nat) t v,Tryz.f5.params[j]?=some t→args[j]?=some v→Value.okWide Tryz.prog W .any base t v)
  (hW:DataW.Whole enc Tryz.prog Tryz.f5.params.toList Rows.typesysObjectsSpec.vars false W args.toList ds gs before) (hk:Rows.uptoSmall H (ds++gs)=true):
  Calls Tryz.prog 5 args W fun e W'=>∃v,e= .returned v∧Rows.typesysObjectsSpec.post enc Tryz.prog Tryz.f5 false true false false W args v W':=by
 have hW':=hW;obtain ⟨p,q,hA0,hV,rfl,hfz,hnd⟩:=hW;have hA:DataW.TrodAll enc Tryz.prog W 0 (fun _=>true) true Tryz.f5.params.toList args.toList ds p:=hA0;rw [Tryz.params5] at hA hval;obtain ⟨v0,vs0,d0,ds0,p0,q0,hargs,rfl,rfl,h0,r0⟩:=trodAll_cons hA;obtain ⟨v1,vs1,d1,ds1,p1,q1,rfl,rfl,rfl,h1,r1⟩:=trodAll_cons r0;obtain ⟨rfl,rfl,rfl⟩:=trodAll_nil r1
 obtain rfl:args= #[v0,v1]:=by cases args;simp_all
 obtain ⟨rfl,rfl⟩:=trodVars_none hV;have hbulk:=bound hk;simp only [List.append_nil,Rows.uptoBulkAll] at hbulk;clear hk hA0;simp only [List.append_nil] at hW'
 have fin: ∀(e:Ending) (W':World),(e= .returned (.bool true)∧Below W.heap.size W W')→ ∃v,e= .returned v∧Rows.typesysObjectsSpec.post enc Tryz.prog Tryz.f5 false true false false W #[v0,v1] v W':=fun e W' ⟨he,hb⟩=>by
  subst he;refine ⟨_,rfl,law_post rfl rfl rfl rfl laidOut ?_ (by kernel_rfl) Tryz.underlying4 hW' hb⟩;rw [Tryz.params5];intro t ht;simp only [Qbd,List.mem_nil_iff,or_false] at ht;rcases ht with rfl|rfl
  all_goals exact ⟨by kernel_rfl,Qa6 (by kernel_rfl)⟩
 obtain ⟨s0,rfl,rfl,-,-⟩:=open_string Tryz.underlying9 (hval 0 9 v0 rfl rfl) h0;obtain ⟨src,hx0⟩: ∃x:Txt,x=s0.data.toList:=⟨_,rfl⟩
 have es0:s0=str src:=by rw [hx0];exact (str_of s0).symm
 subst es0;rw [str_data] at hbulk
 have hl_src:src.length≤1048576:=by simp only [Rows.uptoBulk] at hbulk;omega
 obtain ⟨s1,rfl,rfl,-,-⟩:=open_string Tryz.underlying9 (hval 1 9 v1 rfl rfl) h1;obtain ⟨name,hx1⟩: ∃x:Txt,x=s1.data.toList:=⟨_,rfl⟩
 have es1:s1=str name:=by rw [hx1];exact (str_of s1).symm
 subst es1;rw [str_data] at hbulk
 have hl_name:name.length≤1048576:=by simp only [Rows.uptoBulk] at hbulk;omega
 exact (Objects_walk src name W hl_src).mono fun e W' h=>fin e W' h
set_option maxRecDepth 100000 in
theorem lifted (os:Os) (started:os.Started) (H:Type) (enc:TypeId×Value→H) (F:Stop.Interp):
  ReturnsInHanded {} Tryz.checked os 5 .any ((Rows.OpenSpec.upto Rows.typesysObjectsSpec).pre6 enc Tryz.prog Tryz.f5 Rows.typesysObjectsUptoRow.domain false) (((Rows.OpenSpec.upto Rows.typesysObjectsSpec).at F).post enc Tryz.prog Tryz.f5 false true false false):=by
 refine returnsInHanded_of_cond (C:=Tryz.checked) (s:=Rows.OpenSpec.upto Rows.typesysObjectsSpec) (k:=Rows.uptoSmall) rfl own started (by kernel_rfl) Tryz.func5
  (OpenSpec.witness (enc:=enc) (C:=Tryz.checked) (s:=Rows.OpenSpec.upto Rows.typesysObjectsSpec) (k:=Rows.uptoSmall) rfl false ⟨#[], #[.string .empty,.string .empty],[]⟩ 8 (by kernel_rfl) (by kernel_rfl) (by kernel_rfl)
    (x:=([.lit (.string []),.lit (.string [])],[],[])) (by kernel_rfl) rfl (by kernel_rfl)) ?_
 intro W base args ds gs before hval hW _ hk _;exact contract H enc W base args ds gs before hval hW hk
theorem and_tt {a b:Bool} (h:a=true) (h':b=true):(a&&b)=true:=by rw [h,h'];rfl
set_option maxHeartbeats 64000000 in
theorem closed:joinedFacts Tryz.prog 5 Tryz.f5 (Rows.OpenSpec.upto Rows.typesysObjectsSpec).bare Rows.typesysObjectsUptoRow=true:=by
 unfold joinedFacts
 repeat' (with_reducible refine and_tt ?_ ?_)
 all_goals (as_aux_lemma=>kernel_rfl)
theorem inst:Tryz.f5.isInstance Tryz.prog Rows.typesysObjectsUptoRow.origin Rows.typesysObjectsUptoRow.targs:=Qa6 (by kernel_rfl)
theorem proved:Rows.TypesysObjectsUptoSaid:=
 OpenClaim.holds_of_cond 5 Tryz.f5 rfl rfl rfl rfl rfl rfl rfl ⟨rfl,rfl,rfl,rfl,rfl⟩ rfl rfl rfl rfl rfl (by kernel_rfl) Tryz.func5 closed
  inst (by unfold Func.isWrapper;first|(rw [if_pos (by decide+kernel)];kernel_rfl)|(rw [if_neg (by decide+kernel)];exact ⟨rfl,rfl⟩))
  (fun os started H enc _ F=>lifted os started H enc F)
#print axioms proved
end Go.Proofs.YtbpgkkoeehopjaaGreat.typesysObjects
