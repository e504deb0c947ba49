/- ConvexDissects returns true for every shape, no condition -/
import Derived.Test.YthbofdolalagjaaGreatCD6
set_option linter.all false
set_option maxRecDepth 100000
set_option maxHeartbeats 8000000
open Go.Proofs.Tryz renaming prog->bi,f14->B6
open Bool renaming false->aK,true->aE
open Option renaming none->aM,some->aD
open Go.RowKit
open Go.Proofs.YthbofdolalagjaaGreat.Geo
namespace Go.Proofs.YthbofdolalagjaaGreat
section
open Go.ChangeShapes Go.WideShapes Go.ChangeAt Go.RowKit Go.Joins Go.Deep
def Wu(s:Shape)(hs:pJ s):Sat bi aK 14 [m5 s] (.bool aE):=
 aEM (aGW [aSh.enc s] s rfl ((lI (l:=Vl.pre s)).1 hs)) (by simp only[avs,aFV];rfl) rfl
def WU(os:Os)(started:os.Started)(H:Type)(enc:TypeId×Value->H):
  ReturnsInHanded {} Tryz.checked os 14 .any (Rows.convexDissectsSpec.pre6 enc bi B6 Rows.convexDissectsRow.domain aK) (Rows.convexDissectsSpec.post enc bi B6 aK aE aK aK):=by
 refine returnsInHanded_of_change_sized (C:=Tryz.checked) Tryz.own started br Tryz.func14
  (ChangeSpec.witness6 (enc:=enc) (C:=Tryz.checked) aK ⟨#[], #[(.agg #[.slice aM 0 0,.slice aM 0 0])],[]⟩ 8 br br br br) ?_
 intro W base args ds gs before hval0 hW hcnd hsz0 _;have hval:∀(j:Nat) t v,B6.params[j]? =aD t->args[j]? =aD v->Value.okWide bi W .any base t v:=hval0;have hsz:(DataW.weightsEach bi (B6.params.toList++Rows.convexDissectsSpec.plain.varTypes bi) (ds++gs)).all (· <=reachBytes)=aE:=hsz0;have hW':=hW;obtain⟨p,q,hA0,hV,rfl,hfz,hnd⟩:=hW;have hA:DataW.TrodAll enc bi W 0 (λ_=>aE) aE B6.params.toList args.toList ds p:=hA0;rw[Tryz.params14]at hA hval hsz;obtain⟨v0,d0,rfl,rfl,h0⟩:=trodAll_one hA;obtain⟨rfl,rfl⟩:=trodVars_none hV;have hw0:∀n∈DataW.weights bi 26 d0,n<=reachBytes:=λn hn=>by have:=List.all_eq_true.1 hsz n (DataW.weights_mem_each (j:=0) (t:=26) rfl rfl n hn);simpa using this
 obtain⟨s,r0,b0⟩:=YT (hval 0 26 v0 rfl rfl) h0 hw0;clear hA0 hval0;simp only[List.append_nil]at hW';have hcall:=(Wu s b0).2 (qP W) W [v0] (λ_ _ _ h=>h) (by unfold bk;exact⟨v0,[],rfl,r0,by unfold bk;rfl⟩);refine hcall.mono λe W' ⟨v,he,hr,hB⟩=> ?_;unfold bE at hr;subst he hr;have hlt0:∀x∈p,x.block<W.heap.size:=λx hx=>by simpa using hW'.lt x hx
 refine⟨_,rfl,_,_,_,[],p,[],hW',?_,?_,rfl,hB.frame _,λh=>by cases h⟩
 .exact trodAll_mk1 (shut_bool Tryz.underlying4 aE)
 .exact trodAll_mk1 (Below.trod Tryz.laidOut br (of_decide_eq_true br) h0 hB hlt0)
theorem cdissects_holds:Rows.ConvexDissectsSaid:=
 OpenClaim.holds_of_wide 14 B6 rfl rfl rfl rfl rfl rfl rfl ⟨rfl,rfl,rfl,rfl,rfl⟩ rfl rfl rfl rfl rfl br Tryz.func14 br
  (of_decide_eq_true br) (by unfold Func.isWrapper;first|(rw[if_pos (by decide+kernel)];kernel_rfl)|(rw[if_neg (by decide+kernel)];exact⟨rfl,rfl⟩))
  (λos started H enc _=>WU os started H enc)
end
end Go.Proofs.YthbofdolalagjaaGreat
