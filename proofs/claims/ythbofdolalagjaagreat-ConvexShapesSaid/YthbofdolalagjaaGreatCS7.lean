/- ConvexShapes returns true for every two shapes, no condition (Q13) -/
import Derived.Test.YthbofdolalagjaaGreatCS6
set_option linter.all false
set_option maxRecDepth 100000
set_option maxHeartbeats 8000000
open Go.Proofs.Tryz renaming prog->bH,f11->zu
open Go.DataW renaming weights->mg
open List renaming all_eq_true->bh
open Go.RowKit
open Go.Proofs.YthbofdolalagjaaGreat.Geo
namespace Go.Proofs.YthbofdolalagjaaGreat
section
open Go.ChangeShapes Go.WideShapes Go.ChangeAt Go.RowKit Go.Joins Go.Deep
def Uj(s t:Shape)(hs:kY s)(ht:kY t):Sat bH false 11 [lC s,lC t] (.bool true):=
 aBo (k11 [aSh.enc s,aSh.enc t] (s,t) rfl ((jz (l:=c11.pre (s,t))).1 ⟨hs,ht⟩)) (by simp only[avs,aCz];rfl) rfl
def Tn(os:Os)(started:os.Started)(H:Type)(enc:TypeId×Value->H):
  ReturnsInHanded {} Tryz.checked os 11 .any (Rows.convexShapesSpec.pre6 enc bH zu Rows.convexShapesRow.domain false) (Rows.convexShapesSpec.post enc bH zu false true false false):=by
 refine returnsInHanded_of_change_sized (C:=Tryz.checked) Tryz.own started (by kernel_rfl) Tryz.func11
  (ChangeSpec.witness6 (enc:=enc) (C:=Tryz.checked) false ⟨#[], #[(.agg #[.slice none 0 0,.slice none 0 0]),(.agg #[.slice none 0 0,.slice none 0 0])],[]⟩ 8 (by kernel_rfl) (by kernel_rfl) (by kernel_rfl) (by kernel_rfl)) ?_
 intro W base args ds gs before hval0 hW hcnd hsz0 _;have hval:∀(j:Nat) t v,zu.params[j]? =some t->args[j]? =some v->Value.okWide bH W .any base t v:=hval0;have hsz:(DataW.weightsEach bH (zu.params.toList++Rows.convexShapesSpec.plain.varTypes bH) (ds++gs)).all (· <=reachBytes)=true:=hsz0;have hW':=hW;obtain⟨p,q,hA0,hV,rfl,hfz,hnd⟩:=hW;have hA:DataW.TrodAll enc bH W 0 (λ_=>true) true zu.params.toList args.toList ds p:=hA0;rw[Tryz.params11]at hA hval hsz;obtain⟨v0,v1,d0,d1,p0,p1,rfl,rfl,rfl,h0,h1⟩:=trodAll_two hA;obtain⟨rfl,rfl⟩:=trodVars_none hV;have hw0:∀n∈mg bH 26 d0,n<=reachBytes:=λn hn=>by have:=bh.1 hsz n (DataW.weights_mem_each (j:=0) (t:=26) rfl rfl n hn);simpa using this
 obtain⟨s,r0,b0⟩:=KV (hval 0 26 v0 rfl rfl) h0 hw0;have hw1:∀n∈mg bH 26 d1,n<=reachBytes:=λn hn=>by have:=bh.1 hsz n (DataW.weights_mem_each (j:=1) (t:=26) rfl rfl n hn);simpa using this
 obtain⟨t,r1,b1⟩:=KV (hval 1 26 v1 rfl rfl) h1 hw1;clear hA0 hval0;simp only[List.append_nil]at hW';have hcall:=(Uj s t b0 b1).2 (oP W) W [v0,v1] (λ_ _ _ h=>h) (by unfold bK;exact⟨v0,[v1],rfl,r0,by unfold bK;exact⟨v1,[],rfl,r1,by unfold bK;rfl⟩⟩);refine hcall.mono λe W' ⟨v,he,hr,hB⟩=> ?_;unfold aY at hr;subst he hr;have hlt0:∀x∈p0,x.block<W.heap.size:=λx hx=>by simpa using hW'.lt x (by simp[hx])
 have hlt1:∀x∈p1,x.block<W.heap.size:=λx hx=>by simpa using hW'.lt x (by simp[hx])
 refine⟨_,rfl,_,_,_,[],(p0++p1),[],hW',?_,?_,rfl,hB.frame _,λh=>by cases h⟩
 .exact trodAll_mk1 (shut_bool Tryz.underlying4 true)
 .exact trodAll_mk2 (Below.trod Tryz.laidOut (by kernel_rfl) (of_decide_eq_true (by kernel_rfl)) h0 hB hlt0) (Below.trod Tryz.laidOut (by kernel_rfl) (of_decide_eq_true (by kernel_rfl)) h1 hB hlt1)
theorem cshapes_holds:Rows.ConvexShapesSaid:=
 OpenClaim.holds_of_wide 11 zu rfl rfl rfl rfl rfl rfl rfl ⟨rfl,rfl,rfl,rfl,rfl⟩ rfl rfl rfl rfl rfl (by kernel_rfl) Tryz.func11 (by kernel_rfl)
  (of_decide_eq_true (by kernel_rfl)) (by unfold Func.isWrapper;first|(rw[if_pos (by decide+kernel)];kernel_rfl)|(rw[if_neg (by decide+kernel)];exact⟨rfl,rfl⟩))
  (λos started H enc _=>Tn os started H enc)
end
end Go.Proofs.YthbofdolalagjaaGreat
