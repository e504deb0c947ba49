/- ConvexPoints returns true for every shape and every vector, no condition (Q12) -/
import Derived.Test.YtdaeofhdgabhjaaGreatCQ7
set_option linter.all false
set_option maxRecDepth 100000
set_option maxHeartbeats 8000000
open Go.Proofs.Tryz renaming prog->ak,f12->zE
open Go.RowKit
open Go.Proofs.YtdaeofhdgabhjaaGreat.Geo
namespace Go.Proofs.YtdaeofhdgabhjaaGreat
section
open Go.ChangeShapes Go.WideShapes Go.ChangeAt Go.RowKit Go.Joins Go.Deep
def UB(s:Shape)(v:V)(hs:mN s)(hv:VOk v):Sat ak false 12 [kM s,B8 v] (.bool true):=
 aAu (k12 [aSh.enc s,aV.enc v] (s,v) rfl ((jY (l:=c12.pre (s,v))).1 ⟨hs,hv⟩)) (by simp only[avs,aBC,aA2];rfl) rfl
def TD(os:Os)(started:os.Started)(H:Type)(enc:TypeId×Value->H):
  ReturnsInHanded {} Tryz.checked os 12 .any (Rows.convexPointsSpec.pre6 enc ak zE Rows.convexPointsRow.domain false) (Rows.convexPointsSpec.post enc ak zE false true false false):=by
 refine returnsInHanded_of_change_sized (C:=Tryz.checked) Tryz.own started (by kernel_rfl) Tryz.func12
  (ChangeSpec.witness6 (enc:=enc) (C:=Tryz.checked) false ⟨#[], #[(.agg #[.slice none 0 0,.slice none 0 0]),(.agg #[.int .i64 0,.int .i64 0])],[]⟩ 8 (by kernel_rfl) (by kernel_rfl) (by kernel_rfl) (by kernel_rfl)) ?_
 intro W base args ds gs before hval0 hW hcnd hsz0 _;have hval:∀(j:Nat) t v,zE.params[j]? =some t->args[j]? =some v->Value.okWide ak W .any base t v:=hval0;have hsz:(DataW.weightsEach ak (zE.params.toList++Rows.convexPointsSpec.plain.varTypes ak) (ds++gs)).all (· <=reachBytes)=true:=hsz0;have hW':=hW;obtain⟨p,q,hA0,hV,rfl,hfz,hnd⟩:=hW;have hA:DataW.TrodAll enc ak W 0 (λ_=>true) true zE.params.toList args.toList ds p:=hA0;rw[Tryz.params12]at hA hval hsz;obtain⟨v0,v1,d0,d1,p0,p1,rfl,rfl,rfl,h0,h1⟩:=trodAll_two hA;obtain⟨rfl,rfl⟩:=trodVars_none hV;have hw0:∀n∈DataW.weights ak 26 d0,n<=reachBytes:=λn hn=>by have:=List.all_eq_true.1 hsz n (DataW.weights_mem_each (j:=0) (t:=26) rfl rfl n hn);simpa using this
 obtain⟨s,r0,b0⟩:=Un (hval 0 26 v0 rfl rfl) h0 hw0;obtain⟨v,r1,b1⟩:=Xx (hval 1 44 v1 rfl rfl) h1;clear hA0 hval0;simp only[List.append_nil]at hW';have hcall:=(UB s v b0 b1).2 (mM W) W [v0,v1] (λ_ _ _ h=>h) (by unfold ae;exact⟨v0,[v1],rfl,r0,by unfold ae;exact⟨v1,[],rfl,r1,by unfold ae;rfl⟩⟩);refine hcall.mono λe W' ⟨v,he,hr,hB⟩=> ?_;unfold aU at hr;subst he hr;have hlt0:∀x∈p0,x.block<W.heap.size:=λx hx=>by simpa using hW'.lt x (by simp[hx])
 have hlt1:∀x∈p1,x.block<W.heap.size:=λx hx=>by simpa using hW'.lt x (by simp[hx])
 refine⟨_,rfl,_,_,_,[],(p0++p1),[],hW',?_,?_,rfl,hB.frame _,λh=>by cases h⟩
 .exact trodAll_mk1 (shut_bool Tryz.underlying4 true)
 .exact trodAll_mk2 (Below.trod Tryz.laidOut (by kernel_rfl) (of_decide_eq_true (by kernel_rfl)) h0 hB hlt0) (Below.trod Tryz.laidOut (by kernel_rfl) (of_decide_eq_true (by kernel_rfl)) h1 hB hlt1)
theorem cpoints_holds:Rows.ConvexPointsSaid:=
 OpenClaim.holds_of_wide 12 zE rfl rfl rfl rfl rfl rfl rfl ⟨rfl,rfl,rfl,rfl,rfl⟩ rfl rfl rfl rfl rfl (by kernel_rfl) Tryz.func12 (by kernel_rfl)
  (of_decide_eq_true (by kernel_rfl)) (by unfold Func.isWrapper;first|(rw[if_pos (by decide+kernel)];kernel_rfl)|(rw[if_neg (by decide+kernel)];exact⟨rfl,rfl⟩))
  (λos started H enc _=>TD os started H enc)
end
end Go.Proofs.YtdaeofhdgabhjaaGreat
