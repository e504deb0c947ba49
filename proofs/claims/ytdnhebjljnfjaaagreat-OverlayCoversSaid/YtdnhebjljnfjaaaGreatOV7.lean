/- OverlayCovers returns true for every list of segments and every point, no condition -/
import Derived.Test.YtdnhebjljnfjaaaGreatOV6
set_option linter.all false
set_option maxRecDepth 100000
set_option maxHeartbeats 8000000
open Go.Proofs.Tryz renaming prog->aG,f6->x6
open Go.RowKit
open Go.Proofs.YtdnhebjljnfjaaaGreat.Geo
namespace Go.Proofs.YtdnhebjljnfjaaaGreat
section
open Go.ChangeShapes Go.WideShapes Go.ChangeAt Go.RowKit Go.Joins Go.Deep
def So(l:List S)(v:V):Sat aG false 6 [sgP l,MV v] (.bool true):=
 X2 (k6q [.lst .S l,aV.enc v] (l,v) rfl (λp hp=>(List.not_mem_nil hp).elim)) rfl rfl
def Rb(os:Os)(started:os.Started)(H:Type)(enc:TypeId×Value->H):
  ReturnsInHanded {} Tryz.checked os 6 .any (Rows.overlayCoversSpec.pre6 enc aG x6 Rows.overlayCoversRow.domain false) (Rows.overlayCoversSpec.post enc aG x6 false true false false):=by
 refine returnsInHanded_of_change_sized (C:=Tryz.checked) Tryz.own started (by kernel_rfl) Tryz.func6
  (ChangeSpec.witness6 (enc:=enc) (C:=Tryz.checked) false ⟨#[], #[.slice none 0 0,(.agg #[.int .i64 0,.int .i64 0])],[]⟩ 8 (by kernel_rfl) (by kernel_rfl) (by kernel_rfl) (by kernel_rfl)) ?_
 intro W base args ds gs before hval0 hW hcnd hsz0 _;have hval:∀(j:Nat) t v,x6.params[j]? =some t->args[j]? =some v->Value.okWide aG W .any base t v:=hval0;have hW':=hW;obtain⟨p,q,hA0,hV,rfl,hfz,hnd⟩:=hW;have hA:DataW.TrodAll enc aG W 0 (λ_=>true) true x6.params.toList args.toList ds p:=hA0;rw[Tryz.params6]at hA hval;obtain⟨v0,v1,d0,d1,p0,p1,rfl,rfl,rfl,h0,h1⟩:=trodAll_two hA;obtain⟨rfl,rfl⟩:=trodVars_none hV;obtain⟨l,r0⟩:∃l:List S,az (nR W) (sgP l) v0:=by obtain⟨a0,len,cap,rfl⟩:=okWide_slice Tryz.underlying22 (hval 0 22 v0 rfl rfl);obtain⟨fuel,h⟩:=h0;exact Ts h
 obtain⟨v,r1⟩:=VO (hval 1 53 v1 rfl rfl) h1;clear hA0 hval0;simp only[List.append_nil]at hW';have hcall:=(So l v).2 (nR W) W [v0,v1] (λ_ _ _ h=>h) (by unfold bK;exact⟨v0,[v1],rfl,r0,by unfold bK;exact⟨v1,[],rfl,r1,by unfold bK;rfl⟩⟩);refine hcall.mono λe W' ⟨v,he,hr,hB⟩=> ?_;unfold az at hr;subst he hr;have hlt0:∀x∈p0,x.block<W.heap.size:=λx hx=>by simpa using hW'.lt x (by simp[hx])
 have hlt1:∀x∈p1,x.block<W.heap.size:=λx hx=>by simpa using hW'.lt x (by simp[hx])
 refine⟨_,rfl,_,_,_,[],(p0++p1),[],hW',?_,?_,rfl,hB.frame _,λh=>by cases h⟩
 .exact trodAll_mk1 (shut_bool Tryz.underlying4 true)
 .exact trodAll_mk2 (Below.trod Tryz.laidOut (by kernel_rfl) (of_decide_eq_true (by kernel_rfl)) h0 hB hlt0) (Below.trod Tryz.laidOut (by kernel_rfl) (of_decide_eq_true (by kernel_rfl)) h1 hB hlt1)
theorem covers_holds:Rows.OverlayCoversSaid:=
 OpenClaim.holds_of_wide 6 x6 rfl rfl rfl rfl rfl rfl rfl ⟨rfl,rfl,rfl,rfl,rfl⟩ rfl rfl rfl rfl rfl (by kernel_rfl) Tryz.func6 (by kernel_rfl)
  (of_decide_eq_true (by kernel_rfl)) (by unfold Func.isWrapper;first|(rw[if_pos (by decide+kernel)];kernel_rfl)|(rw[if_neg (by decide+kernel)];exact⟨rfl,rfl⟩))
  (λos started H enc _=>Rb os started H enc)
end
end Go.Proofs.YtdnhebjljnfjaaaGreat
