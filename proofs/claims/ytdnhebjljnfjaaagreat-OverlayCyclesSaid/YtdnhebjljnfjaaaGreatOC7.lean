/- OverlayCycles returns true for every list of segments, no condition -/
import Derived.Test.YtdnhebjljnfjaaaGreatOC6
set_option linter.all false
set_option maxRecDepth 100000
set_option maxHeartbeats 8000000
open Go.Proofs.Tryz renaming prog->aH,f5->x3
open Go.RowKit
open Go.Proofs.YtdnhebjljnfjaaaGreat.Geo
namespace Go.Proofs.YtdnhebjljnfjaaaGreat
section
open Go.ChangeShapes Go.WideShapes Go.ChangeAt Go.RowKit Go.Joins Go.Deep
def Sf(l:List S):Sat aH false 5 [sgP l] (.bool true):=
 X6 (k5q [.lst .S l] l rfl (λp hp=>(List.not_mem_nil hp).elim)) rfl rfl
def RT(os:Os)(started:os.Started)(H:Type)(enc:TypeId×Value->H):
  ReturnsInHanded {} Tryz.checked os 5 .any (Rows.overlayCyclesSpec.pre6 enc aH x3 Rows.overlayCyclesRow.domain false) (Rows.overlayCyclesSpec.post enc aH x3 false true false false):=by
 refine returnsInHanded_of_change_sized (C:=Tryz.checked) Tryz.own started (by kernel_rfl) Tryz.func5
  (ChangeSpec.witness6 (enc:=enc) (C:=Tryz.checked) false ⟨#[], #[.slice none 0 0],[]⟩ 8 (by kernel_rfl) (by kernel_rfl) (by kernel_rfl) (by kernel_rfl)) ?_
 intro W base args ds gs before hval0 hW hcnd hsz0 _;have hval:∀(j:Nat) t v,x3.params[j]? =some t->args[j]? =some v->Value.okWide aH W .any base t v:=hval0;have hW':=hW;obtain⟨p,q,hA0,hV,rfl,hfz,hnd⟩:=hW;have hA:DataW.TrodAll enc aH W 0 (λ_=>true) true x3.params.toList args.toList ds p:=hA0;rw[Tryz.params5]at hA hval;obtain⟨v0,d0,rfl,rfl,h0⟩:=trodAll_one hA;obtain⟨rfl,rfl⟩:=trodVars_none hV;obtain⟨l,r0⟩:∃l:List S,a8 (o8 W) (sgP l) v0:=by obtain⟨a0,len,cap,rfl⟩:=okWide_slice Tryz.underlying22 (hval 0 22 v0 rfl rfl);obtain⟨fuel,h⟩:=h0;exact Tk h
 clear hA0 hval0;simp only[List.append_nil]at hW';have hcall:=(Sf l).2 (o8 W) W [v0] (λ_ _ _ h=>h) (by unfold bL;exact⟨v0,[],rfl,r0,by unfold bL;rfl⟩);refine hcall.mono λe W' ⟨v,he,hr,hB⟩=> ?_;unfold a8 at hr;subst he hr;have hlt0:∀x∈p,x.block<W.heap.size:=λx hx=>by simpa using hW'.lt x hx
 refine⟨_,rfl,_,_,_,[],p,[],hW',?_,?_,rfl,hB.frame _,λh=>by cases h⟩
 .exact trodAll_mk1 (shut_bool Tryz.underlying4 true)
 .exact trodAll_mk1 (Below.trod Tryz.laidOut (by kernel_rfl) (of_decide_eq_true (by kernel_rfl)) h0 hB hlt0)
theorem cycles_holds:Rows.OverlayCyclesSaid:=
 OpenClaim.holds_of_wide 5 x3 rfl rfl rfl rfl rfl rfl rfl ⟨rfl,rfl,rfl,rfl,rfl⟩ rfl rfl rfl rfl rfl (by kernel_rfl) Tryz.func5 (by kernel_rfl)
  (of_decide_eq_true (by kernel_rfl)) (by unfold Func.isWrapper;first|(rw[if_pos (by decide+kernel)];kernel_rfl)|(rw[if_neg (by decide+kernel)];exact⟨rfl,rfl⟩))
  (λos started H enc _=>RT os started H enc)
end
end Go.Proofs.YtdnhebjljnfjaaaGreat
