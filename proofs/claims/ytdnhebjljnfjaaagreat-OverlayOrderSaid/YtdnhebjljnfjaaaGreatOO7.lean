/- OverlayOrder returns true for every list of segments and all two numbers, no condition -/
import Derived.Test.YtdnhebjljnfjaaaGreatOO6
set_option linter.all false
set_option maxRecDepth 100000
set_option maxHeartbeats 8000000
open Go.Proofs.Tryz renaming prog->aH,underlying5->yY,f8->yf
open Go.RowKit
open Go.Proofs.YtdnhebjljnfjaaaGreat.Geo
namespace Go.Proofs.YtdnhebjljnfjaaaGreat
section
open Go.ChangeShapes Go.WideShapes Go.ChangeAt Go.RowKit Go.Joins Go.Deep
def Vp{n:Int}(h:(Lit.int .u8 n).wf=true):∃m:Nat,n=(m:Int)/\m<256:=by simp[Lit.wf,IntKind.min,IntKind.max,IntKind.signed,IntKind.bits]at h;exact⟨n.toNat,by omega,by omega⟩
section
variable {H:Type} {enc:TypeId×Value->H} {w:World} {base:Nat} {spare:Nat->Bool} {held:Bool}
def Hh{r:Reach}{b0:Nat}{v:Value}{d:DataW H}{p:List MemPlace}(hv:Value.okWide aH w r b0 5 v)(h:DataW.Trod enc aH w base spare held 5 v d p):
  ∃n:Nat,a8 (ny w) (.int .u8 (n:Int)) v/\n<256:=by
 obtain⟨n,rfl⟩:=okWide_int yY hv;obtain⟨fuel,h⟩:=h;obtain⟨m,h1,_,h3⟩:=DataW.trod_int yY h;cases h1;obtain⟨k,rfl,hk⟩:=Vp h3;exact⟨k,by rfl,hk⟩
end
def U8(l:List S)(a c:Nat)(ha:a<256)(hc:c<256):Sat aH false 8 [sgP l,.int .u8 (a:Int),.int .u8 (c:Int)] (.bool true):=
 ZA (k8q [.lst .S l,aU8.enc a,aU8.enc c] (l,a,c) rfl ((fH (l:=c8q.pre (l,a,c))).1 ⟨ha,hc⟩)) rfl rfl
def Sq(os:Os)(started:os.Started)(H:Type)(enc:TypeId×Value->H):
  ReturnsInHanded {} Tryz.checked os 8 .any (Rows.overlayOrderSpec.pre6 enc aH yf Rows.overlayOrderRow.domain false) (Rows.overlayOrderSpec.post enc aH yf false true false false):=by
 refine returnsInHanded_of_change_sized (C:=Tryz.checked) Tryz.own started (by kernel_rfl) Tryz.func8
  (ChangeSpec.witness6 (enc:=enc) (C:=Tryz.checked) false ⟨#[], #[.slice none 0 0,(.int .u8 0),(.int .u8 0)],[]⟩ 8 (by kernel_rfl) (by kernel_rfl) (by kernel_rfl) (by kernel_rfl)) ?_
 intro W base args ds gs before hval0 hW hcnd hsz0 _;have hval:∀(j:Nat) t v,yf.params[j]? =some t->args[j]? =some v->Value.okWide aH W .any base t v:=hval0;have hW':=hW;obtain⟨p,q,hA0,hV,rfl,hfz,hnd⟩:=hW;have hA:DataW.TrodAll enc aH W 0 (λ_=>true) true yf.params.toList args.toList ds p:=hA0;rw[Tryz.params8]at hA hval;obtain⟨v0,v1,v2,d0,d1,d2,p0,p1,p2,rfl,rfl,rfl,h0,h1,h2⟩:=trodAll_three hA;obtain⟨rfl,rfl⟩:=trodVars_none hV;obtain⟨l,r0⟩:∃l:List S,a8 (ny W) (sgP l) v0:=by obtain⟨a0,len,cap,rfl⟩:=okWide_slice Tryz.underlying22 (hval 0 22 v0 rfl rfl);obtain⟨fuel,h⟩:=h0;exact Us h
 obtain⟨a,r1,b1⟩:=Hh (hval 1 5 v1 rfl rfl) h1;obtain⟨c,r2,b2⟩:=Hh (hval 2 5 v2 rfl rfl) h2;clear hA0 hval0;simp only[List.append_nil]at hW';have hcall:=(U8 l a c b1 b2).2 (ny W) W [v0,v1,v2] (λ_ _ _ h=>h) (by unfold bK;exact⟨v0,[v1,v2],rfl,r0,by unfold bK;exact⟨v1,[v2],rfl,r1,by unfold bK;exact⟨v2,[],rfl,r2,by unfold bK;rfl⟩⟩⟩);refine hcall.mono λe W' ⟨v,he,hr,hB⟩=> ?_;unfold a8 at hr;subst he hr;have hlt0:∀x∈p0,x.block<W.heap.size:=λx hx=>by simpa using hW'.lt x (by simp[hx])
 have hlt1:∀x∈p1,x.block<W.heap.size:=λx hx=>by simpa using hW'.lt x (by simp[hx])
 have hlt2:∀x∈p2,x.block<W.heap.size:=λx hx=>by simpa using hW'.lt x (by simp[hx])
 refine⟨_,rfl,_,_,_,[],(p0++(p1++p2)),[],hW',?_,?_,rfl,hB.frame _,λh=>by cases h⟩
 .exact trodAll_mk1 (shut_bool Tryz.underlying4 true)
 .exact trodAll_mk3 (Below.trod Tryz.laidOut (by kernel_rfl) (of_decide_eq_true (by kernel_rfl)) h0 hB hlt0) (Below.trod Tryz.laidOut (by kernel_rfl) (of_decide_eq_true (by kernel_rfl)) h1 hB hlt1) (Below.trod Tryz.laidOut (by kernel_rfl) (of_decide_eq_true (by kernel_rfl)) h2 hB hlt2)
theorem order_holds:Rows.OverlayOrderSaid:=
 OpenClaim.holds_of_wide 8 yf rfl rfl rfl rfl rfl rfl rfl ⟨rfl,rfl,rfl,rfl,rfl⟩ rfl rfl rfl rfl rfl (by kernel_rfl) Tryz.func8 (by kernel_rfl)
  (of_decide_eq_true (by kernel_rfl)) (by unfold Func.isWrapper;first|(rw[if_pos (by decide+kernel)];kernel_rfl)|(rw[if_neg (by decide+kernel)];exact⟨rfl,rfl⟩))
  (λos started H enc _=>Sq os started H enc)
end
end Go.Proofs.YtdnhebjljnfjaaaGreat
