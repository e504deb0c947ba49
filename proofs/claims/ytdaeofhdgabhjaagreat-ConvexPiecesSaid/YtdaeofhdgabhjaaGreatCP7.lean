/- ConvexPieces returns true for every shape, no condition (Q10) -/
import Derived.Test.YtdaeofhdgabhjaaGreatCP6
set_option linter.all false
set_option maxRecDepth 100000
set_option maxHeartbeats 8000000
open List renaming range->bQ,take_succ_eq_append_getElem->iR,map_append->dM,mem_append->bg,mem_singleton->bi,take->aP,drop->cY,take_of_length_le->fT,length->dA,replicate->cS,length_replicate->rZ,not_mem_nil->cn,length_cons->gk,mem_cons->bT,mem_map->bZ,mem_range->cG,mem_cons_self->cI,mem_flatMap->cZ,mem_cons_of_mem->cE,mem_of_mem_take->Si,reverse->ic,flatMap_append->pH,append_assoc->jw,length_reverse->Sj,length_append->eW,set->kO,range_succ->qS,filter_append->pI,length_map->da,getElem_map->jG,flatten_cons->mc,map_map->dq,map_congr_left->nZ,getD_eq_getElem?_getD->du,take_length->ke,flatMap_cons->fM,Pairwise.imp->Cb,pairwise_map->kK,Pairwise.imp_of_mem->CZ,mem_flatten->k9,mem_append_left->iC,Pairwise.nil->tT,mem_append_right->fb,pairwise_iff_getElem->nU,getElem_mem->lI,mem_iff_getElem->iZ,append_nil->yg,map_cons->dB
open And renaming intro->bl
open Nat renaming le_refl->bI,le_trans->cF,mod_lt->bq,beq->bH,le_of_ble_eq_true->mA,zero_le->iY,zero_add->jy,add_mod_right->pB,mod_add_mod->kc,mod_eq_of_lt->dZ,mod_self->ju
open Int renaming toNat_natCast->iF
open Bool renaming not_eq_true'->CY
open Go.Proofs.Tryz renaming prog->bE,f14->y5
open Go.RowKit
open Go.Proofs.YtdaeofhdgabhjaaGreat.Geo
open Go.Proofs.YtdaeofhdgabhjaaGreat.Geo renaming V->aEZ,S->aE0,nth->aEY,sub->aE1,Fan->aE9,Faces->aFa
namespace Go.Proofs.YtdaeofhdgabhjaaGreat
section
open Go.ChangeShapes Go.WideShapes Go.ChangeAt Go.RowKit Go.Joins Go.Deep
def T6(s:Shape)(hs:qG s):Sat bE false 14 [kS s] (.bool true):=
 aAy (k14 [aSh.enc s] s rfl ((jd (l:=c14.pre s)).1 ⟨hs,λ_=>aBN s⟩)) (by simp only[avs,aBC];rfl) rfl
def S5(os:Os)(started:os.Started)(H:Type)(enc:TypeId×Value->H):
  ReturnsInHanded {} Tryz.checked os 14 .any (Rows.convexPiecesSpec.pre6 enc bE y5 Rows.convexPiecesRow.domain false) (Rows.convexPiecesSpec.post enc bE y5 false true false false):=by
 refine returnsInHanded_of_change_sized (C:=Tryz.checked) Tryz.own started (by kernel_rfl) Tryz.func14
  (ChangeSpec.witness6 (enc:=enc) (C:=Tryz.checked) false ⟨#[], #[(.agg #[.slice none 0 0,.slice none 0 0])],[]⟩ 8 (by kernel_rfl) (by kernel_rfl) (by kernel_rfl) (by kernel_rfl)) ?_
 intro W base args ds gs before hval0 hW hcnd hsz0 _;have hval:∀(j:Nat) t v,y5.params[j]? =some t->args[j]? =some v->Value.okWide bE W .any base t v:=hval0;have hsz:(DataW.weightsEach bE (y5.params.toList++Rows.convexPiecesSpec.plain.varTypes bE) (ds++gs)).all (· <=reachBytes)=true:=hsz0;have hW':=hW;obtain⟨p,q,hA0,hV,rfl,hfz,hnd⟩:=hW;have hA:DataW.TrodAll enc bE W 0 (λ_=>true) true y5.params.toList args.toList ds p:=hA0;rw[Tryz.params14]at hA hval hsz;obtain⟨v0,d0,rfl,rfl,h0⟩:=trodAll_one hA;obtain⟨rfl,rfl⟩:=trodVars_none hV;have hw0:∀n∈DataW.weights bE 26 d0,n<=reachBytes:=λn hn=>by have:=List.all_eq_true.1 hsz n (DataW.weights_mem_each (j:=0) (t:=26) rfl rfl n hn);simpa using this
 obtain⟨s,r0,b0⟩:=Uo (hval 0 26 v0 rfl rfl) h0 hw0;clear hA0 hval0;simp only[yg]at hW';have hcall:=(T6 s b0).2 (nO W) W [v0] (λ_ _ _ h=>h) (by unfold az;exact⟨v0,[],rfl,r0,by unfold az;rfl⟩);refine hcall.mono λe W' ⟨v,he,hr,hB⟩=> ?_;unfold aX at hr;subst he hr;have hlt0:∀x∈p,x.block<W.heap.size:=λx hx=>by simpa using hW'.lt x hx
 refine⟨_,rfl,_,_,_,[],p,[],hW',?_,?_,rfl,hB.frame _,λh=>by cases h⟩
 .exact trodAll_mk1 (shut_bool Tryz.underlying4 true)
 .exact trodAll_mk1 (Below.trod Tryz.laidOut (by kernel_rfl) (of_decide_eq_true (by kernel_rfl)) h0 hB hlt0)
theorem cpieces_holds:Rows.ConvexPiecesSaid:=
 OpenClaim.holds_of_wide 14 y5 rfl rfl rfl rfl rfl rfl rfl ⟨rfl,rfl,rfl,rfl,rfl⟩ rfl rfl rfl rfl rfl (by kernel_rfl) Tryz.func14 (by kernel_rfl)
  (of_decide_eq_true (by kernel_rfl)) (by unfold Func.isWrapper;first|(rw[if_pos (by decide+kernel)];kernel_rfl)|(rw[if_neg (by decide+kernel)];exact⟨rfl,rfl⟩))
  (λos started H enc _=>S5 os started H enc)
end
end Go.Proofs.YtdaeofhdgabhjaaGreat
