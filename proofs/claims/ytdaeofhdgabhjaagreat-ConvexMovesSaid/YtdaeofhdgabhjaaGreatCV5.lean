/- What the statement stands on: contracts of functions, plain laws. Part 5 of 6, no condition of its own. (J7 J8 K18 K41 N0 N00 Shelf J9 J10 J12 K13 K14 K26 L2 K27 K28 K29 K30 J15 K31 M0 K32 K33 K34 Q0 K37 K38 K39 R2 R3 R4 R5 R6 R7 R8 R9 R10) -/
import Derived.Test.YtdaeofhdgabhjaaGreatCV4
import Derived.Calls
import Derived.Test.YtdaeofhdgabhjaaGreatRows
import Derived.ProofKit
import Derived.Carry
import Derived.SizedLaws
import Derived.Deep.SlicePairs
import Derived.Lib.SmallJoins
set_option linter.all false
set_option maxRecDepth 100000
set_option maxHeartbeats 8000000
open Nat renaming le_refl->bQ,reduceAdd->vu,reduceSub->vw,le_trans->cR,eq_zero_or_pos->rF,zero_le->i5,le_of_eq->Cp,zero_add->jg,le_antisymm->tG,mul_le_mul->vV,mod_lt->bk,mod_eq_of_lt->dj,add_mod_right->od,mod_add_mod->kN
open List renaming map_map->cv,map_cons->cT,size_toArray->rJ,length_cons->gY,length_nil->mH,push_toArray->v7,append_toArray->v8,nil_append->rM,cons_append->j7,mem_cons_self->cE,foldl_cons->vH,getElem?_take->og,getElem?_drop->vL,getD_eq_getElem?_getD->de,getElem?_eq_getElem->eZ,length->fW,length_eq_zero_iff->nJ,mem_cons->bO,getElem?_eq_some_iff->rK,flatMap_cons->fX,length_map->cL,getElem?_map->fy,mem_of_getElem?->ID,mem_map->bM,Perm.refl->CL,Pairwise.nil->rE,exists_mem_of_ne_nil->SG,pairwise_map->ia,pairwise_iff_getElem->nB,Perm.eq_of_pairwise->R8,mem_cons_of_mem->cB,flatten_cons->lN,nodup_append->nC,map_congr_left->iy,map->cX,take->aW,take_succ_eq_append_getElem->kR,map_append->dQ,take_of_length_le->gu,any->fc,all->tH,mem_append->bq,flatten->fe,flatten_append->vo,flatten_singleton->SP,take_append_drop->vj,length_append->fw,getElem_mem->mN,getElem_map->iZ,pairwise_cons->gX,mem_iff_getElem->ib,replicate->cO,length_set->yh,length_replicate->yg,getD->jj,set->mP,length_singleton->vI,length_take->kP,length_pos_of_mem->IQ,not_mem_nil->cl,mem_singleton->bh,filter->rN,range->bP,range_succ->vZ,filter_append->vQ,drop->gi,length_drop->Ht,Nodup->oi,Pairwise.imp_of_mem->yV,flatMap->kQ,flatMap_append->vP,append_assoc->kO,take_add_one->rL,foldl_append->Cm,any_eq_true->lO,take_length->vl,mem_range->bz,all_eq_true->bZ,getElem_of_mem->jf,all_eq_false->yk,mem_flatMap->dI,length_range->Hu,cons.injEq->nK,getElem_range->qC,Pairwise.imp->CS,mem_flatten->kh,mem_append_left->gZ,mem_append_right->fY
open Go.Proofs.Tryz renaming prog->bD,underlying3->o4,underlying24->Co,underlying23->SO,underlying44->IG,underlying26->SQ
open Array renaming replicate_succ->vz,replicate_zero->v6,getElem?_eq_some_iff->vq
open Go.IntKind renaming i64->ic,wrap->yl
open Go.World renaming block_lt_of_cell?->jh,cell?_spot->IS
open Go.Value renaming int->cV
open Option renaming map_some->eI,some.injEq->fZ
open And renaming intro->cF
open Decidable renaming of_not_not->nM
open Go.Sem renaming run->fm
open Go.Result renaming ok->yn
open Go.Sort renaming grow->Cq
open Bool renaming eq_false_iff->vO,and_eq_true->bm,true_and->oc,eq_iff_iff->eY,not_eq_true'->CN
open Function renaming comp->yT
open Int renaming tmod->c8,tdiv->fM,toNat_of_nonneg->IP,toNat_natCast->i7
open Go.DataW renaming weights->mQ,trod_int->IR,weightsEach->SS
open Go.Addr renaming add->Cc,add_mid->vT
open Go.RowKit
open Go.Proofs.YtdaeofhdgabhjaaGreat.Geo
open Go.Proofs.YtdaeofhdgabhjaaGreat.Geo renaming V->aEo,nth->aEn,rowP->aEv,sub->aEq,S->aEp,aJ->aEw,eE->aEr,dt->aEy,Fan->aEz,Faces->aEA
namespace Go.Proofs.YtdaeofhdgabhjaaGreat
section
open Go.RowKit Go.Shelf
attribute [local go_sem] Oper.semAt_some
def mi(s:Shape):Int:=area s.outer-(s.holes.map area).sum
def Fw{xs:List aEo}(h:cg xs=true): -8000000000<=area xs/\area xs<=8000000000:=by have V:=(gv xs).1 h;have h:=u4 V.near xs.length (bQ _);have e:ar xs xs.length=area xs:=rfl;have:=V.most;omega
def jQ{o:RV}{hs:List RV}(pre:List (Mem o hs)):Int:=(pre.map λx=>area x.1.r).sum
def TQ{o:RV}{hs:List RV}(pre:List (Mem o hs))(x:Mem o hs):jQ (pre++[x])=jQ pre+area x.1.r:=by unfold jQ;simp
def U9{o:RV}{hs:List RV}(hv:∀x∈o::hs,cg x.r=true)(pre:List (Mem o hs)): -(8000000000*(pre.length:Int))<=jQ pre/\jQ pre<=8000000000*(pre.length:Int):=by
 induction pre with
 |nil=>simp[jQ]
 |cons x l ih=>
  have:=Fw (hv x.1 x.2);unfold jQ at*;grind
def T8{o:RV}{hs:List RV}{xs:List (Mem o hs)}(h:xs.map (·.1)=o::hs):area o.r*2-jQ xs=mi (du o hs):=by
 have e:(xs.map λx=>area x.1.r)=(xs.map (·.1)).map λx=>area x.r:=by rw[cv];rfl
 unfold jQ mi du;rw[e,h];simp only[cT,List.sum_cons,cv,Function.comp_def];omega
def TA{s:Shape}(h:bJ s=true):∀r∈aE s,cg r=true:=by rw[wH]at h;grind
def Ss(o:RV)(ah:Option Addr)(ch:Nat)(hs:List RV)(w:World)(H:RdSh w o ah hs)(hch:hs.length<=ch):
  Calls bD 90 #[.agg #[RV.enc o,.slice ah hs.length ch]] w λe w'=>e= .returned (.int .i64 (if bJ (du o hs)then mi (du o hs)else 0))/\Below w.heap.size w w':=by
 have HB0:=Blk.new w 26 #[RV.enc o,.slice ah hs.length ch];have hB0:Below w.heap.size w (w.alloc (.cells #[RV.enc o,.slice ah hs.length ch] 26)):=(Below.refl _ _).alloc (bQ _) _;cases hv:bJ (du o hs)with
 |false=>
  refine(callsIn_wide (n:=9)).1 (callsIn_of_wp_marks Tryz.func90 rfl trivial ((wpIn_wide (n:=9)).2 ?_) rfl);simp only[Tryz.ntmps90,rJ,gY,mH,vu,vw,vz,v6,v7,v8,rM,j7]
  go_wp2_with fail
  refine(Ct o ah ch hs _ (H.below hB0) hch).mono ?_;rintro e w1 ⟨rfl,hb1⟩;rw[hv]
  go_wp2_with fail
  exact JR (v:= .int .i64 0) (by simp[results,Tryz.f90]) rfl ⟨rfl,hB0.trans (hb1.mono hB0.size)⟩
 |true=>
  have hval:∀x∈o::hs,cg x.r=true:=λx hx=>TA hv x.r (by unfold aE du;grind)
  have hAO:=Fw (hval o cE);have hAO2:(if cg o.r then area o.r else 0)=area o.r:=by rw[hval o cE];rfl
  refine(callsIn_wide (n:=9)).1 (callsIn_of_wp_marks Tryz.func90 rfl trivial ((wpIn_wide (n:=9)).2 ?_) rfl);simp only[Tryz.ntmps90,rJ,gY,mH,vu,vw,vz,v6,v7,v8,rM,j7]
  go_wp2_with fail
  refine(Ct o ah ch hs _ (H.below hB0) hch).mono ?_;rintro e w1 ⟨rfl,hb1⟩;rw[hv];have B1:=HB0.then_ hb1;have hB1:=hB0.trans (hb1.mono hB0.size);have hsz1:w.heap.size+1<=w1.heap.size:=by simpa using hb1.size
  clear HB0 hB0 hb1;have c0:=B1.cell 0;have c1:=B1.cell 1;simp at c0 c1
  go_wp2_with fail
  refine(K6 o.a o.c o.r _ ((H.v o cE).1.below hB1) (H.v o cE).2).mono ?_;rintro e w2 ⟨rfl,hb2⟩;rw[hAO2];have B2:=B1.then_ hb2;have hB2:=hB1.trans (hb2.mono hB1.size);have hsz2:w.heap.size+1<=w2.heap.size:=cR hsz1 hb2.size;clear B1 hB1 hb2 c0 c1 hsz1 hAO2;generalize hAe:area o.r=A at hAO;have B2a:=B2.alloc (.cells #[.int .i64 (2*A)] 3);have B3:=Blk.new w2 3 #[.int .i64 (2*A)];have hB2a:=hB2.alloc hB2.size (.cells #[.int .i64 (2*A)] 3);have hsz3:w.heap.size+1<=(w2.alloc (.cells #[.int .i64 (2*A)] 3)).heap.size:=by simp;omega
  have hp3:w2.heap.size<(w2.alloc (.cells #[.int .i64 (2*A)] 3)).heap.size:=by simp
  have c0:=B2a.cell 0;have c1:=B2a.cell 1;simp at c0 c1;obtain⟨p3,hp3e⟩:∃p,p=w2.heap.size:=⟨_,rfl⟩;rw[<-hp3e]at B3 hp3 hsz2
  go_wp2_with fail
  rw[<-hp3e];clear hp3e;generalize w2.alloc (.cells #[.int .i64 (2*A)] 3)=w3 at B2a B3 hB2a hsz3 hp3 c0 c1|-;clear B2 hB2;refine(zY o ah hs.length ch _).mono ?_;rintro e w4 ⟨rfl,rfl⟩
  go_wp2_with fail
  have B3':=B3.alloc (.cells #[RV.enc o,.slice ah hs.length ch] 26);have B4:=Blk.new w3 26 #[RV.enc o,.slice ah hs.length ch];have hB4:=hB2a.alloc hB2a.size (.cells #[RV.enc o,.slice ah hs.length ch] 26);have hsz4:w3.heap.size<(w3.alloc (.cells #[RV.enc o,.slice ah hs.length ch] 26)).heap.size:=by simp
  obtain⟨p4,hp4e⟩:∃p,p=w3.heap.size:=⟨_,rfl⟩;rw[<-hp4e]at B4 hp3 hsz3 hsz4;rw[<-hp4e];clear hp4e B3 B2a c0 c1 hB2a;generalize w3.alloc (.cells #[RV.enc o,.slice ah hs.length ch] 26)=W0 at B3' B4 hB4 hsz4|-;refine(wpIn_wide (n:=9)).1 ?_
  refine' wpIn_rangeFunc_ownF (F:=Fence.wide) (n:=9) rfl (by omega) (gf:=179) (lb:= #[.pointer (some ⟨p4,0,none⟩)]) rfl trivial (enters_of Tryz.func179 (by kernel_rfl) rfl)
   (yy Fence.wide 8 trivial rfl (by omega) p4 w.heap.size o ah ch hs H.n W0 (by omega) B4 (H.h.below hB4)) Kp2.trans (Bm (by omega) (by omega)) (Below.refl _ _) (λ_=>rfl)
   (λpre W=>(Blk W p4 26 #[RV.enc o,.slice ah hs.length ch]/\Blk W p3 3 #[.int .i64 (2*A-jQ pre)])/\Below w.heap.size w W)
   (λc pre W=>False/\False)
   (OwnFrom.and (OwnFrom.and mb mb) (ownFrom_below (bQ _) (by omega)))
   (λc=>OwnFrom.and ql ql)
   ⟨⟨B4,by simpa[jQ]using B3'⟩,hB4⟩ _ ?assign ?body ?done ?stop
  case assign=>
   intro l x W K hK;dsimp only[RV.enc]
   gi_wp2
   exact hK
  case stop=>
   grind
  case done=>
   rintro D xs W hD hxs ⟨⟨b4,b3⟩,hb⟩ hK;have hres:2*A-jQ xs=mi (du o hs):=by have:=T8 hxs;rw[hAe]at this;omega
   rw[hres]at b3;have hD2:w.heap.size<=D:=by omega
   clear hxs hres b4 B4 B3' hB4;have c3:=b3.cell 0;simp at c3
   go_wp2
   exact Dm (v:= .int .i64 (mi (du o hs))) rfl rfl hK ⟨rfl,hb.trans (mS hD2 hK)⟩
  case body=>
   rintro l pre ⟨⟨xa,xc,xr⟩,hxm⟩ W ⟨⟨b4,b3⟩,hb⟩ hlen;obtain⟨hxr,hxl⟩:=H.v _ hxm;have hvx:=hval _ hxm;have hA:=Fw hvx;dsimp only at hxr hxl hvx hA;have HE:Hid (jQ (pre++[(⟨⟨xa,xc,xr⟩,hxm⟩:Mem o hs)])=jQ pre+area xr):=Lib.hid (TQ _ _);have hbd:=U9 hval pre;have hN:=H.n;have hX2:(if cg xr then area xr else 0)=area xr:=by rw[hvx];rfl
   have hwrap:ic.wrap (2*A-jQ pre-area xr)=2*A-jQ pre-area xr:=IntWalk.i64_in _ ⟨by omega,by omega⟩;generalize jQ pre=S at HE hbd b3 hwrap;have hX:=Lib.hid hX2;clear hX2 hvx hval B4 B3' hB4;refine wpIn_block ?_;dsimp only[RV.enc];refine Cv (by kernel_rfl) (by kernel_rfl) [15,16,17,18] [[],[],[1],[0,1,2],[0,1,2,3]] (by kernel_rfl) (by kernel_rfl) (by simp_all)
    (WR2 4 (λwx=>Below W.heap.size W wx) (λwx=>Blk wx p3 3 #[.int .i64 (2*A-S-area xr)]/\Blk wx p4 26 #[RV.enc o,.slice ah hs.length ch]/\Below w.heap.size w wx/\KeepsOthers W wx/\Below w.heap.size W wx))
    (λi v wx=>match i with
      |0=>v= .int .i64 (2*A-S)
      |1=>v= .slice xa xr.length xc
      |2=>v= .int .i64 (area xr)
      |3=>v= .int .i64 (2*A-S-area xr)
      |4=>True
      |_=>True)
    (WR2.start (Below.refl _ _).drew) ?_ ?_ ?_
   .grind
   .refine⟨?_,?_,?_,?_,?_,trivial⟩
    .intro D V wx hD hanc hdesc hin hWR;have hA:=hWR.lo (hdesc 4 (by kernel_rfl));have e3:=hin 3 (by kernel_rfl);simp at e3;have q0:=(Blk.then_ b3 hA).cell 0;simp at q0;refine opK ?_;intro K hK;simp[cI,execOp,bI,e3,q0,go_sem];exact hK _ _ ⟨rfl,(hWR.keep (by decide)),.inl rfl⟩
    .intro D V wx hD hanc hdesc hin hWR;have hA:=hWR.lo (hdesc 4 (by kernel_rfl));have e4:=hin 4 (by kernel_rfl);simp at e4;refine opK ?_;intro K hK;simp[cI,execOp,bI,e4,go_sem];exact hK _ _ ⟨rfl,(hWR.keep (by decide)),.inl rfl⟩
    .intro D V wx hD hanc hdesc hin hWR;have hA:=hWR.lo (hdesc 4 (by kernel_rfl));have e16:V 16= .slice xa xr.length xc:=(hanc 1 (by kernel_rfl)).2;refine opK ?_;intro K hK;simp[cI,execOp,bI,e16,go_sem];refine(K6 xa xc xr _ (hxr.below (hb.trans (hA.mono hb.size))) hxl).mono ?_;rintro e w1 ⟨rfl,hc⟩;rw[hX.out];exact⟨_,rfl,hK _ _ ⟨rfl,(.mkLo (hdesc 4 (by kernel_rfl)) (by decide) (Below.then_ hA hc)),.inr (.inl hc)⟩⟩
    .intro D V wx hD hanc hdesc hin hWR;have hA:=hWR.lo (hdesc 4 (by kernel_rfl));have e15:V 15= .int .i64 (2*A-S):=(hanc 0 (by kernel_rfl)).2;have e17:V 17= .int .i64 (area xr):=(hanc 2 (by kernel_rfl)).2;refine opK ?_;intro K hK;simp[cI,execOp,bI,e15,e17,hwrap,go_sem];exact hK _ _ ⟨rfl,(hWR.keep (by decide)),.inl rfl⟩
    .intro D V wx hD hanc hdesc hin hWR;have hA:=hWR.lo hD;have e3:=hin 3 (by kernel_rfl);simp at e3;have e18:V 18= .int .i64 (2*A-S-area xr):=(hanc 3 (by kernel_rfl)).2;refine opK ?_;intro K hK;have q0:=(Blk.then_ b3 hA).cell 0;have f0:=(Blk.then_ b3 hA).frozen 0;simp at q0;simp[cI,execOp,bI,e3,e18,q0,f0,go_sem];refine hK _ _ ⟨trivial,.mkHi ⟨by simpa using(Blk.then_ b3 hA).iV 0 (.int .i64 (2*A-S-area xr)),(Blk.then_ b4 hA).far (by grind) _,(hb.trans (hA.mono hb.size)).setCell (p:=⟨p3,0,none⟩) (by grind) _,(zC hA).trans (KeepsOthers.setCell _ _ _),((Below.refl w.heap.size W).trans (hA.mono hb.size)).setCell (p:=⟨p3,0,none⟩) (by grind) _⟩,.inr (.inr ?_)⟩;grind
   intro D V wx hall hf hWR;replace hWR:=hWR.hi (hall 4 (by decide));have f0:V 15= .int .i64 (2*A-S):=hf 0 (by decide);have f1:V 16= .slice xa xr.length xc:=hf 1 (by decide);have f2:V 17= .int .i64 (area xr):=hf 2 (by decide);have f3:V 18= .int .i64 (2*A-S-area xr):=hf 3 (by decide);clear hf hall;simp only[gq,vH,List.foldl_nil,f0,f1,f2,f3];simp only[Act.put,List.setIfInBounds_toArray,List.set_cons_succ,List.set_cons_zero];clear f0 f1 f2 f3;obtain⟨k1,k2,k3,k4,k5⟩:=hWR;refine⟨k4,⟨k5,Eq.trans k2 (Eq.symm b4)⟩,⟨k2,?_⟩,k3⟩;rw[HE.out,show 2*A-(S+area xr)=2*A-S-area xr by omega];exact k1
end
section
section
variable {C:bF} {w:World}
def cK.rdV(hC:∀b o v,C b o v->w.cell? ⟨b,o,none⟩=some v){r:List V}{b o:Nat}(h:cK C (fU r) b o):RdV w (some ⟨b,o,none⟩) r:=by
 intro i hi;have h1:=ue.at r i hi;have g0:(fU r)[i*2]? =some (.int .i64 r[i].x):=by have:=congrArg (λl=>l[0]?) h1;simpa[og,vL]using this
 have g1:(fU r)[i*2+1]? =some (.int .i64 r[i].y):=by have:=congrArg (λl=>l[1]?) h1;simpa[og,vL]using this
 obtain⟨v0,a1,_,a3⟩:=cK.get _ _ _ h _ _ g0;obtain⟨v1,b1,_,b3⟩:=cK.get _ _ _ h _ _ g1;unfold aU at a3 b3;subst a3 b3;have en:aEn r i=r[i] :=by unfold aEn;rw[de,eZ hi];rfl
 refine⟨b,o,rfl,jh w ⟨b,_,none⟩ (hC _ _ _ a1),?_,?_⟩
 .grind
 grind
def EZ(hC:∀b o v,C b o v->w.cell? ⟨b,o,none⟩=some v){r:List V}{v:Value}(h:aU C (gD r) v):∃a c,v= .slice a r.length c/\RdV w a r/\r.length<=c/\(a=none->c=0):=by
 unfold gD aU at h;obtain⟨a,c,rfl,h1,h2,h3⟩:=h;refine⟨a,c,rfl,?_,h1,λe=>(h2 e).1⟩;cases a with
 |none=>
  have:r=[] :=by have:=congrArg fW (h2 rfl).2;rw[ue.length]at this;exact nJ.1 (by grind)
  subst this;intro i hi;simp at hi
 |some ad=>
  obtain⟨b,o,sp⟩:=ad;obtain⟨h4,h5⟩:=h3 _ rfl;dsimp only at h4 h5;rcases rF r.length with hr0|hr0
  .intro i hi;omega
  .have h4:=h4 hr0;subst h4;exact h5.rdV hC
def Iy(hC:∀b o v,C b o v->w.cell? ⟨b,o,none⟩=some v):∀(l:List aD) (b o:Nat),cK C (l.map gD) b o->∃hs:List RV,hs.map RV.r=l/\(∀i,i<hs.length->b<w.heap.size/\w.cell? ⟨b,o+i,none⟩=some (RV.enc (hs.getD i default)))/\∀x∈hs,RdV w x.a x.r/\x.r.length<=x.c/\(x.a=none->x.c=0)
 |[],b,o,_=>⟨[],rfl,(λi h=>by simp at h),λx h=>by cases h⟩
 |r::l,b,o,h=>by
  rw[cT]at h;unfold cK at h;obtain⟨⟨v,h1,_,h2⟩,h3⟩:=h;obtain⟨a,c,rfl,h4,h5⟩:=EZ hC h2;obtain⟨hs,g1,g2,g3⟩:=Iy hC l b (o+1) h3;refine⟨⟨a,c,r⟩::hs,by simp[g1],?_,?_⟩
  .intro i hi;cases i with
   |zero=>exact⟨jh w ⟨b,_,none⟩ (hC _ _ _ h1),by simpa[RV.enc]using hC _ _ _ h1⟩
   |succ i=>
    grind
  grind
def Ve(hC:∀b o v,C b o v->w.cell? ⟨b,o,none⟩=some v){l:List aD}{v:Value}(h:aU C (nt l) v):
  ∃ah ch,∃hs:List RV,v= .slice ah hs.length ch/\hs.length<=ch/\hs.map RV.r=l/\RdH w.heap.size w ah hs/\∀x∈hs,RdV w x.a x.r/\x.r.length<=x.c/\(x.a=none->x.c=0):=by
 unfold nt aU at h;obtain⟨a,c,rfl,h1,h2,h3⟩:=h;cases a with
 |none=>
  have:l=[] :=by simpa using(h2 rfl).2
  subst this;exact⟨none,c,[],rfl,i5 _,rfl,(λi hi=>by simp at hi),λx hx=>by cases hx⟩
 |some ad=>
  obtain⟨b,o,sp⟩:=ad;obtain⟨h4,h5⟩:=h3 _ rfl;dsimp only at h4 h5;rcases rF l.length with hl0|hl0
  .have:l=[] :=nJ.1 hl0;subst this;exact⟨_,c,[],rfl,i5 _,rfl,(λi hi=>by simp at hi),λx hx=>by cases hx⟩
  have h4:=h4 hl0;subst h4;obtain⟨hs,g1,g2,g3⟩:=Iy hC l b o h5;have hl:hs.length=l.length:=by rw[<-g1];simp
  exact⟨_,c,hs,by rw[hl],by omega,g1,λi hi=>⟨b,o,rfl,(g2 i hi).1,(g2 i hi).2⟩,g3⟩
def zW(hC:∀b o v,C b o v->w.cell? ⟨b,o,none⟩=some v){s:Shape}{v:Value}(hf:Fit s)(h:aU C (kC s) v):
  ∃o ah ch hs,v= .agg #[RV.enc o,.slice ah hs.length ch]/\RdSh w o ah hs/\hs.length<=ch/\(∀x∈o::hs,x.r.length<=x.c)/\du o hs=s:=by
 unfold kC aU at h;obtain⟨vs,rfl,h1,_⟩:=h;unfold af at h1;obtain⟨v1,r1,rfl,h2,h3⟩:=h1;unfold af at h3;obtain⟨v2,r2,rfl,h4,h5⟩:=h3;unfold af at h5;subst h5;obtain⟨a,c,rfl,g1,g2⟩:=EZ hC h2;obtain⟨ah,ch,hs,rfl,k1,k2,k3,k4⟩:=Ve hC h4;have hl:hs.length=s.holes.length:=by rw[<-k2];simp
 refine⟨⟨a,c,s.outer⟩,ah,ch,hs,rfl,⟨k3,?_,by rw[hl];have:=hf.2.1;omega⟩,k1,?_,by unfold du;rw[k2]⟩
 .intro x hx;rcases bO.1 hx with rfl|hx
  .exact⟨g1,hf.1,g2.1,g2.2⟩
  .exact⟨(k4 x hx).1,hf.2.2 _ (by grind),(k4 x hx).2.1,(k4 x hx).2.2⟩
 grind
def Dj{cs:List PV}{us:List Value}{a:Option Addr}{n c N:Nat}(hr:Rd w a us)(hf:jG N a)(hn:a=none->c=0)(hc:n<=c)(hu:us.length=cs.length)(hsp:cs=[]->∀ad,a=some ad->ad.spot=none)
  (hv:∀(i:Nat) x u,cs[i]? =some x->us[i]? =some u->u.oneCell'=true/\aU (λb o x=>N<=b/\w.cell? ⟨b,o,none⟩=some x) x u):aU (λb o x=>N<=b/\w.cell? ⟨b,o,none⟩=some x) (.sl n cs) (.slice a n c):=by
 unfold aU;refine⟨a,c,rfl,hc,λha=>⟨hn ha,?_⟩,λad ha=> ?_⟩
 .cases cs with
  |nil=>rfl
  |cons x cs=>
   cases us with
   |nil=>simp at hu
   |cons u us=>obtain⟨b,off,h1,_⟩:=hr 0 u rfl;grind
 .subst ha;cases cs with
  |nil=>
   exact⟨λ_=>hsp rfl _ rfl,by unfold cK;trivial⟩
  |cons x cs=>
   cases us with
   |nil=>simp at hu
   |cons u us=>
    obtain⟨b,off,h1,_⟩:=hr 0 u rfl;cases h1;refine⟨λ_=>rfl,cK.of _ _ _ λi y hi=> ?_⟩;have hlt:i<(u::us).length:=by rw[hu];exact(rK.1 hi).1
    have hui:(u::us)[i]? =some (u::us)[i] :=eZ hlt;obtain⟨b',off',h2,_,h3⟩:=hr i _ hui;cases h2;obtain⟨g1,g2⟩:=hv i y _ hi hui;exact⟨_,⟨hf _ rfl,h3⟩,g1,g2⟩
end
def Uy{C:bF}(r:List V):(js r).length=(fU r).length/\∀(i:Nat) x u,(fU r)[i]? =some x->(js r)[i]? =some u->u.oneCell'=true/\aU C x u:=by
 refine⟨by rw[C4,ue.length],?_⟩;have key:∀(l:List V) (i:Nat) x u,(l.flatMap λv=>[PV.int .i64 v.x,PV.int .i64 v.y])[i]? =some x->(l.flatMap λv=>[cV .i64 v.x,cV .i64 v.y])[i]? =some u->u.oneCell'=true/\aU C x u:=by
  intro l;induction l with
  |nil=>grind
  |cons v l ih=>
   intro i x u h1 h2;simp only[fX,j7,rM]at h1 h2;match i with
   |0=>simp at h1 h2;subst h1 h2;exact⟨rfl,by unfold aU;rfl⟩
   |1=>simp at h1 h2;subst h1 h2;exact⟨rfl,by unfold aU;rfl⟩
   |i+2=>grind
 exact key r
def Uz{C:bF}(r:List S):(iT r).length=(CJ r).length/\∀(i:Nat) x u,(CJ r)[i]? =some x->(iT r)[i]? =some u->u.oneCell'=true/\aU C x u:=by
 refine⟨by rw[Io,aAW.length],?_⟩;have key:∀(l:List S) (i:Nat) x u,(l.flatMap λs=>[PV.int .i64 s.a.x,PV.int .i64 s.a.y,PV.int .i64 s.b.x,PV.int .i64 s.b.y])[i]? =some x->(l.flatMap λs=>[cV .i64 s.a.x,cV .i64 s.a.y,cV .i64 s.b.x,cV .i64 s.b.y])[i]? =some u->u.oneCell'=true/\aU C x u:=by
  intro l;induction l with
  |nil=>grind
  |cons v l ih=>
   intro i x u h1 h2;simp only[fX,j7,rM]at h1 h2;match i with
   |0=>simp at h1 h2;subst h1 h2;exact⟨rfl,by unfold aU;rfl⟩
   |1=>simp at h1 h2;subst h1 h2;exact⟨rfl,by unfold aU;rfl⟩
   |2=>simp at h1 h2;subst h1 h2;exact⟨rfl,by unfold aU;rfl⟩
   |3=>simp at h1 h2;subst h1 h2;exact⟨rfl,by unfold aU;rfl⟩
   |i+4=>grind
 exact key r
def XQ{w:World}{N:Nat}{v:Value}{xs:List S}(h:w.ownsRow N 46 4 v xs.length (iT xs)):aU (λb o x=>N<=b/\w.cell? ⟨b,o,none⟩=some x) (Gk xs) v:=by
 have hsp:∀a c,v= .slice a xs.length c->∀ad,a=some ad->ad.spot=none:=by
  intro a c hv ad ha;rcases h.2 with⟨h1,_⟩|⟨g,cap,cur,h1,_⟩
  .grind
  .grind
 obtain⟨a,c,rfl,h1,h2,h3,h4⟩:=Rd.Nd h;obtain⟨g1,g2⟩:=Uz (C:=λb o x=>N<=b/\w.cell? ⟨b,o,none⟩=some x) xs;exact Dj h1 h2 h3 h4 g1 (λ_=>hsp a c rfl) g2
def XV{w:World}{N:Nat}{a:Option Addr}{c:Nat}{xs:List V}(h:RdV w a xs)(hf:jG N a)(hc:xs.length<=c)(h0:0<xs.length):aU (λb o x=>N<=b/\w.cell? ⟨b,o,none⟩=some x) (gD xs) (.slice a xs.length c):=by
 obtain⟨b0,o0,rfl,_⟩:=h 0 h0;obtain⟨g1,g2⟩:=Uy (C:=λb o x=>N<=b/\w.cell? ⟨b,o,none⟩=some x) xs;refine Dj (us:=js xs) ?_ hf (λh=>by cases h) hc g1 (λ_ ad ha=>by cases ha;rfl) g2;intro i u hi;have hlt:i<xs.length*2:=by rw[<-C4];exact(rK.1 hi).1
 obtain⟨k,hk⟩:∃k,i=k*2\/i=k*2+1:=⟨i/2,by omega⟩;obtain⟨b,o,he,h1,h2,h3⟩:=h k (by omega);cases he;obtain⟨f0,f1⟩:=D9 xs k (by omega);grind
section
variable {fr:Bool}
def Sj(s:Shape)(hf:Fit s):Sat bD true 55 [kC s] (.bool (bJ s)):=by refine⟨by kernel_rfl,λC w vs hC h=> ?_⟩;unfold af at h;obtain⟨v,r,rfl,h1,h2⟩:=h;unfold af at h2;subst h2;obtain⟨o,ah,ch,hs,rfl,H,hch,_,rfl⟩:=zW hC hf h1;refine(Ct o ah ch hs w H hch).mono ?_;rintro e w' ⟨rfl,hb⟩;exact⟨_,rfl,by unfold aU;rfl,hb⟩
def Sl(s:Shape)(hf:Fit s):Sat bD true 131 [kC s] (Gk (bW s)):=by
 refine⟨by kernel_rfl,λC w vs hC h=> ?_⟩;unfold af at h;obtain⟨v,r,rfl,h1,h2⟩:=h;unfold af at h2;subst h2;obtain⟨o,ah,ch,hs,rfl,H,hch,_,rfl⟩:=zW hC hf h1;have hn:hs.length<=900:=by have:=hf.2.1;simpa[du]using this
 refine(Si o ah ch hs w H hn).mono ?_;rintro e w' ⟨v,rfl,hrow,hb⟩;exact⟨_,rfl,aU.mono (λb o x h=> .inr h) _ _ (XQ hrow),hb⟩
def Su(s:Shape)(hf:Fit s):Sat bD true 90 [kC s] (.int .i64 (if bJ s then mi s else 0)):=by refine⟨by kernel_rfl,λC w vs hC h=> ?_⟩;unfold af at h;obtain⟨v,r,rfl,h1,h2⟩:=h;unfold af at h2;subst h2;obtain⟨o,ah,ch,hs,rfl,H,hch,_,rfl⟩:=zW hC hf h1;refine(Ss o ah ch hs w H hch).mono ?_;rintro e w' ⟨rfl,hb⟩;exact⟨_,rfl,by unfold aU;rfl,hb⟩
def US{w:World}{N:Nat}{v:Value}{rs:List RV}(h:w.ownsRow N 23 1 v rs.length (rs.map RV.enc))(hx:∀x∈rs,RdV w x.a x.r/\jG N x.a/\x.r.length<=x.c/\0<x.r.length):
  aU (λb o x=>N<=b/\w.cell? ⟨b,o,none⟩=some x) (nt (rs.map RV.r)) v:=by
 have hsp:∀a c,v= .slice a rs.length c->∀ad,a=some ad->ad.spot=none:=by
  intro a c hv ad ha;rcases h.2 with⟨h1,_⟩|⟨g,cap,cur,h1,_⟩
  .grind
  .grind
 obtain⟨a,c,rfl,h1,h2,h3,h4⟩:=Rd.Nd h;unfold nt;rw[cL];refine Dj h1 h2 h3 h4 (by simp) (λ_=>hsp a c rfl) ?_;intro i x u hi hu;rw[fy,fy]at hi;rw[fy]at hu;cases hr:rs[i]? with
 |none=>grind
 |some y=>
  rw[hr]at hi hu;simp only[eI,fZ]at hi hu;subst hi hu;obtain⟨k1,k2,k3,k4⟩:=hx y (ID hr);exact⟨rfl,XV k1 k2 k3 k4⟩
def Sk(s:Shape)(hf:Fit s)(hp:0<s.outer.length/\∀r∈s.holes,0<r.length):Sat bD true 56 [kC s] (nt (aE s)):=by
 refine⟨by kernel_rfl,λC w vs hC h=> ?_⟩;unfold af at h;obtain⟨v,r,rfl,h1,h2⟩:=h;unfold af at h2;subst h2;obtain⟨o,ah,ch,hs,rfl,H,hch,_,rfl⟩:=zW hC hf h1;refine(Sh o ah ch hs w H λx hx=>by rcases bO.1 hx with rfl|hx;exact hp.1;exact hp.2 _ (bM.2 ⟨x,hx,rfl⟩)).mono ?_;rintro e w' ⟨v,rs,rfl,hrs,hrow,hok,hb⟩;refine⟨_,rfl,aU.mono (λb o x h=> .inr h) _ _ ?_,hb⟩;rw[<-hrs];refine US hrow λx hx=>⟨(hok x hx).rd,(hok x hx).fresh,(hok x hx).cap,?_⟩;have hm:x.r∈aE (du o hs):=by rw[<-hrs];exact bM.2 ⟨x,hx,rfl⟩
 unfold aE at hm;grind
end
def yI{α:Type}(fr:Bool)(A:Arl α)(pre:α->List Prop)(res:α->SV):Con:=⟨α,A.dec,pre,.val fr res⟩
def Ao{f:FuncId}{fr:Bool}{α:Type}{A:Arl α}{pre:α->List Prop}{res:α->SV}(B:α->List PV)(q:α->PV)(hB:∀x,avs (A.enc x)=(B x).map .p)(hq:∀x,(res x).av= .p (q x))(h:∀x,oZ (pre x)->Sat bD fr f (B x) (q x)):(yI fr A pre res).Okz f:=by intro s x hd hp;exact⟨B x,q x,(A.ok s x hd).trans (hB x),hq x,h x (jK.2 hp)⟩
def sX(l:List aD):LT.R.enc l=l.map gD:=by
 unfold LT.enc;induction l with
 |nil=>rfl
 |cons r l ih=>rw[fX,ih];rfl
def BN(s:Shape):avs ((a1 aSh).enc s)=[kC s].map .p:=by show [SV.av (.agg [.lst .V s.outer,.lst .R s.holes])] =_;show [eK [.p (.sl s.outer.length (fU s.outer)),.p (.sl s.holes.length (LT.R.enc s.holes))]] =_;rw[sX];rfl
def c55:Con:=yI true (a1 aSh) (λs=>[Fit s]) (λs=> .bool (bJ s))
def k55:c55.Okz 55:=Ao (λs=>[kC s]) (λs=> .bool (bJ s)) BN (λ_=>rfl) λs h=>Sj s h
def aD3:Con:=yI true (a1 aSh) (λs=>[Fit s]) (λs=> .lst .S (bW s))
def aCD:aD3.Okz 131:=Ao (λs=>[kC s]) (λs=>Gk (bW s)) BN (λ_=>rfl) λs h=>Sl s h
def c90:Con:=yI true (a1 aSh) (λs=>[Fit s]) (λs=> .int .i64 (if bJ s=true then mi s else 0))
def k90:c90.Okz 90:=Ao (λs=>[kC s]) (λs=> .int .i64 (if bJ s=true then mi s else 0)) BN (λ_=>rfl) λs h=>Su s h
def c56:Con:=yI true (a1 aSh) (λs=>[Fit s,0<s.outer.length,∀r∈s.holes,0<r.length]) (λs=> .lst .R (aE s))
def k56:c56.Okz 56:=Ao (λs=>[kC s]) (λs=>nt (aE s)) BN (λs=>by show AV.p (.sl _ (LT.R.enc _))=_;rw[sX];rfl) λs h=>Sk s h.1 h.2
noncomputable def tS:=(((Bx.adk k56).adk k90).adk aCD).adk k55
end
noncomputable def c77:Con:=con (ac (aL .V) (ac (aL .V) (a1 (aF 78)))) (λ(a,b,_)=>[a.length<=1000000,b.length<=1000000]) (λ(a,b,_)=> .iqz (cQ a b))
def k77:c77.Okz 77:=bH Bx (λ(a,b,_)=>[lp 2 13 a.length (λk=>[k<=b.length,aO (λj=>bi (aEn a j) (aEn b j)=0) k]) [] bg bg]
  ) (λ(_,_,_)=>⟨_,rfl⟩) λ(a,b,u) hp=>bC (aA (b.length:Int) λD=>aA (a.length:Int) λE=>(0=(0:Int)/\(0:Nat)<=a.length/\(0:Nat)<=b.length/\aO (λj=>bi (aEn a j) (aEn b j)=0) 0)/\
 (∀x:Nat,aA (x:Int) λA=>aA (aEn a x) λB=>aA (aEn b x) λC=>x<=a.length/\x<=b.length/\aO (λj=>bi (aEn a j) (aEn b j)=0) x->(A<a.length->ix A a.length/\(D<=x->1=cQ a b)/\
   (¬D<=x->ix A b.length/\(¬bi B C=0->bi B C=cQ a b)/\
    (¬(¬bi B C=0)->aH (A+1)/\A+1=((x+1:Nat):Int)/\x+1<=a.length/\x+1<=b.length/\aO (λj=>bi (aEn a j) (aEn b j)=0) (x+1)/\a.length-(x+1)<a.length-x)))/\
  (¬A<a.length->(E<b.length-> -1=cQ a b)/\
   (¬E<b.length->0=cQ a b)))) (by kernel_rfl) (by
  change a.length<=1000000/\b.length<=1000000 at hp;have g1:∀x:Nat,(x:Int)<a.length->x<=b.length->aO (λj=>bi (aEn a j) (aEn b j)=0) x->(b.length:Int)<=x->1=cQ a b:=λx h1 h2 h3 h4=>by rw[zF (k:=x) (by omega) h2 (.inr (by omega)) h3];unfold sgn;omega
  have g2:∀x:Nat,¬(x:Int)<a.length->x<=a.length->x<=b.length->aO (λj=>bi (aEn a j) (aEn b j)=0) x->cQ a b=sgn ((a.length:Int)-b.length):=λx h1 h2 h3 h4=>zF h2 h3 (.inl (by omega)) h4;have s1:(a.length:Int)<b.length-> -1=sgn ((a.length:Int)-b.length):=λh=>by unfold sgn;omega
  have s2:(a.length:Int)=b.length->0=sgn ((a.length:Int)-b.length):=λh=>by unfold sgn;omega
  with_reducible ((repeat' first|apply cF|intro);all_goals repeat cases‹_/\_›)
  all_goals first|rfl|exact(DX ‹_› ‹_› (by omega) (by omega)).symm|exact g1 _ ‹_› ‹_› ‹_› ‹_› |(rw[g2 _ ‹_› ‹_› ‹_› ‹_›];first|exact s1 ‹_› |omega)|exact cP ‹_› (nM ‹¬¬_›)|grind)
noncomputable def t77:=Bx.adk k77
noncomputable def c26:Con:=con (ac (aL .V) (a1 (aL .V))) (λ(a,b)=>[a.length<=1000000,b.length<=1000000]) (λ(a,b)=> .iqz (cQ a b))
def k26:c26.Okz 26:=bH t77 (λ(_,_)=>[]
 ) (λ(_,_)=>⟨_,rfl⟩) λ(a,b) hp=>bC (a.length<=1000000/\b.length<=1000000/\cQ a b=cQ a b) (by kernel_rfl) (by
 change a.length<=1000000/\b.length<=1000000 at hp;omega)
noncomputable def t26:=t77.adk k26
noncomputable def Rr:Con:=con (ac (aL .V) (a1 (aL .V))) (λ(a,b)=>[a.length<=1000,b.length<=1000,0<a.length,0<b.length]) (λ(a,b)=> .iqz (bi (aEn a 0) (aEn b 0)))
def aCG:Rr.Okz 127:=bH t26 (λ(_,_)=>[]
 ) (λ(_,_)=>⟨_,rfl⟩) λ(a,b) hp=>bC (ix 0 a.length/\ix 0 b.length/\bi (aEn a 0) (aEn b 0)=bi (aEn a 0) (aEn b 0)) (by kernel_rfl) (by
 change a.length<=1000/\b.length<=1000/\0<a.length/\0<b.length at hp;exact⟨by unfold ix;omega,by unfold ix;omega,rfl⟩)
def EK{α:Type}:∀(a:Ask α) (w:World),w.drawn<=(w.ask a).2.drawn
 | .done a,w=>bQ _
 | .ask what range k,w=>by
   unfold World.ask;dsimp only;split
   .exact EK _ w
   .exact cR (Nat.le_succ w.drawn) (EK (k _) {w with drawn:=w.drawn+1})
def J7(w:World)(c:Sys):w.drawn<=(w.sys c).2.drawn:=by have h:=EK (Kernel.perform c w.os) w;unfold World.sys;grind
def SZ{p:Program}{w w':World}{at_:Addr}{u:TypeId}{k:Addr}{v:Value}{b:Bool}{l:List Addr}(h:w.viewStore p at_ u k v b= .ok (w',l)):w'.drawn=w.drawn:=by
 unfold World.viewStore at h;simp only[bind,Except.bind,pure,Except.pure]at h
 repeat' split at h
 all_goals first|(cases h;done)|skip
 all_goals (try cases h;try rfl)
def Result.drew{α:Type}(w:World):Result α->Prop
 | .ok _ w'=>w.drawn<=w'.drawn
 | .halt _ w'=>w.drawn<=w'.drawn
def zX{α:Type}(p:Program):∀(s:Sem α) (w:World),Result.drew w (s.run p w):=by
 intro s;induction s with
 |pure a=>intro w;exact bQ _
 |load m a k ih=>
  intro w;unfold fm;split
  .exact ih _ w
  .split
   .exact ih _ w
   .exact bQ _
 |store m a v k ih=>
  intro w;have key:∀w1:World,w1.drawn=w.drawn->Result.drew w (k.run p w1):=by intro w1 h;have:=ih w1;revert this;generalize fm p _ _=r;intro h2;cases r<;>(show w.drawn<=_;rw[<-h];exact h2)
  have h0:∀h,Result.drew (α:=α) w (.halt h w):=λ_=>bQ _;cases v<;>simp only[fm];all_goals first|exact h0 _|skip
  all_goals
   split
   .split
    .exact h0 _
    .exact key _ rfl
   .split
    .rename_i h1;refine key _ ?_;unfold World.farStore at h1;split at h1
     .split at h1
      .rename_i h2;cases h1;exact SZ h2
      .cases h1
     .cases h1
    .exact h0 _
 |new o k ih=>intro w;unfold fm;exact ih _ _
 |shape r k ih=>intro w;unfold fm;exact ih _ _
 |freeze a n k ih=>
  intro w;unfold fm;have e:(w.freeze a n).drawn=w.drawn:=by unfold World.freeze;first|rfl|grind
  have:=ih (w.freeze a n);revert this;generalize fm p _ _=r;intro h2;cases r<;>(show w.drawn<=_;rw[<-e];exact h2)
 |frozen a k ih=>intro w;unfold fm;exact ih _ _
 |getObj r k ih=>
  intro w;unfold fm;split
  .exact bQ _
  .exact ih _ _
  .exact bQ _
 |setObj r o k ih=>
  intro w;unfold fm;split
  .exact bQ _
  .exact ih _
  .exact bQ _
 |choose q k ih=>
  intro w;unfold fm;split
  .exact ih _ w
  .have:=ih (q.cut (w.tape w.drawn q)) {w with drawn:=w.drawn+1};revert this;generalize fm p _ _=r;intro h;cases r<;>exact cR (Nat.le_succ _) h
 |sys c k ih=>
  intro w;unfold fm;have:=ih (w.sys c).1 (w.sys c).2;have h2:=J7 w c;revert this;generalize fm p _ _=r;intro h;cases r<;>exact cR h2 h
 |program k ih=>intro w;unfold fm;exact ih _ _
 |mark m k ih=>intro w;unfold fm;exact ih _
 |halt h=>intro w;exact bQ _
section
variable {p:Program}
def gn{α:Type}{s:Sem α}{w w':World}{a:α}(h:s.run p w= .ok a w'):w.drawn<=w'.drawn:=by have:=zX p s w;rw[h]at this;exact this
def nV{α:Type}{s:Sem α}{w w':World}{e:Halt}(h:s.run p w= .halt e w'):w.drawn<=w'.drawn:=by have:=zX p s w;rw[h]at this;exact this
def w9{α:Type}:∀(s:Sem α) (w:World) (es:Array Event),(s.runT p w es).1=s.run p w:=by simp_all
def Yu{α:Type}{s:Sem α}{w w':World}{a:α}{es es':Array Event}(h:s.runT p w es=(.ok a w',es')):w.drawn<=w'.drawn:=by have:=w9 (p:=p) s w es;rw[h]at this;exact gn this.symm
def Di{α:Type}{s:Sem α}{w w':World}{e:Halt}{es es':Array Event}(h:s.runT p w es=(.halt e w',es')):w.drawn<=w'.drawn:=by have:=w9 (p:=p) s w es;rw[h]at this;exact nV this.symm
def pU{α:Type}{s:Sem α}{w w':World}{a:α}{es:Array Event}(h:(s.runT p w es).1= .ok a w'):w.drawn<=w'.drawn:=gn ((w9 s w es).symm.trans h)
def mT{α:Type}{s:Sem α}{w w':World}{e:Halt}{es:Array Event}(h:(s.runT p w es).1= .halt e w'):w.drawn<=w'.drawn:=nV ((w9 s w es).symm.trans h)
def wd:GStep->Nat
 | .go _ w _=>w.drawn
 | .comm _ _ _ _ w _=>w.drawn
 | .spawn _ _ w _=>w.drawn
 | .count _ w _=>w.drawn
 | .timer _ _ w _=>w.drawn
 | .alone _ _ w _=>w.drawn
 | .newcoro _ _ _ w _=>w.drawn
 | .coroswitch _ _ _ w _=>w.drawn
 | .collect _ w _=>w.drawn
 | .watch _ w _=>w.drawn
 | .ended _ w _=>w.drawn
def ri(es:Array Event)(s:GStep):wd (s.after es)=wd s:=by cases s<;>rfl
def BK{c:Prop} [Decidable c]{a b:GStep}{n:Nat}(h1:n<=wd a)(h2:n<=wd b):n<=wd (if c then a else b):=by grind
def IZ(fr:Frame)(v:Value)(w:World):w.drawn<=wd (endPrinting p fr v w):=by unfold endPrinting;dsimp only;split<;>exact bQ _
def I8(fr:Frame)(cs:List Frame)(d:Option Dying)(m:String)(w:World):w.drawn<=wd (endFatal p fr cs d m w):=by
 unfold endFatal;dsimp only;split
 .exact gn (by assumption)
 .exact nV (by assumption)
 .exact nV (by assumption)
def Ux(fd:Nat)(t:ByteArray)(o:Outcome)(w:World):w.drawn<=wd (endWith w fd t o):=by
 have h:=J7 w (.write fd t);unfold endWith;dsimp only;split
 .rename_i e;rw[e]at h;split<;>exact h
 .rename_i e;rw[e]at h;exact h
 .rename_i e;rw[e]at h;exact h
def UA(fr:Frame)(d:Dying)(f:Fatal)(w:World):w.drawn<=wd (writeOn p fr d f w):=by
 unfold writeOn;dsimp only;split
 .exact bQ _
 .split
  .exact Yu (by assumption)
  .exact Di (by assumption)
  .exact Di (by assumption)
  .exact Di (by assumption)
def aAM(fr:Frame)(d:Dying)(w:World):w.drawn<=wd (die p fr d w):=by
 unfold die;split
 .exact UA _ _ _ _
 .split
  .split
   .exact bQ _
   .exact Ux _ _ _ _
  .split
   .exact bQ _
   .split
    .exact gn (by assumption)
    .exact nV (by assumption)
   .rw[ri];split
    .rename_i heq;exact pU heq
    .rename_i heq;exact pU heq
    .rename_i heq;exact mT heq
    .rename_i heq;exact cR (mT heq) (IZ _ _ _)
    .exact bQ _
   .exact bQ _
def YG(fr:Frame)(cs:List Frame)(d:Option Dying)(g:Nat)(w:World):w.drawn<=wd (early p fr cs d g w):=by
 unfold early;dsimp only
 repeat' split
 all_goals first|exact bQ _|(have h:=gn ‹fm p (choose (Question.early g)) w=yn _ _›;exact h)|exact nV ‹fm p (choose (Question.early g)) w=Result.halt _ _›
def DF(main:Bool)(fr:Frame)(cs:List Frame)(d:Option Dying)(v:Value)(w:World):wd (doReturn p main fr cs d v w)=w.drawn:=by
 unfold doReturn
 repeat' split
 all_goals rfl
def Sd(fr:Frame)(cs:List Frame)(d:Option Dying)(f:Deferred)(w:World):w.drawn<=wd (callDeferred p fr cs d f w):=by
 unfold callDeferred;refine BK ?_ ?_
 .exact bQ _
 .rw[ri];split;all_goals first
   |exact pU ‹_›
   |exact mT ‹_›
   |exact cR (mT ‹(Sem.runT p (invoke f.target f.args) w #[]).1=Result.halt _ _›) (I8 _ _ _ _ _)
   |(split<;>exact pU ‹(Sem.runT p (invoke f.target f.args) w #[]).1=yn _ _›)
def VF(main:Bool)(fr:Frame)(cs:List Frame)(d:Option Dying)(w:World):w.drawn<=wd (unwind p main fr cs d w):=by
 unfold unwind;split
 .rw[ri];split
  .exact pU ‹_›
  .exact mT ‹_›
 .exact Sd _ _ _ _ _
 .split
  .exact bQ _
  .split
   .exact bQ _
   .split
    .exact bQ _
    .split
     .split
      .exact bQ _
      .split
       .exact gn ‹_›
       .exact nV ‹_›
       .exact nV ‹_›
     .split
      .exact IZ _ _ _
      .exact bQ _
  .split
   .exact Cp (DF _ _ _ _ _ _).symm
   .rw[ri];split
    .exact cR (pU ‹_›) (Cp (DF _ _ _ _ _ _).symm)
    .exact mT ‹_›
    .exact mT ‹_›
def AX(listen:Bool)(fr:Frame)(cs:List Frame)(d:Option Dying)(s:Sem Next)(w:World):w.drawn<=wd (stepG.apply p listen fr cs d s w):=by
 unfold stepG.apply;have hr:Result.drew w (if listen=true then s.runT p w #[]else(s.run p w, #[])).1:=by
  split
  .rw[w9];exact zX _ _ _
  .exact zX _ _ _
 rw[ri];generalize (if listen=true then s.runT p w #[]else(s.run p w, #[])).1=r at hr|-;cases r with
 |ok a w'=>
  cases a;all_goals (try exact hr)
  all_goals (dsimp only;repeat' split)
  all_goals exact hr
 |halt e w'=>
  cases e with
  |unsupported u=>cases u<;>first|exact hr|exact cR hr (YG _ _ _ _ _)
  |fatal m=>exact cR hr (I8 _ _ _ _ _)
  |_=>exact hr
def Y8(listen:Bool)(fr:Frame)(cs:List Frame)(d:Option Dying)(w:World):w.drawn<=wd (stepG.oper p listen fr cs d w):=by
 unfold stepG.oper;split
 .exact bQ _
 .split<;>exact AX _ _ _ _ _ _
def Za(main:Bool)(listen:Bool)(fr:Frame)(cs:List Frame)(d:Option Dying)(w:World):w.drawn<=wd (stepG.exec p main listen fr cs d w):=by
 have hleave:∀jump:Option Code,w.drawn<=wd (match fr.roundOf with
   |none=>if jump matches none|some .ret then GStep.go {frame:={fr with mode:= .returning},callers:=cs,status:= .running,dying:=d} w else .ended (.stuck "exit, goto: no such block or label" (fr.pos p)) w
   |some l=>GStep.after (seen p fr.fn ((Instr.endRound l jump).runT p w #[]).2)<|match((Instr.endRound l jump).runT p w #[]).1 with
    | .ok v w=>doReturn p main fr cs d v w
    | .halt _ w=> .ended (.stuck "range over a function: no such loop" (fr.pos p)) w):=by
  intro jump;split
  .refine BK ?_ ?_<;>exact bQ _
  .rw[ri];split
   .exact cR (pU ‹_›) (Cp (DF _ _ _ _ _ _).symm)
   .exact mT ‹_›
 unfold stepG.exec;dsimp only;split;all_goals (try exact bQ _)
 all_goals (try exact hleave _)
 all_goals (try exact AX _ _ _ _ _ _)
 all_goals (try exact hleave none)
 all_goals (try exact hleave (some .ret))
 .split<;>exact bQ _
 .cases exitTo _ _
  .exact hleave (some (.exit _))
  .exact bQ _
 .cases gotoIn _ _
  .exact hleave (some (.goto _))
  .exact bQ _
 .rw[ri];split
  .exact cR (pU ‹_›) (AX _ _ _ _ _ _)
  .exact mT ‹_›
 .split
  .exact pU ‹_›
  .exact mT ‹_›
  .exact mT ‹_›
 .cases Extern.next _
  .exact bQ _
  .exact AX _ _ _ _ _ _
 .refine BK (bQ _) ?_;split
  .exact gn ‹_›
  .exact nV ‹_›
 .exact BK (Y8 _ _ _ _ _) (bQ _)
def W6(main:Bool)(g:Goroutine)(w:World)(listen:Bool):w.drawn<=wd (stepG p main g w listen):=by
 unfold stepG;split;split
 .exact aAM _ _ _
 .exact Za _ _ _ _ _ _
 .exact VF _ _ _ _ _
def sd(n:Nat):Stepped->Prop
 | .next m=>n<=m.world.drawn
 | .ended _ _=>True
def Nq(gs:Array Goroutine)(rest:Rest)(w:World):sd w.drawn (look p gs rest w):=by
 unfold look;split
 .dsimp only
  repeat' split
  all_goals first|exact trivial|skip
  all_goals (have h:=gn (p:=p) (w:=w) (by assumption);exact h)
 .exact trivial
def UD{rest:Rest}{cases:Array CommCase}{w w':World}(h:waitingAt rest cases w=some w'):w.drawn<=w'.drawn:=by unfold waitingAt at h;grind
def Zi(rest:Rest)(gs:Array Goroutine)(i:Nat)(g:Goroutine)(cases:Array CommCase)(b:Bool)(shape:CommShape)(w:World):sd w.drawn (communicate p rest gs i g cases b shape w).1:=by
 unfold communicate;dsimp only
 repeat' split
 all_goals first
  |exact trivial
  |exact bQ _
  |exact UD ‹_›
  |(have h:=gn (p:=p) (w:=w) (by assumption);first
     |exact h
     |(have h2:=nV (p:=p) ‹fm p (runtimePanic (RuntimeError.plain "send on closed channel")) _=Result.halt _ _›;exact cR h h2)
     |(have h2:=gn (p:=p) ‹fm p (choose (Question.extern "which waiting goroutine is the partner" _)) _=yn _ _›;exact cR h h2))
def YH(w:World)(c:Nat):(drain w c).2.drawn=w.drawn:=by unfold drain;split<;>rfl
def KI(m:Machine)(k:Nat)(t:Timer)(a b:Nat):(retime m k t a b).2.world.drawn=m.world.drawn:=by
 unfold retime;cases t.chan with
 |none=>rfl
 |some c=>exact YH _ _
def Vt{m m':Machine}{v:Addr}(h:timerOp.opened m v=some m'):m'.world.drawn=m.world.drawn:=by unfold timerOp.opened at h;grind
def L5{m m':Machine}{var:Addr}{f:Nat->Timer->Value×Machine}{v:Value}{n:Nat}(hf:∀k t,(f k t).2.world.drawn=n)(h:timerOp.named m var f= .ok (v,m')):m'.world.drawn=n:=by unfold timerOp.named at h;grind
def UI{m m':Machine}{op:TimerOp}{v:Value}(h:timerOp m op= .ok (v,m')):m'.world.drawn=m.world.drawn:=by
 unfold timerOp at h;split at h
 .split at h
  .cases h;rfl
  grind
 .exact L5 (λk t=>KI _ _ _ _ _) h
 .split at h
  .rename_i ho;exact(L5 (λk t=>KI _ _ _ _ _) h).trans (Vt ho)
  .cases h
 .cases h;rfl
def Yt(m:Machine)(i:Nat)(listen:Bool):sd m.world.drawn (runT p m i listen).1:=by
 unfold runT;generalize (m.gs.swapAt! i {(default:Goroutine)with status:= .finished})=q;obtain⟨g,gs⟩:=q;dsimp only;have hs:=W6 (p:=p) (i==0) g m.world listen;generalize stepG p (i==0) g m.world listen=s at hs|-;cases s with
 |ended o w es=>exact trivial
 |comm g cases b shape w es=>
  have:=Zi (p:=p) m.rest gs i g cases b shape w;revert this;generalize (communicate p m.rest gs i g cases b shape w).1=r;intro h;cases r with
  |next m'=>exact cR hs h
  |ended _ _=>exact trivial
 |go g w es=>exact hs
 |spawn g c w es=>exact hs
 |count g w es=>
  dsimp only;split
  .exact trivial
  .exact hs
 |alone g on w es=>exact hs
 |collect g w es=>
  have:=Nq (p:=p) (gs.setIfInBounds i g) m.rest w;dsimp only;revert this;generalize look p (gs.setIfInBounds i g) m.rest w=r;intro h;cases r with
  |next m'=>exact cR hs h
  |ended _ _=>exact trivial
 |watch g w es=>exact hs
 |newcoro g c d w es=>exact hs
 |coroswitch g c exit w es=>
  dsimp only;split
  .exact hs
  .exact hs
  .exact trivial
 |timer g op w es=>
  dsimp only;split
  .rename_i h;exact cR hs (Cp (UI h).symm)
  .exact hs
  .exact trivial
  .exact trivial
def md(n:Nat):Move->Prop
 | .goroutine m _=>n<=m.world.drawn
 | .machine s _=>sd n s
def XJ(m:Machine)(k:Nat):sd m.world.drawn (serve p m k):=by
 unfold serve;split
 .exact trivial
 .exact bQ _
 .dsimp only;split
  .exact trivial
  .exact bQ _
def Gr{a b:Nat}{x:Move}(h:a<=b)(hx:md b x):md a x:=by
 cases x with
 |goroutine m i=>exact cR h hx
 |machine s ops=>cases s with
  |next m=>exact cR h hx
  |ended _ _=>exact trivial
def E7(m:Machine):md m.world.drawn (askOn p m):=by
 unfold askOn;dsimp only
 repeat' split
 all_goals first
  |exact trivial
  |(have h:=gn (p:=p) (w:=m.world) (by assumption);first
     |exact h
     |exact Gr h (XJ (p:=p) _ _)
     |exact cR h (gn (p:=p) (by assumption))
     |exact cR h (cR (gn (p:=p) (by assumption)) (gn (p:=p) (by assumption)))
     |exact cR h (cR (gn (p:=p) (by assumption)) (cR (gn (p:=p) (by assumption)) (gn (p:=p) (by assumption))))
     |(have h2:=gn (p:=p) ‹fm p (choose (Question.extern "clock.wait" _)) _=yn _ _›;first
        |exact cR h h2
        |(have h3:=gn (p:=p) ‹fm p (choose (Question.sched _)) _=yn _ _›;first
           |exact cR h (cR h2 h3)
           |(have h4:=gn (p:=p) ‹fm p (choose (Question.extern "sched.slice" _)) _=yn _ _›;exact cR h (cR h2 (cR h3 h4))))))
  |skip
def PI(m:Machine):md m.world.drawn (ask p m):=by
 unfold ask;split
 .split
  .exact trivial
  .rename_i w1 h1;have h2:=Nq (p:=p) m.gs m.rest w1;have h1:=gn h1;split
   .rename_i h3;rw[h3]at h2;exact Gr (cR h1 h2) (E7 _)
   .cases hl:look p m.gs m.rest w1 with
    |next m'=>grind
    |ended _ _=>exact trivial
  .rename_i h1;exact Gr (gn h1) (E7 _)
 .exact E7 m
def ZI(m:Machine):md m.world.drawn (move p m):=by
 unfold move;split
 .split
  .exact bQ _
  .exact trivial
 .split
  .split
   .exact bQ _
   .exact PI _
  .exact PI _
def UJ{m m':Machine}(h:step p m= .next m'):m.world.drawn<=m'.world.drawn:=by
 have hm:=ZI (p:=p) m;unfold step stepT at h;cases hv:move p m with
 |goroutine m1 i=>
  rw[hv]at hm h;have:=Yt (p:=p) m1 i true;rw[h]at this;exact cR hm this
 |machine s ops=>
  rw[hv]at hm h;dsimp only at h;rw[h]at hm;exact hm
def DM:∀(n:Nat) {m m':Machine},runN p n m= .next m'->m.world.drawn<=m'.world.drawn
 |0,m,m',h=>by cases h;omega
 |n+1,m,m',h=>by
  unfold runN at h;split at h
  .rename_i m1 h1;exact cR (UJ h1) (DM n h)
  grind
def JB{f:FuncId}{args:Array Value}{w:World}{R:Ending->World->Prop}(h:Calls p f args w R)(hn:∀w',¬R .outgrown w'):Calls p f args w λe w'=>R e w'/\w.drawn<=w'.drawn:=by
 intro cs;obtain⟨e,w',fr,h1,h2,h3⟩:=h cs;refine⟨e,w',fr,⟨h1,?_⟩,h2,h3⟩;cases e with
 |returned v=>obtain⟨n,hn⟩:=h2;exact DM n hn
 |panicked c=>obtain⟨n,hn⟩:=h2;exact DM n hn
 |outgrown=>grind
end
end Go.Proofs.YtdaeofhdgabhjaaGreat
namespace Go.Proofs
open Go.Shelf
def Tryz.sort68_ren:Go.Shelf.Ren:=⟨λ|6=>68|15=>143|14=>142|28=>195|29=>196|20=>187|21=>188|22=>189|23=>190|24=>191|25=>192|26=>193|27=>194|46=>210|47=>211|48=>212|49=>213|50=>214|57=>226|n=>n,λ|22=>24|24=>23|25=>40|3=>3|39=>134|0=>0|53=>170|55=>172|4=>4|46=>163|45=>162|50=>167|5=>5|9=>9|66=>180|70=>184|76=>193|77=>60|n=>n,λ|n=>n⟩
def Tryz.sort68:Go.Proofs.SlLaysF.n6 bD Tryz.sort68_ren:={
 mixed:=by kernel_rfl
 f6:=⟨Tryz.f68.name,by decide,Tryz.func68.trans (congrArg some (by kernel_rfl))⟩
 f14:=⟨Tryz.f142.name,by decide,Tryz.func142.trans (congrArg some (by kernel_rfl))⟩
 f15:=Tryz.func143.trans (congrArg some (by kernel_rfl))
 f20:=⟨Tryz.f187.name,by decide,Tryz.func187.trans (congrArg some (by kernel_rfl))⟩
 f21:=⟨Tryz.f188.name,by decide,Tryz.func188.trans (congrArg some (by kernel_rfl))⟩
 f22:=⟨Tryz.f189.name,by decide,Tryz.func189.trans (congrArg some (by kernel_rfl))⟩
 f23:=⟨Tryz.f190.name,by decide,Tryz.func190.trans (congrArg some (by kernel_rfl))⟩
 f24:=⟨Tryz.f191.name,by decide,Tryz.func191.trans (congrArg some (by kernel_rfl))⟩
 f25:=⟨Tryz.f192.name,by decide,Tryz.func192.trans (congrArg some (by kernel_rfl))⟩
 f26:=⟨Tryz.f193.name,by decide,Tryz.func193.trans (congrArg some (by kernel_rfl))⟩
 f27:=⟨Tryz.f194.name,by decide,Tryz.func194.trans (congrArg some (by kernel_rfl))⟩
 f28:=Tryz.func195.trans (congrArg some (by kernel_rfl))
 f29:=Tryz.func196.trans (congrArg some (by kernel_rfl))
 f46:=⟨Tryz.f210.name,by decide,Tryz.func210.trans (congrArg some (by kernel_rfl))⟩
 f47:=Tryz.func211.trans (congrArg some (by kernel_rfl))
 f48:=Tryz.func212.trans (congrArg some (by kernel_rfl))
 f49:=⟨Tryz.f213.name,by decide,Tryz.func213.trans (congrArg some (by kernel_rfl))⟩
 f50:=⟨Tryz.f214.name,by decide,Tryz.func214.trans (congrArg some (by kernel_rfl))⟩
 f57:=⟨Tryz.f226.name,by decide,Tryz.func226.trans (congrArg some (by kernel_rfl))⟩
 t0:=Tryz.underlying0
 a0:=Tryz.isAgg0
 z0:=Tryz.sizeOf0
 v0:=Tryz.zeroValue0
 t3:=o4
 a3:=Tryz.isAgg3
 z3:=Tryz.sizeOf3
 v3:=Tryz.zeroValue3
 t4:=Tryz.underlying4
 a4:=Tryz.isAgg4
 z4:=Tryz.sizeOf4
 v4:=Tryz.zeroValue4
 t5:=Tryz.underlying5
 a5:=Tryz.isAgg5
 z5:=Tryz.sizeOf5
 v5:=Tryz.zeroValue5
 t9:=Tryz.underlying9
 a9:=Tryz.isAgg9
 z9:=Tryz.sizeOf9
 v9:=Tryz.zeroValue9
 t22:=Co
 a22:=Tryz.isAgg24
 z22:=Tryz.sizeOf24
 v22:=Tryz.zeroValue24
 a24:=Tryz.isAgg23
 z24:=Tryz.sizeOf23
 t25:=Tryz.underlying40
 a25:=Tryz.isAgg40
 z25:=Tryz.sizeOf40
 v25:=Tryz.zeroValue40
 t39:=Tryz.underlying134
 a39:=Tryz.isAgg134
 z39:=Tryz.sizeOf134
 v39:=Tryz.zeroValue134
 t45:=Tryz.underlying162
 a45:=Tryz.isAgg162
 z45:=Tryz.sizeOf162
 v45:=Tryz.zeroValue162
 t46:=Tryz.underlying163
 a46:=Tryz.isAgg163
 z46:=Tryz.sizeOf163
 v46:=Tryz.zeroValue163
 t50:=Tryz.underlying167
 a50:=Tryz.isAgg167
 z50:=Tryz.sizeOf167
 v50:=Tryz.zeroValue167
 t53:=Tryz.underlying170
 a53:=Tryz.isAgg170
 z53:=Tryz.sizeOf170
 v53:=Tryz.zeroValue170
 t55:=Tryz.underlying172
 a55:=Tryz.isAgg172
 z55:=Tryz.sizeOf172
 v55:=Tryz.zeroValue172
 t66:=Tryz.underlying180
 a66:=Tryz.isAgg180
 z66:=Tryz.sizeOf180
 v66:=Tryz.zeroValue180
 t70:=Tryz.underlying184
 a70:=Tryz.isAgg184
 z70:=Tryz.sizeOf184
 v70:=Tryz.zeroValue184
 t76:=Tryz.underlying193
 a76:=Tryz.isAgg193
 z76:=Tryz.sizeOf193
 v76:=Tryz.zeroValue193
 t77:=Tryz.underlying60
 a77:=Tryz.isAgg60
 z77:=Tryz.sizeOf60
 v77:=Tryz.zeroValue60}
end Go.Proofs
namespace Go.Proofs.YtdaeofhdgabhjaaGreat
structure Lay(w w':World):Prop where
 below:Below w.heap.size w w'
 drawn:w.drawn<=w'.drawn
def Lay.grow{w w':World}(h:Lay w w'):∃q os,w'=Cq (w.drewN q) os:=by
 obtain⟨p,hp⟩:=Il h.below;refine⟨w'.drawn-w.drawn,p.os,?_⟩;have hd:=h.drawn;have hn:w'.drawn=p.n:=by rw[hp];rfl
 rw[hp];unfold grD Cq World.drewN;grind
def Ns{f:Nat}{xa ya:Option Addr}{xc yc:Nat}{xs ys:aD}{w:World}{i:Int}(hk:∃A q,avs [SV.lst .V xs,.lst .V ys] =A.map .p/\(SV.int .i64 i).av= .p q/\Sat bD false f A q)(hx:RdV w xa xs)(hy:RdV w ya ys)(lx:Len ⟨xa,xc,xs⟩)(ly:Len ⟨ya,yc,ys⟩):
  Calls bD f #[.slice xa xs.length xc,.slice ya ys.length yc] w λe w'=>e= .returned (.int .i64 i)/\Lay w w':=
 (JB (xH hk (B:=[.sl xs.length (fU xs),.sl ys.length (fU ys)]) rfl rfl (λC v h=>by unfold aU at h;exact h)
   ((af.one (o9 hy ly)).Bp (o9 hx lx))) (by grind)).mono λe w' h=>⟨h.1.1,h.1.2,h.2⟩
def yJ(x y:aD):Int:=bi (aEn x 0) (aEn y 0)
section
open Go.RowKit Go.Sort Go.Shelf Go.Lib
section
variable {α:Type} [Inhabited α]
def IV{enc:α->Value}{w:World}{g n:Nat}{d:Array α}{os:Array Obj}{cur:Array Value}{t:TypeId}(hb:w.heap[g]? =some (.cells cur t (0,0))):(sortWorld enc w g 0 n d os).heap[g]? =some (.cells (putCells enc 0 d cur) t (0,0)):=by have hlt:=(vq.1 hb).1;unfold sortWorld Cq putRow mapBlock;simp only[heap_ahead];rw[Array.getElem?_append_left (by grind),Array.getElem?_modify,if_pos rfl,hb];rfl
def Cs{enc:α->Value}{w:World}{g n:Nat}{d:Array α}{os:Array Obj}:w.grownBy (sortWorld enc w g 0 n d os) (some g):=by
 refine⟨rfl,rfl,rfl,?_,?_⟩
 .unfold sortWorld Cq putRow mapBlock;simp
 .intro k hk hne;unfold sortWorld Cq putRow mapBlock;simp only[heap_ahead];grind
def Sz{enc:α->Value}{d:Array α}{cur:Array Value}(h:d.size<=cur.size):(putCells enc 0 d cur).toList.take d.size=d.toList.map enc:=by
 apply List.ext_getElem?;intro i;rw[og];by_cases hi:i<d.size
 .rw[if_pos hi];unfold putCells;grind
 grind
end
def Ib(g:Nat)(hg:∀args w,(callFunc g args).run bD w= .ok (.enter g args) w)(cf:aD->aD->Int)(base:Nat)(v:Value)(rs:List RV)(w:World)(hl:rs.length<=1000000)
  (hrow:w.ownsRow base 23 1 v rs.length (rs.map RV.enc)) (hok:∀x∈rs,RingOk base w v x) (hO:SWO (ltOf λx y:{x:RV//x∈rs}=>cf x.1.r y.1.r))
  (hcmp:∀x∈rs,∀y∈rs,∀wx,RdV wx x.a x.r->RdV wx y.a y.r->Calls bD g #[x.enc,y.enc] wx λe w'=>e= .returned (.int .i64 (cf x.r y.r))/\Lay wx w'):
  Calls bD 68 #[v,.func (.func g) #[] #[]] w λe w'=>e= .returned (.tuple #[])/\∃rs':List RV,rs'.Perm rs/\rs'.Pairwise (λa b=>¬cf b.r a.r<0)/\w'.ownsRow base 23 1 v rs'.length (rs'.map RV.enc)/\(∀x∈rs',RingOk base w' v x)/\w.grownBy w' v.ownBlock:=by
 by_cases hr0:rs=[]
 .subst hr0;have hv:∃p cap,v= .slice p 0 cap:=by
   rcases hrow.2 with⟨h1,_⟩|⟨gb,cap,cur,h1,_⟩
   .grind
   .grind
  obtain⟨p,cap,rfl⟩:=hv;have h:=AnyF.slices_SortFunc_none (P:=bD) (ρ:=Tryz.sort68_ren) {Tryz.sort68 with} p cap (.func (.func g) #[] #[]) w;change Calls bD 68 _ _ _ at h;refine h.mono ?_;rintro e w' ⟨rfl,rfl⟩;exact⟨rfl,[],CL _,rE,hrow,hok,⟨rfl,rfl,rfl,bQ _,λ_ _ _=>rfl⟩⟩
 .obtain⟨x0,hx0⟩:=SG _ hr0;have:Inhabited {x:RV//x∈rs}:=⟨⟨x0,hx0⟩⟩;rcases hrow.2 with⟨_,h1⟩|⟨gb,cap,cur,rfl,hbb,hh,hn,hcap,hsz,htk⟩
  .grind
  .obtain⟨d,hd⟩:∃d:Array {x:RV//x∈rs},d=rs.attach.toArray:=⟨_,rfl⟩;have hds:d.size=rs.length:=by rw[hd];simp
   have hdm:d.toList.map (·.1)=rs:=by rw[hd];simp
   have hcs:rs.length<=cur.size:=by rw[hsz];omega
   have hH:Holds (λx:{x:RV//x∈rs}=>RV.enc x.1) w gb 0 d:=by
    intro j hj;have e1:cur[j]? =some (RV.enc d[j]!.1):=by
     have e2:(cur.toList.take (rs.length*1))[j]? =(rs.map RV.enc)[j]? :=by rw[htk]
     rw[og,if_pos (by omega)]at e2;have e3:(rs.map RV.enc)[j]? =some (RV.enc d[j]!.1):=by
      have e4:((d.toList.map (·.1)).map RV.enc)[j]? =some (RV.enc d[j]!.1):=by rw[cv,fy];simp[hj]
      rw[hdm]at e4;exact e4
     rw[e3]at e2;simpa using e2
    refine⟨?_,?_⟩
    .rw[jg];exact(cell_of_row w gb j cur 23 (0,0) hh).trans e1
    .simp[World.frozen?,hh]
   have hblk:gb<w.heap.size:=(vq.1 hh).1;have h:=Any.slices_SortFunc (P:=bD) (ρ:=Tryz.sort68_ren) Tryz.sort68 (λx:{x:RV//x∈rs}=>RV.enc x.1) (λ_=>rfl) (λx y=>cf x.1.r y.1.r) hO g #[] gb 0 cap d w hg (by intro m os dk hdk x y;have hG:=Cs (enc:=λx:{x:RV//x∈rs}=>RV.enc x.1) (w:=w) (g:=gb) (n:=m) (d:=dk) (os:=os);have h1:=hcmp x.1 x.2 y.1 y.2 _ ((hok x.1 x.2).rd.grown (hok x.1 x.2).sep hG) ((hok y.1 y.2).rd.grown (hok y.1 y.2).sep hG);rw[show(#[RV.enc x.1,RV.enc y.1] ++(#[] :Array Value))= #[RV.enc x.1,RV.enc y.1] by simp];exact h1.mono λe w' ⟨he,hL⟩=>⟨he,hL.grow⟩) hH hblk (by omega)
   change Calls bD 68 _ _ _ at h;rw[hds]at h;refine h.mono ?_;rintro e w' ⟨rfl,d',n,os,hp,hs,rfl⟩;obtain⟨p1,_,p3⟩:=hp;have hG:=Cs (enc:=λx:{x:RV//x∈rs}=>RV.enc x.1) (w:=w) (g:=gb) (n:=n) (d:=d') (os:=os);have hperm:d'.toList.Perm d.toList:=by
    have e1:(d'.extract 0 rs.length).toList=d'.toList:=by rw[<-hds,<-p1];simp
    have e2:(d.extract 0 rs.length).toList=d.toList:=by rw[<-hds];simp
    rwa[e1,e2]at p3
   have hpr:(d'.toList.map (·.1)).Perm rs:=by have:=hperm.map (·.1);rwa[hdm]at this
   have hlen:(d'.toList.map (·.1)).length=rs.length:=hpr.length_eq;refine⟨rfl,d'.toList.map (·.1),hpr,?_,?_,?_,hG⟩
   .rw[ia,nB];intro i j hi hj hij;have hj':j<d'.size:=by simpa using hj
    have:=hs i j (i5 _) hij (by omega);unfold ltOf at this;grind
   .refine⟨by simp,.inr ⟨gb,cap,_,by rw[hlen],hbb,IV hh,by omega,hcap,by unfold putCells;grind,?_⟩⟩;rw[hlen,Nat.mul_one,<-hds,<-p1,Sz (by omega),cv];rfl
   .intro x hx;have hx2:=hpr.mem_iff.1 hx;have ok:=hok x hx2;exact⟨ok.rd.grown ok.sep hG,ok.fresh,ok.cap,ok.len,ok.sep⟩
end
def T5{rs:List RV}:Sort.SWO (ltOf λx y:{x:RV//x∈rs}=>cQ x.1.r y.1.r):=by
 have h:∀x y:{x:RV//x∈rs},ltOf (λx y:{x:RV//x∈rs}=>cQ x.1.r y.1.r) x y=true↔cQ x.1.r y.1.r<0:=by intro x y;unfold ltOf;rw[decide_eq_true_eq]
 refine⟨?_,?_,?_⟩
 .intro x;rw[vO,ne_eq,h];have:=TN x.1.r;omega
 .intro x y z h1 h2;rw[h]at*;exact Cy _ _ _ h1 h2
 .intro x y z h1 h2;rw[vO,ne_eq,h]at*;have e1:=qG x.1.r y.1.r;have e2:=qG y.1.r z.1.r;have e3:=qG x.1.r z.1.r;have:= @Ik z.1.r y.1.r x.1.r;unfold iF at this;omega
def U5{a b:aD}(h:¬cQ b a<0):iF a b:=by have:=qG a b;unfold iF;omega
def Vh{C:bF}{w:World}{b:Nat}(hC:∀b' o v,C b' o v->w.cell? ⟨b',o,none⟩=some v/\b'≠b){r:List V}{v:Value}(h:aU C (gD r) v):
  ∃a c,v= .slice a r.length c/\RdV w a r/\r.length<=c/\(0<r.length->∀ad,a=some ad->ad.block≠b)/\(a=none->c=0):=by
 obtain⟨a,c,hv,h1,h2,h0n⟩:=EZ (λb' o v h=>(hC b' o v h).1) h;refine⟨a,c,hv,h1,h2,λh0 ad ha=> ?_,h0n⟩;unfold gD aU at h;obtain⟨a',c',hv',_,_,h3⟩:=h;rw[hv]at hv';simp only[Value.slice.injEq,true_and]at hv';obtain⟨rfl,rfl⟩:=hv';obtain⟨_,h5⟩:=h3 _ ha;have hl:0<(fU r).length:=by rw[ue.length];omega
 obtain⟨u,h6,_⟩:=h5.get _ _ _ 0 _ (eZ hl);grind
structure RingIn(C:bF)(w:World)(b:Nat)(x:RV):Prop where
 rep:aU C (gD x.r) x.enc
 rd:RdV w x.a x.r
 cap:x.r.length<=x.c
 sep:0<x.r.length->∀ad,x.a=some ad->ad.block≠b
 nn:x.a=none->x.c=0
def KF{C:bF}{w:World}{b:Nat}(hC:∀b' o v,C b' o v->w.cell? ⟨b',o,none⟩=some v/\b'≠b):∀(l:List aD) (us:List Value),
  (∀(i:Nat) x,(l.map gD)[i]? =some x->∃v,us[i]? =some v/\aU C x v)->∃rs:List RV,rs.map RV.r=l/\rs.map RV.enc=us.take l.length/\∀x∈rs,RingIn C w b x
 |[],us,_=>⟨[],rfl,by simp,by simp⟩
 |r::l,us,h=>by
  obtain⟨v,h1,h2⟩:=h 0 (gD r) rfl;cases us with
  |nil=>simp at h1
  |cons u us=>
   simp at h1;subst h1;obtain⟨rs,h3,h4,h5⟩:=KF hC l us λi x hi=>by simpa using h (i+1) x (by grind)
   obtain⟨a,c,rfl,g1,g2,g3,g4⟩:=Vh hC h2;refine⟨⟨a,c,r⟩::rs,by simp[h3],by simp[h4,RV.enc],?_⟩;intro x hx;rcases bO.1 hx with rfl|hx
   .exact⟨h2,g1,g2,g3,g4⟩
   grind
def Uq{w w':World}(h:w.grownBy w' none):Below w.heap.size w w':=⟨h.os,h.tape,h.output,h.size,λk hk=>h.block k hk (by simp)⟩
def aAY(args:Array Value)(w:World):(callFunc 26 args).run bD w= .ok (.enter 26 args) w:=kk (by kernel_rfl) args w
def aAy{rs:List RV}(h:∀x∈rs,Len x):∀x∈rs,∀y∈rs,∀wx,RdV wx x.a x.r->RdV wx y.a y.r->Calls bD 26 #[x.enc,y.enc] wx λe w'=>e= .returned (.int .i64 (cQ x.r y.r))/\Lay wx w':=
 λx hx y hy wx h1 h2=>Ns (k26 [.lst .V x.r,.lst .V y.r] (x.r,y.r) rfl ((jK (l:=c26.pre (x.r,y.r))).1 ⟨cR (h x hx).1 (by decide),cR (h y hy).1 (by decide)⟩)) h1 h2 (h x hx) (h y hy)
def KE(g:Nat)(hg:∀args w,(callFunc g args).run bD w= .ok (.enter g args) w)(cf:aD->aD->Int)(l m:List aD)(hn:l.length<=1000000)(hl:∀r∈l,r.length<=1000)(hlen:m.length=l.length)
  (hO:∀rs:List RV,rs.map RV.r=l->Sort.SWO (ltOf λx y:{x:RV//x∈rs}=>cf x.1.r y.1.r))
  (hc:∀rs:List RV,rs.map RV.r=l->(∀x∈rs,Len x)->∀x∈rs,∀y∈rs,∀wx,RdV wx x.a x.r->RdV wx y.a y.r->Calls bD g #[x.enc,y.enc] wx λe w'=>e= .returned (.int .i64 (cf x.r y.r))/\Lay wx w')
  (hu:∀k:List aD,k.Perm l->k.Pairwise (λa b=>¬cf b a<0)->k=m):mF bD 68 (some l.length) [.fn (.func g) [] []] 23 1 (l.map gD) (m.map gD):=by
 have hfn:∀(C:bF) (vs:List Value),af C [.fn (.func g) [] []] vs->vs=[.func (.func g) #[] #[]] :=by intro C vs h;unfold af at h;obtain⟨v,r,rfl,h1,h2⟩:=h;unfold af at h2;subst h2;unfold aU at h1;obtain⟨a,b,rfl,h3,h4⟩:=h1;unfold af at h3 h4;subst h3;subst h4;rfl
 refine⟨by kernel_rfl,by simp[hlen],?_,?_⟩
 .intro C w b c arr vs hC hL hnc hA;rw[hfn C vs hA];have hnc:=hnc _ rfl;obtain⟨h1,h2,h3⟩:=hL.row (by decide);obtain⟨rs,g1,g2,g3⟩:=KF hC l arr.toList λi x hi=>by obtain⟨v,k1,_,k2⟩:=hL.cells i x hi;grind
  have hrl:rs.length=l.length:=by rw[<-g1,cL]
  have hr1:∀x∈rs,x.r.length<=1000:=λx hx=>hl _ (by grind);have hrow:w.ownsRow 0 23 1 (.slice (some ⟨b,0,none⟩) l.length c) rs.length (rs.map RV.enc):=
   ⟨by simp,.inr ⟨b,c,arr,by rw[hrl],i5 _,hL.blk,by omega,h3,h1,by grind⟩⟩
  refine(Ib g hg cf 0 _ rs w (by omega) hrow ?_ (hO rs g1) (hc rs g1 λx hx=>⟨hr1 x hx,(g3 x hx).cap,(g3 x hx).nn⟩)).mono ?_
  .intro x hx;refine⟨(g3 x hx).rd,λad _=>i5 _,(g3 x hx).cap,hr1 x hx,λh0 ad ha e=>(g3 x hx).sep h0 ad ha ?_⟩;simp only[Value.ownBlock,fZ]at e;exact e.symm
  .rintro e w' ⟨rfl,rs',hp,hs,hrow',hok',hg⟩;have hso:rs'.map RV.r=m:=by refine hu _ (by grind) ?_;rw[ia];exact hs
   obtain⟨hz,hcase⟩:=hrow';rcases hcase with⟨e,_⟩|⟨gb,cap,cur,e,_,hblk,hnc',hcm,hsz,htk⟩
   .cases e
   .simp only[Value.slice.injEq,fZ,Addr.mk.injEq,and_true]at e;obtain⟨rfl,e2,rfl⟩:=e;refine⟨cur,rfl,⟨hblk,λh=>absurd h (by decide),λ_=>⟨hsz,by grind,hcm⟩,?_⟩,hg⟩;intro i x hi;rw[<-hso,cv]at hi;rw[fy]at hi;cases hx:rs'[i]? with
    |none=>grind
    |some y=>
     rw[hx]at hi;simp only[eI,fZ,yT]at hi;subst hi;have hi':i<rs'.length:=(rK.1 hx).1;have hy:y∈rs:=hp.mem_iff.1 (ID hx);have h7:(rs'.map RV.enc)[i]? =some y.enc:=by rw[fy,hx];rfl
     rw[<-htk,List.getElem?_take_of_lt (by omega)]at h7;exact⟨y.enc,by grind,rfl,(g3 y hy).rep⟩
 .intro h0 C w vs hC hA;rw[hfn C vs hA];have hl0:l=[] :=nJ.1 (by grind);subst hl0;refine(Ib g hg cf 0 (.slice none 0 0) [] w (by simp) ⟨by simp,.inl ⟨rfl,rfl⟩⟩ (by simp) (hO [] rfl) (hc [] rfl (by simp))).mono ?_;rintro e w' ⟨rfl,rs',_,_,_,_,hg⟩;exact⟨rfl,Uq hg⟩
def OI(a b:aD):yJ a b<0↔bf (aEn a 0) (aEn b 0)=true:=by unfold yJ;exact xT _ _
def aAf(args:Array Value)(w:World):(callFunc 127 args).run bD w= .ok (.enter 127 args) w:=kk (by kernel_rfl) args w
def YM{rs:List RV}:Sort.SWO (ltOf λx y:{x:RV//x∈rs}=>yJ x.1.r y.1.r):=by
 have h:∀x y:{x:RV//x∈rs},ltOf (λx y:{x:RV//x∈rs}=>yJ x.1.r y.1.r) x y=true↔bf (aEn x.1.r 0) (aEn y.1.r 0)=true:=by intro x y;unfold ltOf;rw[decide_eq_true_eq,OI]
 refine⟨?_,?_,?_⟩
 .intro x;rw[vO,ne_eq,h,Dx];simp
 .intro x y z h1 h2;rw[h]at*;revert h1 h2;unfold bf;grind
 .intro x y z h1 h2;rw[vO,ne_eq,h]at*;revert h1 h2;unfold bf;grind
def UQ(l:List aD)(hn:l.length<=1000000)(hl:∀r∈l,r.length<=1000):mF bD 68 (some l.length) [.fn (.func 26) [] []] 23 1 (l.map gD) ((pf l).map gD):=
 KE 26 aAY cQ l _ hn hl (wO l).length_eq (λ_ _=>T5) (λ_ _ hL=>aAy hL)
  λk hp hs=>Ig hp (hs.imp λh=>U5 h)
def Td(l:List aD)(hn:l.length<=1000000)(hl:∀r∈l,0<r.length/\r.length<=1000)(ha:∀a∈l,∀b∈l,leH a b->leH b a->a=b):mF bD 68 (some l.length) [.fn (.func 127) [] []] 23 1 (l.map gD) ((qq l).map gD):=by
 have hm:∀rs:List RV,rs.map RV.r=l->∀x∈rs,x.r∈l:=λrs hr x hx=>by grind
 refine KE 127 aAf yJ l _ hn (λr hr=>(hl r hr).2) (lV l).length_eq (λ_ _=>YM) (λrs hr hL x hx y hy wx h1 h2=> ?_) λk hp hs=> ?_
 .have g1:=hl _ (hm rs hr x hx);have g2:=hl _ (hm rs hr y hy);exact Ns (aCG [.lst .V x.r,.lst .V y.r] (x.r,y.r) rfl ((jK (l:=Rr.pre (x.r,y.r))).1 ⟨g1.2,g2.2,g1.1,g2.1⟩)) h1 h2 (hL x hx) (hL y hy)
 .have hs:k.Pairwise leH:=hs.imp λ{a b} h=>by rw[OI]at h;exact(qH _ _).1 (by simpa using h)
  exact R8 (λa b h1 h2 h3 h4=>ha a (hp.mem_iff.1 h1) b ((lV l).mem_iff.1 h2) h3 h4) hs (TE l) (hp.trans (lV l).symm)
def d68:List SV->Option (List aD×Bool)
 |[.lst .R l,.fnp 26 [] []] =>some (l,true)
 |[.lst .R l,.fnp 127 [] []] =>some (l,false)
 |_=>none
def r68:List aD×Bool->List aD
 |(l,true)=>pf l
 |(l,false)=>qq l
def p68:List aD×Bool->List Prop
 |(l,true)=>[l.length<=1000000,∀r∈l,r.length<=1000]
 |(l,false)=>[l.length<=1000000,∀r∈l,0<r.length/\r.length<=1000,∀a∈l,∀b∈l,leH a b->leH b a->a=b]
def YJ{l:List aD}{rest:List SV}{x:List aD×Bool}(h:d68 (.lst .R l::rest)=some x):(rest=[.fnp 26 [] []]/\x=(l,true))\/(rest=[.fnp 127 [] []]/\x=(l,false)):=by unfold d68 at h;grind
def c68:Con:=⟨List aD×Bool,d68,p68,.mutR .R 23 r68⟩
def k68:c68.Okz 68:=by
 intro l rest x hd hp;rcases YJ hd with⟨rfl,rfl⟩|⟨rfl,rfl⟩
 .refine⟨[.fn (.func 26) [] []],rfl,?_⟩;rw[sX];show mF _ _ _ _ _ _ _ (LT.R.enc (pf l));rw[sX];exact UQ l (hp _ cE) (hp _ (cB _ cE))
 .refine⟨[.fn (.func 127) [] []],rfl,?_⟩;rw[sX];show mF _ _ _ _ _ _ _ (LT.R.enc (qq l));rw[sX];exact Td l (hp _ cE) (hp _ (cB _ cE)) (hp _ (cB _ (cB _ cE)))
noncomputable def t68:=tS.adk k68
section
def D4{p:Pt}{w:Int}:∀{l:List aD} {k:Nat},k<l.length->(∀j,j<k->¬bY (aC l j) p=2/\¬bY (aC l j) p=1)->(bY (aC l k) p=2->0=jT p l w)/\(¬bY (aC l k) p=2->bY (aC l k) p=1->1=jT p l w)
 |[],k,h,_=>by simp at h
 |r::l,0,h,_=>by
  unfold jT;refine⟨λe=> ?_,λe1 e2=> ?_⟩
  .rw[if_pos (show bY r p=2 from e)]
  .rw[if_neg (show¬bY r p=2 from e1),if_pos (show bY r p=1 from e2)]
 |r::l,k+1,h,h1=>by
  unfold jT;obtain⟨e1,e2⟩:=h1 0 (by omega);rw[if_neg (show¬bY r p=2 from e1),if_neg (show¬bY r p=1 from e2)];exact D4 (l:=l) (k:=k) (by simpa using h) λj hj=>h1 (j+1) (by omega)
def Jp{p:Pt}{w:Int}:∀{l:List aD},(∀j,j<l.length->¬bY (aC l j) p=2/\¬bY (aC l j) p=1)->w=jT p l w
 |[],_=>rfl
 |r::l,h1=>by
  unfold jT;obtain⟨e1,e2⟩:=h1 0 (by simp);rw[if_neg (show¬bY r p=2 from e1),if_neg (show¬bY r p=1 from e2)];exact Jp (l:=l) λj hj=>h1 (j+1) (by grind)
noncomputable def c66:Con:=con (ac aSh (a1 aT)) (λ(s,_)=>[Fit s]) (λ(s,p)=> .iqz (eJ s p))
def k66:c66.Okz 66:=bH t68 (λ(s,p)=>[cnt 7 21 s.holes.length (aO λj=>¬bY (aC s.holes j) p=2/\¬bY (aC s.holes j) p=1)]
  ) (λ(_,_)=>⟨_,rfl⟩) λ(s,p) hp=>bC (aA (!bJ s) λB=>Fit s/\(B=true->0=eJ s p)/\
 (B=false->s.outer.length<=1000/\(¬bY s.outer p=2->bY s.outer p=eJ s p)/\
  (¬(¬bY s.outer p=2)->(0=(0:Int)/\(0:Nat)<=s.holes.length/\aO (λj=>¬bY (aC s.holes j) p=2/\¬bY (aC s.holes j) p=1) 0)/\
   (∀x:Nat,aA (x:Int) λA=>aA (aC s.holes x) λC=>x<=s.holes.length/\aO (λj=>¬bY (aC s.holes j) p=2/\¬bY (aC s.holes j) p=1) x->(A<s.holes.length->ix A s.holes.length/\C.length<=1000/\(bY C p=2->0=eJ s p)/\
     (¬bY C p=2->(bY C p=1->1=eJ s p)/\
      (¬bY C p=1->aH (A+1)/\A+1=((x+1:Nat):Int)/\x+1<=s.holes.length/\aO (λj=>¬bY (aC s.holes j) p=2/\¬bY (aC s.holes j) p=1) (x+1)/\s.holes.length-(x+1)<s.holes.length-x)))/\
    (¬A<s.holes.length->bY s.outer p=eJ s p))))) (by kernel_rfl) (by
  change Fit s at hp;have w0:(!bJ s)=true->0=eJ s p:=λh=>by unfold eJ;rw[if_pos h]
  have w1:(!bJ s)=false->¬bY s.outer p=2->bY s.outer p=eJ s p:=λh h2=>by unfold eJ;grind
  have w2:(!bJ s)=false->¬¬bY s.outer p=2->eJ s p=jT p s.holes 2:=λh h2=>by unfold eJ;grind
  have hl:∀x:Nat,(x:Int)<s.holes.length->(aC s.holes x).length<=1000:=λx h=>hp.2.2 _ (gG (by omega));have hn:=hp.2.1;have ho:=hp.1;have a2:∀x:Nat,(x:Int)<s.holes.length->aO (λj=>¬bY (aC s.holes j) p=2/\¬bY (aC s.holes j) p=1) x->bY (aC s.holes x) p=2->0=jT p s.holes 2:=λx h1 h2 h3=>(D4 (by omega) h2).1 h3;have a1:∀x:Nat,(x:Int)<s.holes.length->aO (λj=>¬bY (aC s.holes j) p=2/\¬bY (aC s.holes j) p=1) x->¬bY (aC s.holes x) p=2->bY (aC s.holes x) p=1->1=jT p s.holes 2:=λx h1 h2 h3 h4=>(D4 (by omega) h2).2 h3 h4;have a0:∀x:Nat,¬(x:Int)<s.holes.length->x<=s.holes.length->aO (λj=>¬bY (aC s.holes j) p=2/\¬bY (aC s.holes j) p=1) x->2=jT p s.holes 2:=λx h1 h2 h3=>by
   obtain rfl:x=s.holes.length:=by omega
   exact Jp h3
  have hf:=hp;clear hp
  repeat' first|with_reducible apply cF|with_reducible intro
  all_goals repeat with_reducible cases‹_/\aO _ _›
  all_goals first|assumption|rfl|omega|(unfold ix;omega)|(unfold aH;omega)|exact ii _|exact w0 ‹_› |exact w1 ‹_› ‹_› |exact hl _ ‹_› |(rw[w2 ‹_› ‹_›];exact a2 _ ‹_› ‹_› ‹_›)|(rw[w2 ‹_› ‹_›];exact a1 _ ‹_› ‹_› ‹_› ‹_›)|(rw[w2 ‹_› ‹_›,nM ‹¬¬bY s.outer p=2›];exact a0 _ ‹_› ‹_› ‹_›)|exact cP ‹_› ⟨‹_›,‹_›⟩)
noncomputable def t66:=t68.adk k66
def aK(s:Shape):Shape:=if bJ s=true then dC s else⟨[],[]⟩
def Uj{s:Shape}(h:VS s):∀a∈s.holes.map co,∀b∈s.holes.map co,leH a b->leH b a->a=b:=by
 have hn:=h.nodup;unfold bl aE at hn;rw[lN,nC]at hn;have hn2:((s.holes.map co).flatten).Nodup:=(IT s.holes).nodup_iff.2 hn.2.1;have hne:∀r∈s.holes.map co,aEn r 0∈r:=by intro r hr;obtain⟨q,hq,rfl⟩:=bM.1 hr;have h3:=(h.ring (show q∈aE s by simp[aE,hq])).three;exact fO.2 ⟨0,by rw[kl];omega,rfl⟩
 intro a ha b hb h1 h2;have e:aEn a 0=aEn b 0:=xE h1 h2;exact yu _ hn2 a ha b hb (aEn a 0) (hne a ha) (by grind)
def DJ{s:Shape}(h:VS s):s.holes.map db=s.holes.map co:=iy λr hr=>by unfold db;rw[(gv r).2 (h.ring (by simp[aE,hr]))];rfl
noncomputable def c57:Con:=con (a1 aSh) (λs=>[Fit s]) (λs=>aSh.enc (aK s))
def k57:c57.Okz 57:=bH t66 (λs=>[(5,.mk Nat (λF _=>ms F 17) [15] (λk=>[k<=s.holes.length]) (λk=>[(17,.iqz (k:Int))]) (λk=>[(9,.box 26 [.lst .V (db s.outer),.own 15 .R k]),(15,.row 23 .R ((s.holes.take k).map db))]) (λk=>s.holes.length-k) bg)]
  ) (λ_=>⟨_,rfl⟩) λs hp=>bC (aA (aK s) λA=>aA (0:Nat) λC=>aA (!bJ s) λD=>aA ([] :List (List aEo)) λH=>Fit s/\(D=true->A.outer=([] :List aEo)/\A.holes=H)/\
 (D=false->s.outer.length<=1000/\(0=(0:Int)/\db s.outer=db s.outer/\C=0/\cX db (aW 0 s.holes)=H/\C<=s.holes.length)/\
  (∀x:Nat,aA (x:Int) λB=>aA (aC s.holes x) λE=>aA (aW x s.holes) λF=>aA (cX db F) λG=>aA (cX db F,false) λI=>x<=s.holes.length->(B<s.holes.length->ix B s.holes.length/\E.length<=1000/\x=G.length/\G.length+[db E].length<=1000000/\aH (B+1)/\B+1=((x+1:Nat):Int)/\db s.outer=db s.outer/\(cX db F++[db E]).length=x+1/\cX db F++[db E] =cX db (aW (x+1) s.holes)/\x+1<=s.holes.length/\s.holes.length-(x+1)<s.holes.length-x)/\
   (¬B<s.holes.length->x=G.length/\G.length<=1000000/\(∀r:aD,r∈cX db F->C<r.length/\r.length<=1000)/\(∀a:aD,a∈cX db F->(∀b:aD,b∈cX db F->leH a b->leH b a->a=b))/\x=(r68 I).length/\db s.outer=A.outer/\r68 I=A.holes)))) (by kernel_rfl) (by
  change Fit s at hp;have c0:(!bJ s)=true->aK s=⟨[],[]⟩:=λh=>by unfold aK;grind
  have c1:(!bJ s)=false->aK s=dC s:=λh=>by unfold aK;grind
  have V:(!bJ s)=false->VS s:=λh=>(kS s).1 (nb h);have hl:∀x:Nat,(x:Int)<s.holes.length->(aC s.holes x).length<=1000:=λx h=>hp.2.2 _ (gG (by omega));have hn:=hp.2.1;have ho:=hp.1;have e1:∀x:Nat,x<=s.holes.length->(cX db (aW x s.holes)).length=x:=λx h=>by grind
  have e2:∀x:Nat,(x:Int)<s.holes.length->cX db (aW x s.holes)++[db (aC s.holes x)] =cX db (aW (x+1) s.holes):=λx h=>by rw[kR (by omega),dQ,jM (by omega)];rfl
  have e3:∀x:Nat,¬(x:Int)<s.holes.length->aW x s.holes=s.holes:=λx h=>gu (by omega);have g1:(!bJ s)=false->∀x:Nat,¬(x:Int)<s.holes.length->∀r∈cX db (aW x s.holes),0<r.length/\r.length<=1000:=λh x hx r hr=>by rw[e3 x hx,DJ (V h)]at hr;obtain⟨q,hq,rfl⟩:=bM.1 hr;rw[kl];have h3:=((V h).ring (show q∈aE s by simp[aE,hq])).three;have:=hp.2.2 q hq;omega
  have g2:(!bJ s)=false->∀x:Nat,¬(x:Int)<s.holes.length->∀a∈cX db (aW x s.holes),∀b∈cX db (aW x s.holes),leH a b->leH b a->a=b:=λh x hx=>by rw[e3 x hx,DJ (V h)];exact Uj (V h)
  have g3:∀l,(r68 (l,false)).length=l.length:=λl=>(lV l).length_eq;have g4:(!bJ s)=false->db s.outer=(aK s).outer:=λh=>by rw[c1 h];unfold db;rw[(gv _).2 ((V h).ring (by simp[aE]))];rfl
  have g5:(!bJ s)=false->∀x:Nat,¬(x:Int)<s.holes.length->r68 (cX db (aW x s.holes),false)=(aK s).holes:=λh x hx=>by rw[e3 x hx,DJ (V h),c1 h];rfl
  have hf:=hp;clear hp
  repeat' first|with_reducible apply cF|with_reducible intro
  all_goals grind)
noncomputable def t57:=t66.adk k57
noncomputable def aDp:Con:=con (a1 aS) (λs=>[bd 1000000000 s.a,bd 1000000000 s.b]) (λs=>aT.enc (fF s))
def aB0:aDp.Okz 183:=bH t57 (λs=>[jb 3 26 (decide ((s.a.x+s.b.x).tmod 2=0)&&decide ((s.a.y+s.b.y).tmod 2=0))]
  ) (λ_=>⟨_,rfl⟩) λs hp=>bC (aA (2:Int) λA=>aA (s.a.x+s.b.x) λB=>aA (s.a.y+s.b.y) λC=>aA (fF s) λD=>aA (decide (c8 B 2=0)&&decide (c8 C 2=0)) λE=>aH B/\aH C/\(A≠0/\(c8 B 2=0->A≠0/\decide (c8 C 2=0)=E)/\
  (¬c8 B 2=0->false=E))/\
 (∀y:Unit,(E=true->A≠0/\aH (fM B 2)/\A≠0/\aH (fM C 2)/\fM B 2=D.x/\fM C 2=D.y/\1=D.den)/\
  (E=false->s.a.x+s.b.x=D.x/\s.a.y+s.b.y=D.y/\2=D.den))) (by kernel_rfl) (by
  change bd 1000000000 s.a/\bd 1000000000 s.b at hp;unfold bd at hp;have k1:aH (s.a.x+s.b.x):=bT (by omega);have k2:aH (s.a.y+s.b.y):=bT (by omega);have q1:=o8 (x:=s.a.x+s.b.x) (g:=2) (B:=4000000000) (by omega);have q2:=o8 (x:=s.a.y+s.b.y) (g:=2) (B:=4000000000) (by omega);have k3:aH (fM (s.a.x+s.b.x) 2):=bT (by omega);have k4:aH (fM (s.a.y+s.b.y) 2):=bT (by omega);have m1:(decide (c8 (s.a.x+s.b.x) 2=0)&&decide (c8 (s.a.y+s.b.y) 2=0))=true->fF s=⟨(s.a.x+s.b.x).tdiv 2,(s.a.y+s.b.y).tdiv 2,1⟩:=λh=>by simp only[bm,decide_eq_true_eq]at h;exact if_pos h
  have m2:(decide (c8 (s.a.x+s.b.x) 2=0)&&decide (c8 (s.a.y+s.b.y) 2=0))=false->fF s=⟨s.a.x+s.b.x,s.a.y+s.b.y,2⟩:=λh=>if_neg λh2=>by grind
  grind)
noncomputable def QX:=t57.adk aB0
noncomputable def aD0:Con:=con (ac aS (a1 aS)) (λ(_,_)=>[]) (λ(s,t)=> .bool (cC s t)
 )
def aCA:aD0.Okz 134:=bH QX (λ(_,_)=>[]) (λ(_,_)=>⟨_,rfl⟩) λ(s,t) _=>bC ((bn s t=0->true=cC s t)/\
 (¬bn s t=0->(bn s t=1->(s.a=t.a->true=cC s t)/\
   (¬s.a=t.a->(s.a=t.b->true=cC s t)/\
    (¬s.a=t.b->(s.b=t.a->true=cC s t)/\
     (¬s.b=t.a->decide (s.b=t.b)=cC s t))))/\
  (¬bn s t=1->false=cC s t))) (by kernel_rfl) (by
  have hd:∀a b:aEo,(a==b)=decide (a=b):=λa b=>by grind
  unfold cC pQ;grind)
noncomputable def RA:=QX.adk aCA
def aPS:Ar S where
 enc s:= .pro [.int .i64 s.a.x,.int .i64 s.a.y,.int .i64 s.b.x,.int .i64 s.b.y] 0
 dec s:=match s with
  | .pro [.int .i64 x,.int .i64 y,.int .i64 z,.int .i64 w] 0=>some ⟨⟨x,y⟩,⟨z,w⟩⟩
  |_=>none
 ok s a h:=by grind
 pl _:=⟨_,rfl⟩
def P4:Ar (S×Unit):=aCl 133 (ac aPS a0)
noncomputable def aD1:Con:=con (ac aS (a1 aPS)) (λ(_,_)=>[]) (λ(d,c)=> .bool (!cC c d)
 )
def aCB:aD1.Okz 133:=bH RA (λ(_,_)=>[]) (λ(_,_)=>⟨_,rfl⟩) λ(d,c) _=>bC (aA (!cC c d) λA=>A=A) (by kernel_rfl) (by rfl)
noncomputable def RB:=RA.adk aCB
noncomputable def aDq:Con:=con (ac (aL .S) (a1 P4)) (λ(l,_)=>[l.length<=1000000]) (λ(l,c)=> .iqz (fI (λd=> !cC c.1 d) l))
def aB1:aDq.Okz 182:=bH RB (λ(l,c)=>[cnt 2 8 l.length (aO λj=>(!cC c.1 (az l j))=false)]
  ) (λ(_,_)=>⟨_,rfl⟩) λ(l,c) hp=>bC ((0=(0:Int)/\(0:Nat)<=l.length/\aO (λj=>(!cC c.1 (az l j))=false) 0)/\
 (∀x:Nat,aA (x:Int) λA=>aA (!cC c.1 (az l x)) λB=>x<=l.length/\aO (λj=>(!cC c.1 (az l j))=false) x->(A<l.length->ix A l.length/\(B=true->A=fI (λd=>(!cC c.1 d)) l)/\
   (B=false->aH (A+1)/\A+1=((x+1:Nat):Int)/\x+1<=l.length/\aO (λj=>(!cC c.1 (az l j))=false) (x+1)/\l.length-(x+1)<l.length-x))/\
  (¬A<l.length-> -1=fI (λd=>(!cC c.1 d)) l))) (by kernel_rfl) (by
  change l.length<=1000000 at hp
  with_reducible ((repeat' first|apply cF|intro);all_goals repeat cases‹_/\_›)
  all_goals first|rfl|exact pm (t:= .S) (by omega) ‹_› ‹_› |(obtain rfl:_=l.length:=tG ‹_› (by omega);exact sJ (t:= .S) ‹_›)|grind)
noncomputable def QY:=RB.adk aB1
noncomputable def aD2:Con:=con (ac (aL .S) (a1 P4)) (λ(l,_)=>[l.length<=1000000]) (λ(l,c)=> .bool (l.any λd=> !cC c.1 d)
 )
def aCC:aD2.Okz 132:=bH QY (λ(_,_)=>[]) (λ(_,_)=>⟨_,rfl⟩) λ(l,c) hp=>bC (l.length<=1000000/\decide (0<=fI (λd=>(!cC c.1 d)) l)=fc l (λd=>(!cC c.1 d))) (by kernel_rfl) (by change l.length<=1000000 at hp;exact⟨hp,uX _ _⟩)
noncomputable def RC:=QY.adk aCC
noncomputable def aDZ:Con:=con (ac aSh (ac (aL .S) (a1 aS))) (λ(s,l,c)=>[Fit s,l.length<=1000000,bd 1000000000 c.a,bd 1000000000 c.b]) (λ(s,l,c)=> .bool ((l.all λe=>cC e c)&&eJ s (fF c)==2))
def aCz:aDZ.Okz 135:=bH RC (λ(_,l,c)=>[cnt 2 11 l.length (aO λj=>cC (az l j) c=true)]
  ) (λ(_,_,_)=>⟨_,rfl⟩) λ(s,l,c) hp=>bC (aA (fF c) λB=>(0=(0:Int)/\(0:Nat)<=l.length/\aO (λj=>cC (az l j) c=true) 0)/\
 (∀x:Nat,aA (x:Int) λA=>aA (!cC (az l x) c) λC=>x<=l.length/\aO (λj=>cC (az l j) c=true) x->(A<l.length->ix A l.length/\(C=true->false=(tH l (λe=>cC e c)&&eJ s B==2))/\
   (C=false->aH (A+1)/\A+1=((x+1:Nat):Int)/\x+1<=l.length/\aO (λj=>cC (az l j) c=true) (x+1)/\l.length-(x+1)<l.length-x))/\
  (¬A<l.length->bd 1000000000 c.a/\bd 1000000000 c.b/\Fit s/\decide (eJ s B=2)=(tH l (λe=>cC e c)&&eJ s B==2)))) (by kernel_rfl) (by
  change Fit s/\l.length<=1000000/\bd 1000000000 c.a/\bd 1000000000 c.b at hp;have n1:∀x:Nat,(x:Int)<l.length->(!cC (az l x) c)=true->false=(tH l (λe=>cC e c)&&eJ s (fF c)==2):=λx h1 h2=>by rw[BR (t:= .S) (l:=l) (q:=λe=>cC e c) (j:=x) (by omega) (nb' h2)];rfl
  have n2:∀x:Nat,¬(x:Int)<l.length->x<=l.length->aO (λj=>cC (az l j) c=true) x->decide (eJ s (fF c)=2)=(tH l (λe=>cC e c)&&eJ s (fF c)==2):=λx h1 h2 h3=>by
   obtain rfl:x=l.length:=by omega
   rw[Av (t:= .S) (l:=l) (q:=λe=>cC e c) h3,oc,eY];simp
  obtain⟨hf,hll,hb1,hb2⟩:=hp
  repeat' first|with_reducible apply cF|with_reducible intro
  all_goals repeat with_reducible cases‹_/\aO _ _›
  all_goals first|rfl|with_reducible solve_by_elim|exact cP ‹_› (nb ‹_›)|grind)
noncomputable def Q9:=RC.adk aCz
def pK(s:Shape)(v:List aEo)(i k:Nat):List (Nat×Nat):=aEv s v (da s v i) i (k-(i+1))
def tkB(s:Shape)(v:List aEo)(i k:Nat):Bool:= !((pK s v i k).any λd=> !(cC ⟨aEn v i,aEn v k⟩ (cS v d)))&&fE s ⟨aEn v i,aEn v k⟩
section
variable {s:Shape} {v:List aEo} {i k:Nat}
def Y7:pK s v i (i+1)=da s v i:=by unfold pK;rw[Nat.sub_self];rfl
def NV(h:i<k):pK s v i (k+1)=if tkB s v i k=true then pK s v i k++[(i,k)]else pK s v i k:=by unfold tkB pK;rw[show k+1-(i+1)=(k-(i+1))+1 by omega];show n8 s v _ i (i+1+(k-(i+1)))=_;rw[show i+1+(k-(i+1))=k by omega];rfl
def aAm(h:¬(k:Int)<v.length)(h2:k<=v.length):pK s v i k=da s v (i+1):=by
 obtain rfl:k=v.length:=by omega
 rfl
def EX(acc:List (Nat×Nat)):∀m,(aEv s v acc i m).length<=acc.length+m
 |0=>bQ _
 |m+1=>by
  have:=EX acc m;unfold aEv n8;grind
def y9:∀i,(da s v i).length<=i*v.length
 |0=>by simp[da]
 |i+1=>by
  have h1:=y9 i;have h2:=EX (s:=s) (v:=v) (i:=i) (da s v i) (v.length-(i+1));unfold da;grind
def aAl(hv:v.length<=900)(hi:i<=v.length)(hk:k<=v.length):(pK s v i k).length<=820000:=by have h1:=y9 (s:=s) (v:=v) i;have h2:=EX (s:=s) (v:=v) (i:=i) (da s v i) (k-(i+1));have h3:i*v.length<=900*900:=vV (by omega) hv;unfold pK;omega
end
noncomputable def c60:Con:=con (ac aSh (a1 (aL .V))) (λ(s,v)=>[Fit s,v.length<=900,(∀x∈v,bd 1000000000 x),(bW s).length<=1000000]) (λ(s,v)=> .lst .P (c7 s v))
def k60:c60.Okz 60:=bH Q9 (λ(s,v)=>[(5,.mk Nat (λF _=>ms F 16) [10,11] (λi=>[i<=v.length]) (λi=>[(16,.iqz (i:Int)),(6,.own 10 .P (da s v i).length),(7,.own 11 .S (da s v i).length)]) (λi=>[(10,.row 67 .P (da s v i)),(11,.row 46 .S ((da s v i).map (cS v)))]) (λi=>v.length-i) λi=>
  [(8,.mk Nat (λF _=>ms F 9) [10,11] (λk=>[i<k,k<=v.length]) (λk=>[(9,.iqz (k:Int)),(6,.own 10 .P (pK s v i k).length),(7,.own 11 .S (pK s v i k).length)]) (λk=>[(10,.row 67 .P (pK s v i k)),(11,.row 46 .S ((pK s v i k).map (cS v)))]) (λk=>v.length-k) λk=>[jb 13 46 (tkB s v i k)])])]
  ) (λ(_,_)=>⟨_,rfl⟩) λ(s,v) hp=>bC (aA (cS v) λF=>aA (da s v 0) λP=>Fit s/\(0=(0:Int)/\P.length=0/\P.length=0/\da s v 0=([] :List (Prod Nat Nat))/\cX F P=([] :List S)/\(0:Nat)<=v.length)/\
 (∀x:Nat,aA (x+1) λA=>aA (x:Int) λD=>aA (pK s v x A) λH=>aA (da s v x) λO=>aA (da s v A) λQ=>aA ((x+1:Nat):Int) λR=>x<=v.length->(D<v.length->aH (D+1)/\(D+1=R/\O.length=H.length/\O.length=H.length/\da s v x=pK s v x A/\cX F O=cX F H/\x<x+1/\x+1<=v.length)/\
   (∀x_1:Nat,aA (x,x_1) λB=>aA (x_1+1) λC=>aA (x_1:Int) λE=>aA (pK s v x C) λG=>aA (pK s v x x_1) λJ=>aA (cX F J) λK=>aA (x_1+1:Nat) λM=>aA (⟨(aEn v x),(aEn v x_1)⟩:S) λN=>x<x_1/\x_1<=v.length->(E<v.length->ix D v.length/\ix E v.length/\J.length=K.length/\K.length<=1000000/\(((!fc K (λd=>(!cC N d)))=true->Fit s/\(bW s).length<=1000000/\bd 1000000000 N.a/\bd 1000000000 N.b/\(tH (bW s) (λe=>cC e N)&&eJ s (fF N)==2)=tkB s v x x_1)/\
      ((!fc K (λd=>(!cC N d)))=false->false=tkB s v x x_1))/\
     (∀y:Unit,(tkB s v x x_1=true->J.length=K.length/\K.length+[N].length<=1000000/\J.length=J.length/\J.length+[B].length<=1000000/\aH (E+1)/\E+1=(M:Int)/\(pK s v x x_1++[B]).length=G.length/\(cX F J++[N]).length=G.length/\pK s v x x_1++[B] =pK s v x C/\cX F J++[N] =cX F G/\x<x_1+1/\x_1+1<=v.length/\v.length-C<v.length-x_1)/\
      (tkB s v x x_1=false->aH (E+1)/\E+1=(M:Int)/\J.length=G.length/\J.length=G.length/\pK s v x x_1=pK s v x C/\cX F J=cX F G/\x<x_1+1/\x_1+1<=v.length/\v.length-C<v.length-x_1)))/\
    (¬E<v.length->aH (D+1)/\D+1=R/\J.length=Q.length/\J.length=Q.length/\pK s v x x_1=da s v A/\cX F J=cX F Q/\x+1<=v.length/\v.length-A<v.length-x)))/\
  (¬D<v.length->O.length=O.length/\da s v x=c7 s v))) (by kernel_rfl) (by
  change Fit s/\v.length<=900/\((∀x∈v,bd 1000000000 x))/\(bW s).length<=1000000 at hp;obtain⟨hf,hv,hb,he⟩:=hp;have hb:∀x:Nat,(x:Int)<v.length->bd 1000000000 (aEn v x):=λx h=>hb _ (dD (by omega));have hL:∀i k:Nat,(i:Int)<v.length->k<=v.length->(pK s v i k).length<=820000:=λi k h1 h2=>aAl hv (by omega) h2;have z:=λi=> @Y7 s v i;have sY:∀i k:Nat,i<k->tkB s v i k=true->pK s v i k++[(i,k)] =pK s v i (k+1):=λi k h h2=>by rw[NV h,if_pos h2]
  have sN:∀i k:Nat,i<k->tkB s v i k=false->pK s v i k=pK s v i (k+1):=λi k h h2=>by rw[NV h,if_neg (by rw[h2];simp)]
  have sM:∀i k:Nat,i<k->tkB s v i k=true->(pK s v i k).map (cS v)++[⟨aEn v i,aEn v k⟩] =(pK s v i (k+1)).map (cS v):=λi k h h2=>by rw[<-sY i k h h2,dQ];rfl
  have pE:=λ(i k:Nat) (h:¬(k:Int)<v.length) (h2:k<=v.length)=> @aAm s v i k h h2;have uE:∀i:Nat,¬(i:Int)<v.length->i<=v.length->da s v i=c7 s v:=λi h1 h2=>by rw[show i=v.length by omega];rfl
  have tA:∀i k:Nat,(cX (cS v) (pK s v i k)).any (λd=> !cC ⟨aEn v i,aEn v k⟩ d)=(pK s v i k).any (λd=> !cC ⟨aEn v i,aEn v k⟩ (cS v d)):=λi k=>by rw[List.any_map];rfl
  have tY:∀i k:Nat,(!(cX (cS v) (pK s v i k)).any (λd=> !cC ⟨aEn v i,aEn v k⟩ d))=true->((bW s).all (λe=>cC e ⟨aEn v i,aEn v k⟩)&&eJ s (fF ⟨aEn v i,aEn v k⟩)==2)=tkB s v i k:=λi k h=>by unfold tkB;rw[<-tA,h];rfl
  have tN:∀i k:Nat,(!(cX (cS v) (pK s v i k)).any (λd=> !cC ⟨aEn v i,aEn v k⟩ d))=false->false=tkB s v i k:=λi k h=>by unfold tkB;grind
  repeat' first|with_reducible apply cF|with_reducible intro
  all_goals repeat with_reducible cases‹_<_/\_›
  all_goals first|rfl|with_reducible solve_by_elim|(rw[z];done)|(rw[cL];done)|(rw[cL];exact cR (hL _ _ ‹_› ‹_›) (by decide))|(rw[cL];exact cR (Nat.add_le_add_right (hL _ _ ‹_› ‹_›) 1) (by decide))|exact cR (Nat.add_le_add_right (hL _ _ ‹_› ‹_›) 1) (by decide)|exact congrArg fW (sN _ _ ‹_› ‹_›)|exact congrArg (cX (cS v)) (sN _ _ ‹_› ‹_›)|exact congrArg fW (sY _ _ ‹_› ‹_›)|(rw[sM _ _ ‹_› ‹_›,cL];done)|exact congrArg fW (pE _ _ ‹_› ‹_›)|exact congrArg (cX (cS v)) (pE _ _ ‹_› ‹_›)|grind)
noncomputable def t60:=Q9.adk k60
end
def EW{s:Shape}{v:List aEo}{acc:List (Nat×Nat)}{i:Nat}:∀{m:Nat} {p:Nat×Nat},p∈aEv s v acc i m->p∈acc\/(p.1=i/\i<p.2/\p.2<i+1+m)
 |0,p,h=> .inl h
 |m+1,p,h=>by
  unfold aEv n8 at h;split at h
  .rcases bq.1 h with h|h
   .rcases EW h with h|⟨h1,h2,h3⟩
    .exact .inl h
    omega
   grind
  .rcases EW h with h|⟨h1,h2,h3⟩
   .exact .inl h
   omega
def Iz{s:Shape}{v:List aEo}:∀{i:Nat} {p:Nat×Nat},i<=v.length->p∈da s v i->p.1<p.2/\p.2<v.length
 |0,p,_,h=>by simp[da]at h
 |i+1,p,hi,h=>by
  unfold da at h;rcases EW h with h|⟨h1,h2,h3⟩
  .exact Iz (by omega) h
  .omega
def JS{s:Shape}{v:List aEo}{p:Nat×Nat}(h:p∈c7 s v):p.1<p.2/\p.2<v.length:=Iz (bQ _) h
def Tz(r:aD):(aJ r).length<=r.length:=by unfold aJ;grind
def IU:∀l:List aD,(l.flatMap aJ).length<=(l.map fW).sum
 |[] =>by simp
 |r::l=>by
  have:=IU l;have:=Tz r;grind
def Is{s:Shape}(h:VS s):(bW s).length<=80:=by have h1:=IU (aE s);have h2:=h.corners;unfold fN at h2;unfold bW;omega
def U6{s:Shape}(h:VS s){r:aD}(hr:r∈(dC s).holes):3<=r.length/\r.length<=40:=by unfold dC at hr;have hr:=(lV _).subset hr;obtain⟨q,hq,rfl⟩:=bM.1 hr;have hv:=h.ring (r:=q) (by unfold aE;grind);rw[kl];exact⟨hv.three,hv.most⟩
def zy{s:Shape}(V:VS s):0<(dC s).outer.length/\∀r∈(dC s).holes,0<r.length:=
 ⟨by have h:=V.outer.three;show 0<(co s.outer).length;rw[kl];omega,λr hr=>by have:=U6 V hr;omega⟩
noncomputable def c17:Con:=con (a1 aSh) (λs=>[Fit s]) (λs=> .tup [.lst .V (vOf s),.iqz (eOf s)])
def k17:c17.Okz 17:=bH t60 (λs=>[(5,.mk Nat (λF _=>ms F 14) [12] (λk=>[k<=(aE (aK s)).length]) (λk=>[(14,.iqz (k:Int)),(4,.own 12 .V ((aE (aK s)).take k).flatten.length)]) (λk=>[(12,.row 44 .V ((aE (aK s)).take k).flatten)]) (λk=>(aE (aK s)).length-k) bg)]
  ) (λ_=>⟨_,rfl⟩) λs hp=>bC (Fit s/\((!bJ s)=true->vOf s=([] :List aEo)/\11=eOf s)/\
 ((!bJ s)=false->Fit s/\Fit (aK s)/\(0:Nat)<(aK s).outer.length/\(∀r:aD,r∈(aK s).holes->(0:Nat)<r.length)/\(0=(0:Int)/\(fe (aW 0 (aE (aK s)))).length=0/\fe (aW 0 (aE (aK s)))=([] :List aEo)/\(0:Nat)<=(aE (aK s)).length)/\
  (∀x:Nat,x<=(aE (aK s)).length->((x:Int)<(aE (aK s)).length->ix (x:Int) (aE (aK s)).length/\(fe (aW x (aE (aK s)))).length=(fe (aW x (aE (aK s)))).length/\(fe (aW x (aE (aK s)))).length+(aC (aE (aK s)) x).length<=1000000/\aH ((x:Int)+1)/\(x:Int)+1=((x+1:Nat):Int)/\(fe (aW x (aE (aK s)))++aC (aE (aK s)) x).length=(fe (aW (x+1) (aE (aK s)))).length/\fe (aW x (aE (aK s)))++aC (aE (aK s)) x=fe (aW (x+1) (aE (aK s)))/\x+1<=(aE (aK s)).length/\(aE (aK s)).length-(x+1)<(aE (aK s)).length-x)/\
   (¬(x:Int)<(aE (aK s)).length->(fe (aW x (aE (aK s)))).length=(fe (aW x (aE (aK s)))).length/\fe (aW x (aE (aK s)))=vOf s/\0=eOf s)))) (by kernel_rfl) (by
  change Fit s at hp;have hq:=hZ s;have v0:(!bJ s)=true->vOf s=[] :=λh=>by unfold vOf;grind
  have v1:(!bJ s)=true->11=eOf s:=λh=>by unfold eOf;grind
  have v2:(!bJ s)=false->0=eOf s:=λh=>by unfold eOf;grind
  have c1:(!bJ s)=false->aK s=dC s:=λh=>by unfold aK;grind
  have V:(!bJ s)=false->VS s:=λh=>(kS s).1 (nb h);have f1:(!bJ s)=false->Fit (aK s):=λh=>by rw[c1 h];exact Kl hp
  have f2:(!bJ s)=false->0<(aK s).outer.length:=λh=>by rw[c1 h];exact(zy (V h)).1
  have f3:(!bJ s)=false->∀r∈(aK s).holes,0<r.length:=λh=>by rw[c1 h];exact(zy (V h)).2
  have f4:(!bJ s)=false->(aE (aK s)).flatten.length<=80:=λh=>by rw[c1 h];exact EP (V h)
  have f5:(!bJ s)=false->(aE (aK s)).flatten=vOf s:=λh=>by rw[c1 h];unfold vOf;rw[<-hq,nb h];rfl
  have f6:(!bJ s)=false->(aE (aK s)).length<=1000:=λh=>by have:=(f1 h).2.1;unfold aE;grind
  generalize aE (aK s)=L at f4 f5 f6|-;have e1:∀x:Nat,(x:Int)<L.length->(L.take x).flatten++aC L x=(L.take (x+1)).flatten:=λx h=>by rw[kR (by omega),vo,SP,jM (by omega)]
  have e2:∀x:Nat,(L.take x).flatten.length<=L.flatten.length:=λx=>by
   conv=>rhs;rw[<-vj x L,vo,fw]
   omega
  have e4:(!bJ s)=false->∀x:Nat,(x:Int)<L.length->(L.take x).flatten.length+(aC L x).length<=1000000:=λh x hx=>by grind
  have e5:(!bJ s)=false->∀x:Nat,¬(x:Int)<L.length->(L.take x).flatten=vOf s:=λh x hx=>by rw[gu (by omega),f5 h]
  have e6:(!bJ s)=false->∀x:Nat,x<=L.length->aH ((x:Int)+1):=λh x hx=>bT (by grind);clear e2 c1 V
  repeat' first|with_reducible apply cF|with_reducible intro
  all_goals grind)
noncomputable def t17:=t60.adk k17
noncomputable def c19:Con:=con (a1 aSh) (λs=>[Fit s]) (λs=> .tup [.lst .S (dOf s),.iqz (eOf s)])
def k19:c19.Okz 19:=bH t17 (λs=>[(6,.mk Nat (λF _=>ms F 21) [16] (λk=>[k<=(c7 s (vOf s)).length]) (λk=>[(21,.iqz (k:Int)),(6,.own 16 .S k)]) (λk=>[(16,.row 46 .S (((c7 s (vOf s)).map (cS (vOf s))).take k))]) (λk=>(c7 s (vOf s)).length-k) bg)]
  ) (λ_=>⟨_,rfl⟩) λs hp=>bC (Fit s/\(¬eOf s=0->dOf s=([] :List S)/\eOf s=eOf s)/\
 (¬(¬eOf s=0)->Fit s/\(vOf s).length<=900/\(∀x:aEo,x∈vOf s->bd 1000000000 x)/\(bW s).length<=1000000/\(0=(0:Int)/\(0:Nat)=0/\aW 0 (cX (cS (vOf s)) (c7 s (vOf s)))=([] :List S)/\(0:Nat)<=(c7 s (vOf s)).length)/\
  (∀x:Nat,x<=(c7 s (vOf s)).length->((x:Int)<(c7 s (vOf s)).length->ix (x:Int) (c7 s (vOf s)).length/\ix 0 2/\ix ((aX (c7 s (vOf s)) x).1:Int) (vOf s).length/\ix 1 2/\ix ((aX (c7 s (vOf s)) x).2:Int) (vOf s).length/\x=(aW x (cX (cS (vOf s)) (c7 s (vOf s)))).length/\(aW x (cX (cS (vOf s)) (c7 s (vOf s)))).length+[(⟨(aEn (vOf s) (aX (c7 s (vOf s)) x).1),(aEn (vOf s) (aX (c7 s (vOf s)) x).2)⟩:S)].length<=1000000/\aH ((x:Int)+1)/\(x:Int)+1=((x+1:Nat):Int)/\(aW x (cX (cS (vOf s)) (c7 s (vOf s)))++[(⟨(aEn (vOf s) (aX (c7 s (vOf s)) x).1),(aEn (vOf s) (aX (c7 s (vOf s)) x).2)⟩:S)]).length=x+1/\aW x (cX (cS (vOf s)) (c7 s (vOf s)))++[(⟨(aEn (vOf s) (aX (c7 s (vOf s)) x).1),(aEn (vOf s) (aX (c7 s (vOf s)) x).2)⟩:S)] =aW (x+1) (cX (cS (vOf s)) (c7 s (vOf s)))/\x+1<=(c7 s (vOf s)).length/\(c7 s (vOf s)).length-(x+1)<(c7 s (vOf s)).length-x)/\
   (¬(x:Int)<(c7 s (vOf s)).length->x=(aW x (cX (cS (vOf s)) (c7 s (vOf s)))).length/\aW x (cX (cS (vOf s)) (c7 s (vOf s)))=dOf s/\0=eOf s)))) (by kernel_rfl) (by
  change Fit s at hp;have hq:=hZ s;have d0:¬eOf s=0->dOf s=[] :=λh=>(aAL h).1;have R:¬¬eOf s=0->aa s=true:=λh=>OB h;have V:¬¬eOf s=0->VS s:=λh=>vsR (R h);have hvl:=pP s;have hvb:∀x∈vOf s,bd 1000000000 x:=λx hx=>by obtain⟨i,hi,rfl⟩:=fO.1 hx;exact Ax hi (by decide)
  have he:¬¬eOf s=0->(bW s).length<=1000000:=λh=>by have:=Is (V h);omega
  have dE:¬¬eOf s=0->(c7 s (vOf s)).map (cS (vOf s))=dOf s:=λh=>by rw[Am (R h)];rw[lj (R h)];exact(xR (V h) (λx hx=>(mR s).subset hx) ((mR s).nodup_iff.2 (V h).nodup)).1
  have pL:(c7 s (vOf s)).length<=6400:=by have:=y9 (s:=s) (v:=vOf s) (vOf s).length;have h2:(vOf s).length*(vOf s).length<=80*80:=vV hvl hvl;unfold c7;omega
  have pM:∀p∈c7 s (vOf s),p.1<p.2/\p.2<(vOf s).length:=λp hp=>JS hp;generalize c7 s (vOf s)=P at dE pL pM|-;have pA:∀x:Nat,(x:Int)<P.length->(aX P x).1<(vOf s).length/\(aX P x).2<(vOf s).length:=λx h=>by
   have h2:aX P x∈P:=by rw[mZ (by omega)];exact mN _
   grind
  have p1:∀x:Nat,(x:Int)<P.length->ix ((aX P x).1:Int) (vOf s).length:=λx h=>dr (pA x h).1;have p2:∀x:Nat,(x:Int)<P.length->ix ((aX P x).2:Int) (vOf s).length:=λx h=>dr (pA x h).2;have e1:∀x:Nat,x<=P.length->(aW x (P.map (cS (vOf s)))).length=x:=λx h=>by grind
  have e2:∀x:Nat,(x:Int)<P.length->aW x (P.map (cS (vOf s)))++[⟨aEn (vOf s) (aX P x).1,aEn (vOf s) (aX P x).2⟩] =aW (x+1) (P.map (cS (vOf s))):=λx h=>by rw[kR (by grind),iZ,mZ (by omega)];rfl
  have e3:¬¬eOf s=0->∀x:Nat,¬(x:Int)<P.length->aW x (P.map (cS (vOf s)))=dOf s:=λh x hx=>by rw[gu (by grind),dE h]
  clear pM dE pA hq
  repeat' first|with_reducible apply cF|with_reducible intro
  all_goals grind)
noncomputable def t19:=t17.adk k19
def eB(v:List aEo)(i j k n:Nat):Bool:=n !=i&&n !=j&&n !=k&&c6 (P8 (aEn v i) (aEn v j) (aEn v k)) (aEn v n) !=0
noncomputable def aDP:Con:=con (ac (aL .V) (a1 aV)) (λ(l,_)=>[l.length<=1000000]) (λ(l,v)=> .iqz (fI (λu=>decide (v=u)) l))
def Ri:aDP.Okz 150:=bH t19 (λ(l,v)=>[cnt 2 8 l.length (aO λj=>decide (v=aEn l j)=false)]
  ) (λ(_,_)=>⟨_,rfl⟩) λ(l,v) hp=>bC ((0=(0:Int)/\(0:Nat)<=l.length/\aO (λj=>decide (v=aEn l j)=false) 0)/\
 (∀x:Nat,aA (x:Int) λA=>x<=l.length/\aO (λj=>decide (v=aEn l j)=false) x->(A<l.length->ix A l.length/\(v=(aEn l x)->A=fI (λu=>decide (v=u)) l)/\
   (¬v=(aEn l x)->aH (A+1)/\A+1=((x+1:Nat):Int)/\x+1<=l.length/\aO (λj=>decide (v=aEn l j)=false) (x+1)/\l.length-(x+1)<l.length-x))/\
  (¬A<l.length-> -1=fI (λu=>decide (v=u)) l))) (by kernel_rfl) (by
  change l.length<=1000000 at hp
  with_reducible ((repeat' first|apply cF|intro);all_goals repeat cases‹_/\_›)
  all_goals first|rfl|exact pm (t:= .V) (by omega) (decide_eq_true ‹_›) ‹_› |(obtain rfl:_=l.length:=tG ‹_› (by omega);exact sJ (t:= .V) ‹_›)|grind)
noncomputable def Qy:=t19.adk Ri
def gr(v:V):Int:=if 0<v.y\/(v.y=0/\0<v.x)then 0 else 1
def aG:Ar (List V) where
 enc v:= .pro [.pro [.lst .V v,.junk,.junk] 0] 0
 dec s:=match s with
  | .pro [.pro [r,.junk,.junk] 0] 0=>oS .V r
  |_=>none
 ok s a h:=by
  split at h
  .have e1:=qZ h;simp only[SV.av,avs,e1]
  .cases h
 pl _:=⟨_,rfl⟩
def aQ:Ar Nat where
 enc n:= .pro [.int .i64 (n:Int)] 0
 dec s:=match s with
  | .pro [.int .i64 (.ofNat n)] 0=>some n
  |_=>none
 ok s a h:=by split at h<;>cases h;rfl
 pl _:=⟨_,rfl⟩
def j4(v:List V)(p x y:Nat):Int:=
 let a:=aEq (aEn v x) (aEn v p)
 let b:=aEq (aEn v y) (aEn v p)
 if gr a-gr b=0 then-turn ⟨0,0⟩ a b else gr a-gr b
noncomputable def aC4:Con:=con (a1 aV) (λ_=>[]) (λv=> .iqz (gr v)
 )
def aBG:aC4.Okz 223:=bH Qy bg (λ_=>⟨_,rfl⟩) λv _=>bC ((0<v.y->0=gr v)/\
 (¬0<v.y->(v.y=0->(0<v.x->0=gr v)/\
   (¬0<v.x->1=gr v))/\
  (¬v.y=0->1=gr v))) (by kernel_rfl) (by
  refine⟨λh=>(if_pos (.inl h)).symm,λh=>⟨λh2=>⟨λh3=>(if_pos (.inr ⟨h2,h3⟩)).symm,λh3=>(if_neg ?_).symm⟩,λh2=>(if_neg ?_).symm⟩⟩<;>omega)
noncomputable def QF:=Qy.adk aBG
def MJ(v:V):0<=gr v/\gr v<=1:=by unfold gr;omega
def Yc(a b c:V): -1<=turn a b c/\turn a b c<=1:=by unfold turn sgn;omega
noncomputable def aC5:Con:=con (ac aN (ac aN (ac aG (a1 aQ)))) (λ(x,y,v,p)=>[x<v.length,y<v.length,p<v.length,v.length<=1000000,(∀u∈v,bd 500000000 u)]) (λ(x,y,v,p)=> .iqz (j4 v p x y)
 )
def Re:aC5.Okz 222:=bH QF (λ(_,_,_,_)=>[]) (λ(_,_,_,_)=>⟨_,rfl⟩) λ(x,y,v,p) hp=>bC (aA (aEn v p) λA=>aA (aEn v x) λB=>aA (aEn v y) λC=>aA (aEq B A) λD=>aA (aEq C A) λE=>aA (⟨0,0⟩:V) λF=>ix (x:Int) v.length/\ix (p:Int) v.length/\bd 1000000000 B/\bd 1000000000 A/\ix (y:Int) v.length/\ix (p:Int) v.length/\bd 1000000000 C/\bd 1000000000 A/\aH (gr D-gr E)/\(¬gr D-gr E=0->gr D-gr E=j4 v p x y)/\
 (¬(¬gr D-gr E=0)->bd 1000000000 F/\bd 1000000000 D/\bd 1000000000 E/\aH (0-turn F D E)/\0-turn F D E=j4 v p x y)) (by kernel_rfl) (by
  change x<v.length/\y<v.length/\p<v.length/\v.length<=1000000/\((∀u∈v,bd 500000000 u))at hp;obtain⟨hx,hy,hq,hl,hb⟩:=hp;have hb:∀i:Nat,i<v.length->bd 500000000 (aEn v i):=λi h=>hb _ (dD h);have bx:=hb x hx;have by_:=hb y hy;have bp:=hb p hq;have e1:=MJ (aEq (aEn v x) (aEn v p));have e2:=MJ (aEq (aEn v y) (aEn v p));have e3:=Yc ⟨0,0⟩ (aEq (aEn v x) (aEn v p)) (aEq (aEn v y) (aEn v p));have sb:∀a b:V,bd 500000000 a->bd 500000000 b->bd 1000000000 (aEq a b):=λa b h1 h2=>by unfold bd aEq at*;grind
  refine⟨dr hx,dr hq,bx.mono,bp.mono,dr hy,dr hq,by_.mono,bp.mono,bT (by omega),λh=>(if_neg h).symm,λh=>⟨by unfold bd;grind,sb _ _ bx bp,sb _ _ by_ bp,bT (by omega),?_⟩⟩;rw[show j4 v p x y=_ from if_pos (nM h)];omega)
noncomputable def aBw:=QF.adk Re
section
open Go.RowKit Go.Sort Go.Shelf Go.Lib
def p9(lt:Int->Int->Bool)(x:Int):List Int->List Int
 |[] =>[x]
 |y::r=>if lt y x=true then y::p9 lt x r else x::y::r
def kZ(lt:Int->Int->Bool):List Int->List Int
 |[] =>[]
 |x::l=>p9 lt x (kZ lt l)
def D2(lt:Int->Int->Bool)(x:Int):∀l:List Int,(p9 lt x l).Perm (x::l)
 |[] =>CL _
 |y::r=>by
  unfold p9;split
  .exact((D2 lt x r).cons y).trans (List.Perm.swap x y r)
  grind
def rU(lt:Int->Int->Bool):∀l:List Int,(kZ lt l).Perm l
 |[] =>CL _
 |x::l=>(D2 lt x _).trans ((rU lt l).cons x)
structure OrdOn(lt:Int->Int->Bool)(l:List Int):Prop where
 trans:∀x∈l,∀y∈l,∀z∈l,lt x y=true->lt y z=true->lt x z=true
 asym:∀x∈l,∀y∈l,lt x y=true->lt y x=false
 tot:∀x∈l,∀y∈l,lt x y=false->lt y x=false->x=y
def OrdOn.neg{lt:Int->Int->Bool}{l:List Int}(h:OrdOn lt l){x y z:Int}(hx:x∈l)(hy:y∈l)(hz:z∈l)(h1:lt x y=false)(h2:lt y z=false):lt x z=false:=by
 cases h3:lt x z with
 |false=>rfl
 |true=>
  cases h4:lt y x with
  |false=>have:=h.tot x hx y hy h1 h4;grind
  |true=>rw[h.trans y hy x hx z hz h4 h3]at h2;cases h2
def I6{lt:Int->Int->Bool}{S:List Int}(h:OrdOn lt S){x:Int}(hx:x∈S):∀l:List Int,(∀y∈l,y∈S)->l.Pairwise (λa b=>lt b a=false)->(p9 lt x l).Pairwise λa b=>lt b a=false
 |[],_,_=>List.pairwise_singleton _ _
 |y::r,hl,hs=>by
  have hy:=hl y cE;obtain⟨h1,h2⟩:=gX.1 hs;unfold p9;split
  .rename_i hlt;refine gX.2 ⟨λb hb=> ?_,I6 h hx r (λz hz=>hl z (cB _ hz)) h2⟩;rcases bO.1 ((D2 lt x r).mem_iff.1 hb)with rfl|hb
   .exact h.asym _ hy _ hx hlt
   grind
  .rename_i hlt;have hlt:lt y x=false:=by simpa using hlt
   refine gX.2 ⟨λb hb=> ?_,hs⟩;rcases bO.1 hb with rfl|hb
   .exact hlt
   .exact h.neg (hl b (cB _ hb)) hy hx (h1 b hb) hlt
def Cz{lt:Int->Int->Bool}{S:List Int}(h:OrdOn lt S):∀l:List Int,(∀y∈l,y∈S)->(kZ lt l).Pairwise λa b=>lt b a=false
 |[],_=>rE
 |x::l,hl=>I6 h (hl x cE) _ (λy hy=>hl y (cB _ ((rU lt l).mem_iff.1 hy))) (Cz h l λy hy=>hl y (cB _ hy))
def TD{lt:Int->Int->Bool}{l k:List Int}(h:OrdOn lt l)(hp:k.Perm l)(hs:k.Pairwise λa b=>lt b a=false):k=kZ lt l:=
 R8 (λa b h1 h2 h3 h4=>h.tot a (hp.mem_iff.1 h1) b ((rU lt l).mem_iff.1 h2) h4 h3) hs (Cz h l λ_ h=>h) (hp.trans (rU lt l).symm)
def ltA(v:List V)(p:Nat)(x y:Int):Bool:=decide (j4 v p x.toNat y.toNat<0)
def Mh{C:bF}{w:World}{p:Nat}{v:List V}{vs:List Value}(h:af C [.fn (.func 222) [] [.pro [.pro [.sl v.length (LT.V.enc v),.junk,.junk] 0] 0,.pro [.int .i64 (p:Int)] 0]] vs):
  ∃cb:List Value,vs=[.func (.func 222) #[] cb.toArray]/\af C [.pro [.pro [.sl v.length (LT.V.enc v),.junk,.junk] 0] 0,.pro [.int .i64 (p:Int)] 0] cb:=by
 unfold af at h;obtain⟨u,r,rfl,h1,h2⟩:=h;unfold af at h2;subst h2;unfold aU at h1;obtain⟨a,b,rfl,h3,h4⟩:=h1;unfold af at h3;grind
def Va(l:List Int)(v:List V)(p:Nat)(hn:l.length<=1000000)(hl:∀x∈l,0<=x/\x.toNat<v.length)(hp:p<v.length)(hv:v.length<=1000000)(hb:∀u∈v,bd 500000000 u)(hO:OrdOn (ltA v p) l):
  mF bD 221 (some l.length) [.fn (.func 222) [] [.pro [.pro [.sl v.length (LT.V.enc v),.junk,.junk] 0] 0,.pro [.int .i64 (p:Int)] 0]] 3 1 (LT.I.enc l) (LT.I.enc (kZ (ltA v p) l)):=by
 have hlen:=(rU (ltA v p) l).length_eq;refine⟨by kernel_rfl,by rw[oH,oH,cL,cL,hlen],?_,?_⟩
 .intro C w b c arr vs hC hL hnc hA;obtain⟨cb,rfl,hcb⟩:=Mh (w:=w) hA;have hnc:=hnc _ rfl;obtain⟨hH,hsz⟩:=Kc hL;by_cases hl0:l=[]
  .subst hl0;have h:=AnyF.slices_SortFunc_none (P:=bD) (ρ:=Tryz.sort221_ren) {Tryz.sort221 with} (some ⟨b,0,none⟩) c (.func (.func 222) #[] cb.toArray) w;change Calls bD 221 _ _ _ at h;refine h.mono ?_;rintro e w' ⟨rfl,rfl⟩;exact⟨arr,rfl,hL,⟨rfl,rfl,rfl,bQ _,λ_ _ _=>rfl⟩⟩
  obtain⟨x0,hx0⟩:=SG _ hl0;have:Inhabited {x:Int//x∈l}:=⟨⟨x0,hx0⟩⟩;obtain⟨d,hd⟩:∃d:Array {x:Int//x∈l},d=l.attach.toArray:=⟨_,rfl⟩;have hds:d.size=l.length:=by rw[hd];simp
  have hdm:d.toList.map (·.1)=l:=by rw[hd];simp
  have hblk:b<w.heap.size:=(vq.1 hL.blk).1;have hswo:SWO (ltOf λx y:{x:Int//x∈l}=>j4 v p x.1.toNat y.1.toNat):=by
   have e:∀x y:{x:Int//x∈l},ltOf (λx y:{x:Int//x∈l}=>j4 v p x.1.toNat y.1.toNat) x y=ltA v p x.1 y.1:=λx y=>rfl;refine⟨λx=> ?_,λx y z h1 h2=> ?_,λx y z h1 h2=> ?_⟩
   .rw[e];cases h:ltA v p x.1 x.1 with
    |false=>rfl
    |true=>have:=hO.asym _ x.2 _ x.2 h;grind
   .rw[e]at*;exact hO.trans _ x.2 _ y.2 _ z.2 h1 h2
   .rw[e]at*;exact hO.neg x.2 y.2 z.2 h1 h2
  have hHd:Holds (λx:{x:Int//x∈l}=>cV .i64 x.1) w b 0 d:=by
   intro j hj;have hj':j<l.length:=by omega
   have:=hH j (by omega);have e:(l.toArray)[j]! =d[j]!.1:=by rw[getElem!_pos _ j (by omega),getElem!_pos d j hj];subst hd;simp
   rw[e]at this;exact this
  have h:=Any.slices_SortFunc (P:=bD) (ρ:=Tryz.sort221_ren) Tryz.sort221 (λx:{x:Int//x∈l}=>cV .i64 x.1) (λ_=>rfl) (λx y=>j4 v p x.1.toNat y.1.toNat) hswo 222 cb.toArray b 0 c d w (λargs w=>kk (by kernel_rfl) args w) (by
   intro m os dk hdk x y;have hx:=hl x.1 x.2;have hy:=hl y.1 y.2;obtain⟨A,r,hA2,hr,hS⟩:=Re [.int .i64 (x.1.toNat:Int),.int .i64 (y.1.toNat:Int),aG.enc v,aQ.enc p] (x.1.toNat,y.1.toNat,v,p) rfl (jK.1 ⟨hx.2,hy.2,hp,hv,hb⟩);have hA3:A=[.int .i64 (x.1.toNat:Int),.int .i64 (y.1.toNat:Int),.pro [.pro [.sl v.length (LT.V.enc v),.junk,.junk] 0] 0,.pro [.int .i64 (p:Int)] 0] :=by have h5:avs [SV.int .i64 (x.1.toNat:Int),.int .i64 (y.1.toNat:Int),aG.enc v,aQ.enc p] =([.int .i64 (x.1.toNat:Int),.int .i64 (y.1.toNat:Int),.pro [.pro [.sl v.length (LT.V.enc v),.junk,.junk] 0] 0,.pro [.int .i64 (p:Int)] 0] :List PV).map .p:=rfl;rw[h5]at hA2;have:=congrArg bG hA2;rw[dR,dR]at this;cases this;rfl
   have hr2:r= .int .i64 (j4 v p x.1.toNat y.1.toNat):=by have h6:(SV.int .i64 (j4 v p x.1.toNat y.1.toNat)).av= .p r:=hr;cases h6;rfl
   subst hA3;subst hr2;have ex:((x.1.toNat:Nat):Int)=x.1:=IP hx.1;have ey:((y.1.toNat:Nat):Int)=y.1:=IP hy.1;rw[ex,ey]at hS;have h1:=hS.2 C (sortWorld (λx:{x:Int//x∈l}=>cV .i64 x.1) w b 0 m dk os) (.int .i64 x.1:: .int .i64 y.1::cb) (λb' o u h=> ?_) ?_
   .have h2:=JB h1 (by grind);rw[show(#[cV .i64 x.1,cV .i64 y.1] ++cb.toArray)=(cV .i64 x.1:: .int .i64 y.1::cb).toArray by simp];refine h2.mono ?_;rintro e w' ⟨⟨u,rfl,hu,hbel⟩,hdr⟩;unfold aU at hu;subst hu;exact⟨rfl,(Lay.mk hbel hdr).grow⟩
   .obtain⟨h2,h3⟩:=hC _ _ _ h;unfold sortWorld;rw[cell?_grow _ _ _ (by show b'<(putRow _ _ _ _ _).heap.size;rw[size_putRow];exact jh w ⟨b',o,none⟩ h2),cell?_putRow_other _ _ b 0 _ _ (Or.inl h3)];exact h2
   .unfold af;refine⟨_,_,rfl,by unfold aU;rfl,?_⟩;unfold af;exact⟨_,_,rfl,by unfold aU;rfl,hcb⟩) hHd hblk (by omega)
  change Calls bD 221 _ _ _ at h;rw[hds]at h;refine h.mono ?_;rintro e w' ⟨rfl,d',n,os,hp,hs,rfl⟩;obtain⟨p1,_,p3⟩:=hp;have hG:=Cs (enc:=λx:{x:Int//x∈l}=>cV .i64 x.1) (w:=w) (g:=b) (n:=n) (d:=d') (os:=os);have hperm:d'.toList.Perm d.toList:=by
   have e1:(d'.extract 0 l.length).toList=d'.toList:=by rw[<-hds,<-p1];simp
   have e2:(d.extract 0 l.length).toList=d.toList:=by rw[<-hds];simp
   rwa[e1,e2]at p3
  have hpr:(d'.toList.map (·.1)).Perm l:=by have:=hperm.map (·.1);rwa[hdm]at this
  have hso:d'.toList.map (·.1)=kZ (ltA v p) l:=by
   refine TD hO hpr ?_;rw[ia,nB];intro i j hi hj hij;have hj':j<d'.size:=by simpa using hj
   have:=hs i j (i5 _) hij (by omega);rw[getElem!_pos d' i (by omega),getElem!_pos d' j hj']at this;show ltOf (λx y:{x:Int//x∈l}=>j4 v p x.1.toNat y.1.toNat) (d'.toList[j]) (d'.toList[i])=false;simpa using this
  refine⟨_,rfl,⟨IV hL.blk,λh=>absurd h (by decide),λ_=> ?_,?_⟩,hG⟩
  .obtain⟨h1,h2,h3⟩:=hL.row (by decide);refine⟨by unfold putCells;grind,?_,h3⟩;rw[oH,cL,hlen];unfold putCells;grind
  .intro i x hi;rw[<-hso,oH,cv,fy]at hi;cases hx:d'.toList[i]? with
   |none=>grind
   |some y=>
    rw[hx]at hi;cases hi;have hi':i<d'.size:=by have:=(rK.1 hx).1;simpa using this
    have hds':d'.size=l.length:=by rw[p1,hds]
    refine⟨.int .i64 y.1,?_,rfl,by unfold aU;rfl⟩;unfold putCells;grind
 .intro h0 C w vs hC hA;obtain⟨cb,rfl,_⟩:=Mh (w:=w) hA;have hl0:l=[] :=nJ.1 (by grind);subst hl0;have h:=AnyF.slices_SortFunc_none (P:=bD) (ρ:=Tryz.sort221_ren) {Tryz.sort221 with} none 0 (.func (.func 222) #[] cb.toArray) w;change Calls bD 221 _ _ _ at h;refine h.mono ?_;rintro e w' ⟨rfl,rfl⟩;exact⟨rfl,Below.refl _ _⟩
def Hd:List SV->Option (List Int×List V×Nat)
 |[.lst .I l,.fnp 222 [] [.pro [.pro [.lst .V v,.junk,.junk] 0] 0,.pro [.int .i64 (.ofNat p)] 0]] =>some (l,v,p)
 |_=>none
def WL{l:List Int}{rest:List SV}{x:List Int×List V×Nat}(h:Hd (.lst .I l::rest)=some x):∃v p,rest=[.fnp 222 [] [.pro [.pro [.lst .V v,.junk,.junk] 0] 0,.pro [.int .i64 (p:Nat)] 0]]/\x=(l,v,p):=by
 unfold Hd at h;split at h
 .grind
 .cases h
noncomputable def aC6:Con:=⟨List Int×List V×Nat,Hd,λ(l,v,p)=>[l.length<=1000000,(∀x∈l,0<=x/\x.toNat<v.length),p<v.length,v.length<=1000000,(∀u∈v,bd 500000000 u),OrdOn (ltA v p) l],.mutR .I 3 λ(l,v,p)=>kZ (ltA v p) l⟩
def aBH:aC6.Okz 221:=by intro l rest x hd hp;obtain⟨v,p,rfl,rfl⟩:=WL hd;obtain⟨h1,h2,h3,h4,h5,h6⟩:=jK.2 hp;exact⟨[.fn (.func 222) [] [.pro [.pro [.sl v.length (LT.V.enc v),.junk,.junk] 0] 0,.pro [.int .i64 (p:Int)] 0]],rfl,Va l v p h1 h2 h3 h4 h5 h6⟩
noncomputable def tD:=(aBw.adk aBH).adk aBR
end
def ci(l:List V)(v:V):Nat:=l.findIdx λu=>decide (v=u)
def fL(l:List Int)(q:Int):Nat:=l.findIdx λu=>decide (q=u)
def fIx{t:LT}{l:List t.ty}{q:t.ty->Bool}{k:Nat}(hk:k<l.length)(h:q (t.nth l k)=true)(hu:aO (λj=>q (t.nth l j)=false) k):l.findIdx q=k:=by refine(List.findIdx_eq hk).2 ⟨by rw[<-LT.nth_eq t l hk];exact h,λj hj=> ?_⟩;have this:q (t.nth l j)=false:=hu j hj;rw[LT.nth_eq t l (by omega)]at this;exact this
def O7{t:LT}{l:List t.ty}{q:t.ty->Bool}{v:t.ty}(hv:v∈l)(h:q v=true)(hu:aO (λj=>q (t.nth l j)=false) l.length):False:=by obtain⟨j,hj,rfl⟩:=ib.1 hv;have this:q (t.nth l j)=false:=hu j hj;rw[LT.nth_eq t l hj,h]at this;cases this
def Ny{l:List Int}{q:Int}(h:q∈l):fL l q<l.length:=List.findIdx_lt_length_of_exists ⟨q,h,decide_eq_true rfl⟩
def lr{l:List V}{q:V}(h:q∈l):ci l q<l.length:=List.findIdx_lt_length_of_exists ⟨q,h,decide_eq_true rfl⟩
def aGr:Ar (List V×List (List Int)×List Int) where
 enc g:= .pro [.lst .V g.1,.lst .Q g.2.1,.lst .I g.2.2] 0
 dec s:=match s with
  | .pro [a,b,c] 0=>(match oS .V a,oS .Q b,oS .I c with|some x,some y,some z=>some (x,y,z)|_,_,_=>none)
  |_=>none
 ok s a h:=by
  split at h
  .split at h<;>cases h;rename_i h1 h2 h3;have e1:=qZ h1;have e2:=qZ h2;have e3:=qZ h3;simp only[SV.av,avs,e1,e2,e3]
  .cases h
 pl _:=⟨_,rfl⟩
def iB(L:List (List Int))(i j:Nat)(st:Int):Nat:=
 let l:=ae L i
 (cu l (((fL l j:Int)+st+l.length).toNat % l.length)).toNat
noncomputable def aBk:Con:=con (ac (aL .V) (a1 aV)) (λ(l,v)=>[l.length<=1000000,v∈l]) (λ(l,v)=> .iqz (ci l v:Nat))
def aA8:aBk.Okz 150:=bH tD (λ(l,v)=>[cnt 2 8 l.length (aO λj=>decide (v=aEn l j)=false)]
  ) (λ(_,_)=>⟨_,rfl⟩) λ(l,v) hp=>bC ((0=(0:Int)/\(0:Nat)<=l.length/\aO (λj=>decide (v=aEn l j)=false) 0)/\
 (∀x:Nat,aA (x:Int) λA=>x<=l.length/\aO (λj=>decide (v=aEn l j)=false) x->(A<l.length->ix A l.length/\(v=(aEn l x)->A=ci l v)/\
   (¬v=(aEn l x)->aH (A+1)/\A+1=((x+1:Nat):Int)/\x+1<=l.length/\aO (λj=>decide (v=aEn l j)=false) (x+1)/\l.length-(x+1)<l.length-x))/\
  (¬A<l.length-> -1=(ci l v:Int)))) (by kernel_rfl) (by
  change l.length<=1000000/\v∈l at hp;obtain⟨hl,hv⟩:=hp;have e1:∀x:Nat,(x:Int)<l.length->v=aEn l x->aO (λj=>decide (v=aEn l j)=false) x->(x:Int)=ci l v:=λx h1 h2 h3=>by rw[show ci l v=x from fIx (t:= .V) (by omega) (decide_eq_true h2) h3]
  have e2:∀x:Nat,¬(x:Int)<l.length->x<=l.length->aO (λj=>decide (v=aEn l j)=false) x-> -1=(ci l v:Int):=λx h1 h2 h3=>by
   obtain rfl:x=l.length:=by omega
   exact(O7 (t:= .V) (q:=λu=>decide (v=u)) hv (decide_eq_true rfl) h3).elim
  with_reducible ((repeat' first|apply cF|intro);all_goals repeat cases‹_/\_›)
  all_goals grind)
noncomputable def PT:=tD.adk aA8
noncomputable def aDt:Con:=con (ac (aL .I) (a1 aI)) (λ(l,q)=>[l.length<=1000000,q∈l]) (λ(l,q)=> .iqz (fL l q:Nat))
def aB4:aDt.Okz 176:=bH PT (λ(l,q)=>[cnt 2 8 l.length (aO λj=>decide (q=cu l j)=false)]
  ) (λ(_,_)=>⟨_,rfl⟩) λ(l,q) hp=>bC ((0=(0:Int)/\(0:Nat)<=l.length/\aO (λj=>decide (q=cu l j)=false) 0)/\
 (∀x:Nat,aA (x:Int) λA=>x<=l.length/\aO (λj=>decide (q=cu l j)=false) x->(A<l.length->ix A l.length/\(q=cu l x->A=fL l q)/\
   (¬q=cu l x->aH (A+1)/\A+1=((x+1:Nat):Int)/\x+1<=l.length/\aO (λj=>decide (q=cu l j)=false) (x+1)/\l.length-(x+1)<l.length-x))/\
  (¬A<l.length-> -1=(fL l q:Int)))) (by kernel_rfl) (by
  change l.length<=1000000/\q∈l at hp;obtain⟨hl,hv⟩:=hp;have e1:∀x:Nat,(x:Int)<l.length->q=cu l x->aO (λj=>decide (q=cu l j)=false) x->(x:Int)=fL l q:=λx h1 h2 h3=>by rw[show fL l q=x from fIx (t:= .I) (by omega) (decide_eq_true h2) h3]
  have e2:∀x:Nat,¬(x:Int)<l.length->x<=l.length->aO (λj=>decide (q=cu l j)=false) x-> -1=(fL l q:Int):=λx h1 h2 h3=>by
   obtain rfl:x=l.length:=by omega
   exact(O7 (t:= .I) (q:=λu=>decide (q=u)) hv (decide_eq_true rfl) h3).elim
  with_reducible ((repeat' first|apply cF|intro);all_goals repeat cases‹_/\_›)
  all_goals grind)
noncomputable def Qb:=PT.adk aB4
noncomputable def aD7:Con:=con (ac aGr (ac aN (ac aN (a1 aI)))) (λ(g,i,j,st)=>[g.1.length<=1000000,g.2.1.length<=1000000,i<g.2.1.length,(j:Int)∈ae g.2.1 i,(ae g.2.1 i).length<=1000000,(∀x∈ae g.2.1 i,0<=x),st=1\/st= -1]) (λ(g,i,j,st)=> .iqz (iB g.2.1 i j st:Nat)
 )
def aCI:aD7.Okz 116:=bH Qb (λ(_,_,_,_)=>[]) (λ(_,_,_,_)=>⟨_,rfl⟩) λ(g,i,j,st) hp=>bC (aA (ae g.2.1 i) λB=>aA (fL B (j:Int):Int) λC=>aA (B.length:Int) λD=>aA (C+st+B.length) λE=>ix (i:Int) g.2.1.length/\B.length<=1000000/\(j:Int)∈ae g.2.1 i/\aH (C+st)/\aH E/\D≠0/\ix (c8 E D) B.length/\cu B (c8 E D).toNat=iB g.2.1 i j st) (by kernel_rfl) (by
 change g.1.length<=1000000/\g.2.1.length<=1000000/\i<g.2.1.length/\(j:Int)∈ae g.2.1 i/\(ae g.2.1 i).length<=1000000/\((∀x∈ae g.2.1 i,0<=x))/\(st=1\/st= -1)at hp;obtain⟨h1,h2,h3,h4,h5,h6,h7⟩:=hp;unfold iB;generalize ae g.2.1 i=l at*;have h8:=Ny h4;have e0:0<=(fL l (j:Int):Int)+st+l.length:=by omega
 have e1:c8 ((fL l (j:Int):Int)+st+l.length) (l.length:Int)=(((((fL l (j:Int):Int)+st+l.length).toNat % l.length:Nat)):Int):=by rw[Int.tmod_eq_emod_of_nonneg e0,<-IP e0];rfl
 have e2:((fL l (j:Int):Int)+st+l.length).toNat % l.length<l.length:=bk _ (by omega);refine⟨dr h3,h5,h4,bT (by omega),bT (by omega),by omega,by rw[e1];exact dr e2,?_⟩;rw[e1];have h9:=h6 _ (show cu l (((fL l (j:Int):Int)+st+l.length).toNat % l.length)∈l by rw[show cu l _=_ from ng e2];grind);grind)
noncomputable def RI:=Qb.adk aCI
def iJ(L:List (List Int))(a b:Nat):List (List Int):=L.set a (ae L a++[(b:Int)])
def both(L:List (List Int))(a b:Nat):List (List Int):=iJ (iJ L a b) b a
def rgO(base m:Nat):Nat->List (List Int)->List (List Int)
 |0,L=>L
 |i+1,L=>both (rgO base m i L) (base+i) (base+(i+1) % m)
def rgN(n base m:Nat):Nat->List Int->List Int
 |0,N=>N
 |i+1,N=>if n=0 then(rgN n base m i N).set (base+i) ((base+(i+1) % m:Nat):Int)else(rgN n base m i N).set (base+(i+1) % m) ((base+i:Nat):Int)
def bs(R:List aD)(k:Nat):Nat:=(R.take k).flatten.length
def rsO(R:List aD):Nat->List (List Int)->List (List Int)
 |0,L=>L
 |k+1,L=>rgO (bs R k) (aC R k).length (aC R k).length (rsO R k L)
def rsN(R:List aD):Nat->List Int->List Int
 |0,N=>N
 |k+1,N=>rgN k (bs R k) (aC R k).length (aC R k).length (rsN R k N)
def dgO(v:List aEo)(D:List aEp):Nat->List (List Int)->List (List Int)
 |0,L=>L
 |k+1,L=>both (dgO v D k L) (ci v (az D k).a) (ci v (az D k).b)
def dgP(v:List aEo)(D:List aEp):List (Nat×Nat):=D.map λd=>(ci v d.a,ci v d.b)
def stO(v:List aEo):Nat->List (List Int)->List (List Int)
 |0,L=>L
 |k+1,L=>(stO v k L).set k (kZ (ltA v k) (ae (stO v k L) k))
abbrev rX(s:Shape):List aD:=aE (aK s)
def oX(s:Shape)(k:Nat):List (List Int):=rsO (aE (aK s)) k (cO (vOf s).length [])
def nX(s:Shape)(k:Nat):List Int:=rsN (aE (aK s)) k (cO (vOf s).length 0)
def oB(s:Shape):List (List Int):=rsO (aE (aK s)) (aE (aK s)).length (cO (vOf s).length [])
def oD(s:Shape):List (List Int):=dgO (vOf s) (dOf s) (dOf s).length (oB s)
def oG(s:Shape):List (List Int):=stO (vOf s) (vOf s).length (oD s)
def nG(s:Shape):List Int:=rsN (aE (aK s)) (aE (aK s)).length (cO (vOf s).length 0)
def pG(s:Shape):List (Nat×Nat):=dgP (vOf s) (dOf s)
def tq(L:List (List Int))(a c:Nat)(x:List Int):ae (L.set a x) c=if c=a/\a<L.length then x else ae L c:=by unfold ae;grind
def xJ(L:List (List Int))(a b:Nat):(iJ L a b).length=L.length:=yh ..
def AT(L:List (List Int))(a b:Nat):(both L a b).length=L.length:=by unfold both;rw[xJ,xJ]
def FO(base m:Nat)(L:List (List Int)):∀i,(rgO base m i L).length=L.length
 |0=>rfl
 |i+1=>(AT _ _ _).trans (FO base m L i)
def xO(n base m:Nat)(N:List Int):∀i,(rgN n base m i N).length=N.length
 |0=>rfl
 |i+1=>by unfold rgN;split<;>rw[yh,xO n base m N i]
def NF(R:List aD)(L:List (List Int)):∀k,(rsO R k L).length=L.length
 |0=>rfl
 |k+1=>(FO _ _ _ _).trans (NF R L k)
def FN(R:List aD)(N:List Int):∀k,(rsN R k N).length=N.length
 |0=>rfl
 |k+1=>(xO _ _ _ _ _).trans (FN R N k)
def Fo(v:List aEo)(D:List aEp)(L:List (List Int)):∀k,(dgO v D k L).length=L.length
 |0=>rfl
 |k+1=>(AT _ _ _).trans (Fo v D L k)
def rq(v:List aEo)(L:List (List Int)):∀k,(stO v k L).length=L.length
 |0=>rfl
 |k+1=>(yh ..).trans (rq v L k)
def Om(s:Shape)(k:Nat):(oX s k).length=(vOf s).length:=(NF _ _ k).trans yg
def GJ(s:Shape)(k:Nat):(nX s k).length=(vOf s).length:=(FN _ _ k).trans yg
def Oo(s:Shape):(oB s).length=(vOf s).length:=Om s _
def xf(s:Shape):(oD s).length=(vOf s).length:=(Fo _ _ _ _).trans (Oo s)
def aAp(s:Shape):(oG s).length=(vOf s).length:=(rq _ _ _).trans (xf s)
def BS{L:List (List Int)}{t:Nat}(h:∀c,(ae L c).length<=t)(a b c:Nat):(ae (iJ L a b) c).length<=t+1:=by unfold iJ;rw[tq];grind
def PF{L:List (List Int)}{t:Nat}(h:∀c,(ae L c).length<=t)(a b c:Nat):(ae (both L a b) c).length<=t+2:=BS (BS h a b) b a c
def Gn{L:List (List Int)}{t:Nat}(h:∀c,(ae L c).length<=t)(base m:Nat):∀i c,(ae (rgO base m i L) c).length<=t+2*i
 |0,c=>h c
 |i+1,c=>PF (Gn h base m i) _ _ c
def qe{R:List aD}{k:Nat}(h:k<R.length):bs R k+(aC R k).length=bs R (k+1):=by unfold bs;rw[kR h,vo,SP,fw,jM h]
def ut(R:List aD)(k:Nat):bs R k<=R.flatten.length:=by
 unfold bs
 conv=>rhs;rw[<-vj k R,vo,fw]
 omega
def Pa{L:List (List Int)}{t:Nat}(h:∀c,(ae L c).length<=t)(R:List aD):∀k,k<=R.length->∀c,(ae (rsO R k L) c).length<=t+2*bs R k
 |0,_,c=>h c
 |k+1,hk,c=>by
  have:=Gn (Pa h R k (by omega)) (bs R k) (aC R k).length (aC R k).length c;have e:=qe (R:=R) (k:=k) (by omega);show(ae (rgO _ _ _ _) c).length<=_;omega
def Rb(s:Shape)(k:Nat)(hk:k<=(aE (aK s)).length)(c:Nat):(ae (oX s k) c).length<=2*bs (aE (aK s)) k:=by
 have:=Pa (L:=cO (vOf s).length []) (t:=0) (λc=>by unfold ae;grind) (aE (aK s)) k hk c
 rw[jg]at this;exact this
def Pv{L:List (List Int)}{t:Nat}(h:∀c,(ae L c).length<=t)(v:List aEo)(D:List aEp):∀i c,(ae (dgO v D i L) c).length<=t+2*i
 |0,c=>h c
 |i+1,c=>PF (Pv h v D i) _ _ c
def sD(v:List aEo)(L:List (List Int)):∀k c,c<L.length->ae (stO v k L) c=if c<k then kZ (ltA v c) (ae L c)else ae L c
 |0,c,_=>(if_neg (Nat.not_lt_zero c)).symm
 |k+1,c,hc=>by
  show ae ((stO v k L).set k (kZ (ltA v k) (ae (stO v k L) k))) c=_;rw[tq,rq];by_cases h:c=k
  .subst h;rw[if_pos ⟨rfl,hc⟩,if_pos (by omega),sD v L c c hc,if_neg (Nat.lt_irrefl c)]
  .rw[if_neg λh2=>h h2.1,sD v L k c hc];grind
def uY{s:Shape}(hv:bJ s=true):(dOf s).length<=6400/\∀d∈dOf s,d.a∈vOf s/\d.b∈vOf s:=by
 have V:VS s:=(kS s).1 hv;have R:aa s=true:=by rw[<-hZ];exact hv
 have dE:(c7 s (vOf s)).map (cS (vOf s))=dOf s:=by rw[Am R,lj R];exact(xR V (λx hx=>(mR s).subset hx) ((mR s).nodup_iff.2 V.nodup)).1
 have hvl:=pP s;have pL:(c7 s (vOf s)).length<=6400:=by have:=y9 (s:=s) (v:=vOf s) (vOf s).length;have h2:(vOf s).length*(vOf s).length<=80*80:=vV hvl hvl;unfold c7;omega
 refine⟨by grind,λd hd=> ?_⟩;rw[<-dE]at hd;obtain⟨p,hp,rfl⟩:=bM.1 hd;have:=JS hp;exact⟨dD (by omega),dD (by omega)⟩
def GOk(s:Shape):Prop:=∀k,k<(vOf s).length->0<(ae (oD s) k).length/\(∀x∈ae (oD s) k,0<=x/\x.toNat<(vOf s).length)/\OrdOn (ltA (vOf s) k) (ae (oD s) k)
noncomputable def jF(key:Nat)(x:Nat)(L:List (List Int)):Nat×Ann:=(key+10000,.mk Unit (λ_ _=>some ()) [] (λ_=>[]) (λ_=>[]) (λ_=>[(x,.fam 112 3 .I L [])]) (λ_=>0) (λ_=>[]))
noncomputable def aDx:Con:=Hh (a1 aSh) (λs=>[Fit s,bJ s=true,GOk s]) (λs=> .tup [.ptr 19 0,.own 40 .P (pG s).length]) (λs=>[(19,some (.box 114 [.lst .V (vOf s),.owF 14 (vOf s).length,.own 17 .I (vOf s).length])),(14,some (.fam 112 3 .I (oG s) [])),(17,some (.row 3 .I (nG s))),(40,some (.row 67 .P (pG s)))])
def aB8:aDx.Okz 171:=OE (oK RI.o) (st:=true) (raw:=uj) (λs=>[lp 5 39 (aE (aK s)).length bg [] (λk=>[(7,.iqz (bs (aE (aK s)) k:Nat))]) (λk=>[(14,.fam 112 3 .I (oX s k) []),(17,.row 3 .I (nX s k))]) λk=>
  [lp 8 46 (aC (aE (aK s)) k).length bg [] bg (λi=>[(14,.fam 112 3 .I (rgO (bs (aE (aK s)) k) (aC (aE (aK s)) k).length i (oX s k)) []),(17,.row 3 .I (rgN k (bs (aE (aK s)) k) (aC (aE (aK s)) k).length i (nX s k)))]) λi=>
  [jU 11 [(11,.iqz (bs (aE (aK s)) k+i:Nat)),(12,.iqz (bs (aE (aK s)) k+(i+1) % (aC (aE (aK s)) k).length:Nat))],
  jF 12 14 (iJ (rgO (bs (aE (aK s)) k) (aC (aE (aK s)) k).length i (oX s k)) (bs (aE (aK s)) k+i) (bs (aE (aK s)) k+(i+1) % (aC (aE (aK s)) k).length))]],
  lp 22 120 (dOf s).length bg [40] (λk=>[(13,.own 40 .P k)]) (λk=>[(14,.fam 112 3 .I (dgO (vOf s) (dOf s) k (oB s)) []),(40,.row 67 .P ((pG s).take k))]) λk=>
  [jF 26 14 (iJ (dgO (vOf s) (dOf s) k (oB s)) (ci (vOf s) (az (dOf s) k).a) (ci (vOf s) (az (dOf s) k).b))],
  lp 30 173 (vOf s).length bg [] bg (λk=>[(14,.fam 112 3 .I (stO (vOf s) k (oD s)) []),(0,.box 0 [.undef])])]) λs hp=>bC (aA (oB s) λA=>aA (oD s) λB=>aA (pG s) λC=>aA (vOf s) λD=>aA (dOf s) λE=>aA (aK s) λG=>aA (0:Nat) λK=>aA (0:Int) λM=>aA (aE G) λV=>aA ([] :List Int) λa=>aA (D.length:Int) λe=>Fit s/\0<=e/\e=D.length/\e<=1000000/\D.length*24<=1000000000/\0<=e/\e=D.length/\e<=1000000/\D.length*8<=1000000000/\Fit s/\Fit G/\K<G.outer.length/\(∀r:aD,r∈G.holes->K<r.length)/\(0=M/\0=(bs V 0:Int)/\cO D.length a=oX s 0/\cO D.length 0=nX s 0/\K<=V.length)/\
 (∀x:Nat,aA (x+1) λF=>aA (oX s x) λH=>aA (nX s x) λI=>aA (x:Int) λL=>aA (bs V x) λW=>aA (aC V x) λX=>aA (bs V x:Int) λZ=>x<=V.length->(L<V.length->ix L V.length/\(0=M/\oX s x=rgO W X.length 0 H/\nX s x=rgN x W X.length 0 I/\K<=X.length)/\
   (∀x_1:Nat,aA (x_1+1) λJ=>aA (x_1:Int) λO=>aA (bs V x+x_1) λY=>aA (x_1+1:Nat) λd=>aA ((bs V x+x_1:Nat):Int) λm=>aA (J % X.length:Nat) λn=>aA (rgO W X.length x_1 H) λo=>aA (jj o Y a) λp=>aA (bs V x+J % X.length) λq=>aA (iJ o Y q) λt=>aA (jj t q a) λv=>aA (jj t q a++[m]) λw=>aA (rgN x W X.length x_1 I) λz=>aA ((bs V x+J % X.length:Nat):Int) λA4=>aA (jj o Y a++[A4]) λA5=>x_1<=X.length->(O<X.length->(aH (Z+x_1)/\aH (O+1)/\(X.length:Int)≠0/\aH (Z+(n:Int))/\Z+x_1=m/\Z+(n:Int)=A4)/\
     (∀y:Unit,(ix m D.length/\bs V x+x_1<o.length/\bs V x+x_1<o.length/\p.length=p.length/\p.length+[A4].length<=1000000/\ix m D.length/\bs V x+x_1=bs V x+x_1/\bs V x+x_1<o.length/\bs V x+x_1<o.length/\A5.length=A5.length/\mP o Y A5=iJ o Y q)/\
      (∀y_1:Unit,ix A4 D.length/\bs V x+J % X.length<t.length/\bs V x+J % X.length<t.length/\v.length=v.length/\v.length+[m].length<=1000000/\ix A4 D.length/\bs V x+J % X.length=bs V x+J % X.length/\bs V x+J % X.length<t.length/\(L=0->ix m D.length/\bs V x+x_1<z.length/\aH (O+1)/\bs V x+J % X.length<t.length/\w.length=w.length/\O+1=(d:Int)/\mP t q w=rgO W X.length J H/\mP z Y A4=rgN x W X.length J I/\x_1+1<=X.length/\X.length-J<X.length-x_1)/\
       (¬L=0->ix A4 D.length/\bs V x+J % X.length<z.length/\aH (O+1)/\bs V x+J % X.length<t.length/\w.length=w.length/\O+1=(d:Int)/\mP t q w=rgO W X.length J H/\mP z q m=rgN x W X.length J I/\x_1+1<=X.length/\X.length-J<X.length-x_1))))/\
    (¬O<X.length->aH (Z+X.length)/\aH (L+1)/\L+1=((x+1:Nat):Int)/\Z+X.length=bs V F/\rgO W X.length x_1 H=oX s F/\rgN x W X.length x_1 I=nX s F/\x+1<=V.length/\V.length-F<V.length-x)))/\
  (¬L<V.length->Fit s/\(0=M/\K=0/\oX s x=dgO D E 0 A/\aW 0 C=([] :List (Prod Nat Nat))/\K<=E.length)/\
   (∀x_1:Nat,aA (x_1+1) λN=>aA (x_1:Int) λP=>aA (az E x_1) λR=>aA (ci D R.a) λS=>aA (ci D R.b) λT=>aA (dgO D E x_1 A) λb=>aA (iJ b S T) λc=>aA (jj b S a) λf=>aA (jj c T a) λg=>aA (aW x_1 C) λh=>aA (ci D R.a:Int) λi=>aA (ci D R.b:Int) λj=>aA (jj b S a++[j]) λA0=>aA (ci D R.a,ci D R.b) λA1=>aA (jj c T a++[i]) λA2=>x_1<=E.length->(P<E.length->ix P E.length/\D.length<=1000000/\R.a∈vOf s/\D.length<=1000000/\R.b∈vOf s/\(ix i D.length/\ci D R.a<b.length/\ci D R.a<b.length/\f.length=f.length/\f.length+[j].length<=1000000/\ix i D.length/\ci D R.a=ci D R.a/\ci D R.a<b.length/\ci D R.a<b.length/\A0.length=A0.length/\mP b S A0=iJ b S T)/\
     (∀y:Unit,ix j D.length/\ci D R.b<c.length/\ci D R.b<c.length/\g.length=g.length/\g.length+[i].length<=1000000/\ix j D.length/\ci D R.b=ci D R.b/\ci D R.b<c.length/\x_1=h.length/\h.length+[A1].length<=1000000/\aH (P+1)/\ci D R.b<c.length/\A2.length=A2.length/\P+1=((x_1+1:Nat):Int)/\(aW x_1 C++[A1]).length=x_1+1/\mP c T A2=dgO D E N A/\aW x_1 C++[A1] =aW N C/\x_1+1<=E.length/\E.length-N<E.length-x_1))/\
    (¬P<E.length->(0=M/\dgO D E x_1 A=stO D 0 B/\K<=D.length)/\
     (∀x_2:Nat,aA (x_2:Int) λQ=>aA (stO D x_2 B) λU=>aA (jj U x_2 a) λk=>x_2<=D.length->(Q<D.length->ix Q D.length/\x_2<U.length/\x_2<U.length/\k.length=k.length/\K<k.length/\k.length<=1000000/\(∀x:Int,x∈jj U x_2 a->0<=x/\x.toNat<D.length)/\x_2<D.length/\D.length<=1000000/\(∀u:aEo,u∈vOf s->bd 500000000 u)/\OrdOn (ltA D x_2) k/\aH (Q+1)/\Q+1=((x_2+1:Nat):Int)/\mP U x_2 (kZ (ltA D x_2) k)=stO D (x_2+1) B/\x_2+1<=D.length/\D.length-(x_2+1)<D.length-x_2)/\
      (¬Q<D.length->x_1=C.length/\vOf s=vOf s/\D.length=D.length/\D.length=D.length/\stO D x_2 B=oG s/\nX s x=nG s/\aW x_1 C=pG s))))))) (by kernel_rfl) (by
  change Fit s/\bJ s=true/\GOk s at hp;obtain⟨hf,hv,hg⟩:=hp;have V:VS s:=(kS s).1 hv;have hR:aa s=true:=by rw[<-hZ];exact hv
  have c1:aK s=dC s:=if_pos hv;have f1:Fit (aK s):=by rw[c1];exact Kl hf
  have f2:0<(aK s).outer.length:=by rw[c1];exact(zy V).1
  have f3:∀r∈(aK s).holes,0<r.length:=by rw[c1];exact(zy V).2
  have fl:(aE (aK s)).flatten=vOf s:=by rw[c1,lj hR];rfl
  have n80:(vOf s).length<=80:=pP s;have rl:(aE (aK s)).length<=1000:=by have:=f1.2.1;unfold aE;rw[gY];omega
  obtain⟨dl,dm⟩:=uY hv;have vb:∀u∈vOf s,bd 500000000 u:=λu hu=>by obtain⟨i,hi,rfl⟩:=fO.1 hu;exact Ax hi (by decide)
  have hB:∀x:Nat,(x:Int)<(aE (aK s)).length->bs (aE (aK s)) x+(aC (aE (aK s)) x).length<=(vOf s).length:=λx h=>by rw[qe (by omega),<-fl];exact ut _ _
  have oXB:∀x:Nat,(x:Int)<(aE (aK s)).length->∀c,(ae (oX s x) c).length<=200:=λx h c=>by have h1:=Rb s x (by omega) c;grind
  have oBB:∀c,(ae (oB s) c).length<=200:=λc=>by have h1:=Rb s _ (bQ _) c;have h2:=ut (aE (aK s)) (aE (aK s)).length;rw[fl]at h2;have h3:(ae (oB s) c).length<=2*bs (aE (aK s)) (aE (aK s)).length:=h1;omega
  have dOB:∀k,k<=(dOf s).length->∀c,(ae (dgO (vOf s) (dOf s) k (oB s)) c).length<=13000:=λk hk c=>by have:=Pv oBB (vOf s) (dOf s) k c;omega
  have rOB:∀x i:Nat,(x:Int)<(aE (aK s)).length->(i:Int)<(aC (aE (aK s)) x).length->∀c,(ae (rgO (bs (aE (aK s)) x) (aC (aE (aK s)) x).length i (oX s x)) c).length<=400:=λx i h h2 c=>by have:=Gn (oXB x h) (bs (aE (aK s)) x) (aC (aE (aK s)) x).length i c;grind
  have r1:∀x i:Nat,(x:Int)<(aE (aK s)).length->(i:Int)<(aC (aE (aK s)) x).length->bs (aE (aK s)) x+i<(vOf s).length:=λx i h h2=>by grind
  have r2:∀x i:Nat,(x:Int)<(aE (aK s)).length->(i:Int)<(aC (aE (aK s)) x).length->bs (aE (aK s)) x+(i+1) % (aC (aE (aK s)) x).length<(vOf s).length:=λx i h h2=>by have:=hB x h;have:=bk (i+1) (show 0<(aC (aE (aK s)) x).length by omega);omega
  have t1:∀x i:Nat,(x:Int)<(aE (aK s)).length->(i:Int)<(aC (aE (aK s)) x).length->aH ((bs (aE (aK s)) x:Int)+i):=λx i h h2=>bT (by grind);have t2:∀x i:Nat,(x:Int)<(aE (aK s)).length->(i:Int)<(aC (aE (aK s)) x).length->aH ((i:Int)+1):=λx i h h2=>bT (by have:=r1 x i h h2;omega);have t3:∀x i:Nat,(x:Int)<(aE (aK s)).length->(i:Int)<(aC (aE (aK s)) x).length->aH ((bs (aE (aK s)) x:Int)+(((i+1) % (aC (aE (aK s)) x).length:Nat):Int)):=λx i h h2=>bT (by grind);have t4:∀x i:Nat,(x:Int)<(aE (aK s)).length->(i:Int)<(aC (aE (aK s)) x).length->ix ((bs (aE (aK s)) x+i:Nat):Int) (vOf s).length:=λx i h h2=>dr (r1 x i h h2);have t5:∀x i:Nat,(x:Int)<(aE (aK s)).length->(i:Int)<(aC (aE (aK s)) x).length->ix ((bs (aE (aK s)) x+(i+1) % (aC (aE (aK s)) x).length:Nat):Int) (vOf s).length:=λx i h h2=>dr (r2 x i h h2);have rl2:∀x i:Nat,(rgO (bs (aE (aK s)) x) ((aC (aE (aK s)) x).length) i (oX s x)).length=(vOf s).length:=λx i=>(FO _ _ _ i).trans (Om s x);have nl2:∀x i:Nat,(rgN x (bs (aE (aK s)) x) (aC (aE (aK s)) x).length i (nX s x)).length=(vOf s).length:=λx i=>(xO _ _ _ _ i).trans (GJ s x);have t6:∀x i:Nat,(x:Int)<(aE (aK s)).length->(i:Int)<(aC (aE (aK s)) x).length->bs (aE (aK s)) x+i<(rgO (bs (aE (aK s)) x) ((aC (aE (aK s)) x).length) i (oX s x)).length:=λx i h h2=>by grind
  have t7:∀x i a b:Nat,(x:Int)<(aE (aK s)).length->(i:Int)<(aC (aE (aK s)) x).length->bs (aE (aK s)) x+(i+1) % (aC (aE (aK s)) x).length<(iJ (rgO (bs (aE (aK s)) x) ((aC (aE (aK s)) x).length) i (oX s x)) a b).length:=λx i a b h h2=>by rw[xJ,rl2];grind
  have t8:∀x i c:Nat,∀z:Int,(x:Int)<(aE (aK s)).length->(i:Int)<(aC (aE (aK s)) x).length->((rgO (bs (aE (aK s)) x) ((aC (aE (aK s)) x).length) i (oX s x)).getD c []).length+[z].length<=1000000:=λx i c z h h2=>by have:((rgO (bs (aE (aK s)) x) ((aC (aE (aK s)) x).length) i (oX s x)).getD c []).length<=400:=rOB x i h h2 c;grind
  have t9:∀x i a b c:Nat,∀z:Int,(x:Int)<(aE (aK s)).length->(i:Int)<(aC (aE (aK s)) x).length->((iJ (rgO (bs (aE (aK s)) x) ((aC (aE (aK s)) x).length) i (oX s x)) a b).getD c []).length+[z].length<=1000000:=λx i a b c z h h2=>by have:((iJ (rgO (bs (aE (aK s)) x) ((aC (aE (aK s)) x).length) i (oX s x)) a b).getD c []).length<=401:=BS (rOB x i h h2) a b c;grind
  have t10:∀x i:Nat,(x:Int)<(aE (aK s)).length->(i:Int)<(aC (aE (aK s)) x).length->bs (aE (aK s)) x+i<(rgN x (bs (aE (aK s)) x) (aC (aE (aK s)) x).length i (nX s x)).length:=λx i h h2=>by grind
  have t11:∀x i:Nat,(x:Int)<(aE (aK s)).length->(i:Int)<(aC (aE (aK s)) x).length->bs (aE (aK s)) x+(i+1) % (aC (aE (aK s)) x).length<(rgN x (bs (aE (aK s)) x) (aC (aE (aK s)) x).length i (nX s x)).length:=λx i h h2=>by grind
  have t12:∀x i:Nat,(x:Int)=0->(rgN x (bs (aE (aK s)) x) (aC (aE (aK s)) x).length i (nX s x)).set (bs (aE (aK s)) x+i) ((bs (aE (aK s)) x+(i+1) % (aC (aE (aK s)) x).length:Nat):Int)=rgN x (bs (aE (aK s)) x) ((aC (aE (aK s)) x).length) (i+1) (nX s x):=λx i h=>(if_pos (show x=0 by omega)).symm;have t13:∀x i:Nat,¬(x:Int)=0->(rgN x (bs (aE (aK s)) x) (aC (aE (aK s)) x).length i (nX s x)).set (bs (aE (aK s)) x+(i+1) % (aC (aE (aK s)) x).length) ((bs (aE (aK s)) x+i:Nat):Int)=rgN x (bs (aE (aK s)) x) ((aC (aE (aK s)) x).length) (i+1) (nX s x):=λx i h=>(if_neg (show¬x=0 by omega)).symm;have t14:∀x:Nat,(x:Int)<(aE (aK s)).length->aH ((bs (aE (aK s)) x:Int)+(aC (aE (aK s)) x).length):=λx h=>bT (by grind);have t15:∀x:Nat,(x:Int)<(aE (aK s)).length->(bs (aE (aK s)) x:Int)+(aC (aE (aK s)) x).length=(bs (aE (aK s)) (x+1):Int):=λx h=>by rw[<-qe (show x<(aE (aK s)).length by omega)];omega
  have t16:∀x i:Nat,¬(i:Int)<(aC (aE (aK s)) x).length->i<=(aC (aE (aK s)) x).length->rgO (bs (aE (aK s)) x) ((aC (aE (aK s)) x).length) i (oX s x)=oX s (x+1):=λx i h h2=>by rw[show i=(aC (aE (aK s)) x).length by omega];rfl
  have t17:∀x i:Nat,¬(i:Int)<(aC (aE (aK s)) x).length->i<=(aC (aE (aK s)) x).length->rgN x (bs (aE (aK s)) x) (aC (aE (aK s)) x).length i (nX s x)=nX s (x+1):=λx i h h2=>by rw[show i=(aC (aE (aK s)) x).length by omega];rfl
  have t18:∀x:Nat,¬(x:Int)<(aE (aK s)).length->x<=(aE (aK s)).length->oX s x=oB s:=λx h h2=>by rw[show x=(aE (aK s)).length by omega];rfl
  have t19:∀x:Nat,¬(x:Int)<(aE (aK s)).length->x<=(aE (aK s)).length->nX s x=nG s:=λx h h2=>by rw[show x=(aE (aK s)).length by omega];rfl
  have d0:∀x:Nat,(x:Int)<(dOf s).length->az (dOf s) x∈dOf s:=λx h=>by rw[jD (show x<(dOf s).length by omega)];grind
  have d1:∀x:Nat,(x:Int)<(dOf s).length->(az (dOf s) x).a∈vOf s:=λx h=>(dm _ (d0 x h)).1;have d2:∀x:Nat,(x:Int)<(dOf s).length->(az (dOf s) x).b∈vOf s:=λx h=>(dm _ (d0 x h)).2;have d3:∀x:Nat,(x:Int)<(dOf s).length->ix (ci (vOf s) (az (dOf s) x).a:Int) (vOf s).length:=λx h=>dr (lr (d1 x h));have d4:∀x:Nat,(x:Int)<(dOf s).length->ix (ci (vOf s) (az (dOf s) x).b:Int) (vOf s).length:=λx h=>dr (lr (d2 x h));have dl2:∀x:Nat,(dgO (vOf s) (dOf s) x (oB s)).length=(vOf s).length:=λx=>(Fo _ _ _ x).trans (Oo s);have d5:∀x:Nat,(x:Int)<(dOf s).length->ci (vOf s) (az (dOf s) x).a<(dgO (vOf s) (dOf s) x (oB s)).length:=λx h=>by rw[dl2];exact lr (d1 x h)
  have d6:∀x a b:Nat,(x:Int)<(dOf s).length->ci (vOf s) (az (dOf s) x).b<(iJ (dgO (vOf s) (dOf s) x (oB s)) a b).length:=λx a b h=>by rw[xJ,dl2];exact lr (d2 x h)
  have d7:∀x c:Nat,∀z:Int,(x:Int)<(dOf s).length->((dgO (vOf s) (dOf s) x (oB s)).getD c []).length+[z].length<=1000000:=λx c z h=>by have:((dgO (vOf s) (dOf s) x (oB s)).getD c []).length<=13000:=dOB x (by omega) c;simp only[vI];omega
  have d8:∀x a b c:Nat,∀z:Int,(x:Int)<(dOf s).length->((iJ (dgO (vOf s) (dOf s) x (oB s)) a b).getD c []).length+[z].length<=1000000:=λx a b c z h=>by have:((iJ (dgO (vOf s) (dOf s) x (oB s)) a b).getD c []).length<=13001:=BS (dOB x (by omega)) a b c;simp only[vI];omega
  have pl:(pG s).length=(dOf s).length:=cL ..;have d9:∀x:Nat,x<=(dOf s).length->(aW x (pG s)).length=x:=λx h=>by rw[kP];omega
  have d10:∀x:Nat,(x:Int)<(dOf s).length->aW x (pG s)++[(ci (vOf s) (az (dOf s) x).a,ci (vOf s) (az (dOf s) x).b)] =aW (x+1) (pG s):=λx h=>by rw[kR (show x<(pG s).length by omega)];unfold pG dgP;rw[iZ,jD (show x<(dOf s).length by omega)]
  have d11:∀x:Nat,¬(x:Int)<(dOf s).length->x<=(dOf s).length->dgO (vOf s) (dOf s) x (oB s)=oD s:=λx h h2=>by rw[show x=(dOf s).length by omega];rfl
  have d12:∀x:Nat,¬(x:Int)<(dOf s).length->x<=(dOf s).length->x=(pG s).length:=λx h h2=>by omega
  have d13:∀x:Nat,¬(x:Int)<(dOf s).length->aW x (pG s)=pG s:=λx h=>gu (by omega);have s0:∀x:Nat,(x:Int)<(vOf s).length->(stO (vOf s) x (oD s)).getD x [] =ae (oD s) x:=λx h=>by have:=sD (vOf s) (oD s) x x (by rw[xf];omega);rw[if_neg (Nat.lt_irrefl x)]at this;exact this
  have s1:∀x:Nat,(x:Int)<(vOf s).length->x<(stO (vOf s) x (oD s)).length:=λx h=>by rw[rq,xf];omega
  have s2:∀x:Nat,(x:Int)<(vOf s).length->0<((stO (vOf s) x (oD s)).getD x []).length:=λx h=>by rw[s0 x h];exact(hg x (by omega)).1
  have s3:∀x:Nat,(x:Int)<(vOf s).length->((stO (vOf s) x (oD s)).getD x []).length<=1000000:=λx h=>by rw[s0 x h];have:=dOB _ (bQ _) x;grind
  have s4:∀x:Nat,(x:Int)<(vOf s).length->∀y∈(stO (vOf s) x (oD s)).getD x [],0<=y/\y.toNat<(vOf s).length:=λx h=>by rw[s0 x h];exact(hg x (by omega)).2.1
  have s5:∀x:Nat,(x:Int)<(vOf s).length->OrdOn (ltA (vOf s) x) ((stO (vOf s) x (oD s)).getD x []):=λx h=>by rw[s0 x h];exact(hg x (by omega)).2.2
  have s6:∀x:Nat,¬(x:Int)<(vOf s).length->x<=(vOf s).length->stO (vOf s) x (oD s)=oG s:=λx h h2=>by rw[show x=(vOf s).length by omega];rfl
  have w1:∀x:Nat,x<=(vOf s).length->aH ((x:Int)+1):=λx h=>bT (by omega);clear hB oXB oBB dOB rOB fl c1 V hR hg
  repeat' first|with_reducible apply cF|with_reducible intro
  all_goals repeat with_reducible cases‹_/\_›
  all_goals first|assumption|rfl|omega|(unfold ix;omega)|(unfold aH;omega)|exact f3 _ ‹_› |exact t1 _ _ ‹_› ‹_› |exact t2 _ _ ‹_› ‹_› |exact t3 _ _ ‹_› ‹_› |exact t4 _ _ ‹_› ‹_› |exact t5 _ _ ‹_› ‹_› |exact t6 _ _ ‹_› ‹_› |exact t7 _ _ _ _ ‹_› ‹_› |exact t8 _ _ _ _ ‹_› ‹_› |exact t9 _ _ _ _ _ _ ‹_› ‹_› |exact t10 _ _ ‹_› ‹_› |exact t11 _ _ ‹_› ‹_› |exact t12 _ _ ‹_› |exact t13 _ _ ‹_› |exact t14 _ ‹_› |exact t15 _ ‹_› |exact t16 _ _ ‹_› ‹_› |exact t17 _ _ ‹_› ‹_› |exact t18 _ ‹_› ‹_› |exact t19 _ ‹_› ‹_› |exact d1 _ ‹_› |exact d2 _ ‹_› |exact d3 _ ‹_› |exact d4 _ ‹_› |exact d5 _ ‹_› |exact d6 _ _ _ ‹_› |exact d7 _ _ _ ‹_› |exact d8 _ _ _ _ _ ‹_› |exact(d9 _ ‹_›).symm|(rw[d9 _ ‹_›];simp;omega)|(rw[fw,d9 _ ‹_›];rfl)|exact d10 _ ‹_› |exact d11 _ ‹_› ‹_› |exact d12 _ ‹_› ‹_› |exact d13 _ ‹_› |exact s1 _ ‹_› |exact s2 _ ‹_› |exact s3 _ ‹_› |exact(s4 _ ‹_› _ ‹_›).1|exact(s4 _ ‹_› _ ‹_›).2|exact vb _ ‹_› |exact s5 _ ‹_› |grind)
noncomputable def Qf:=RI.adk aB8
def fo(v:List V)(L:List (List Int))(i j:Nat):Bool:=decide (0<=turn (aEn v i) (aEn v (iB L i j (-1))) (aEn v (iB L i j 1)))
structure ArOk(v:List V)(L:List (List Int))(i j:Nat):Prop where
 iL:i<L.length
 mem:(j:Int)∈ae L i
 rng:∀x∈ae L i,0<=x/\x.toNat<v.length
 len:(ae L i).length<=1000000
def ArOk.around{v:List V}{L:List (List Int)}{i j:Nat}(h:ArOk v L i j)(st:Int):((iB L i j st:Nat):Int)∈ae L i/\iB L i j st<v.length:=by
 unfold iB;dsimp only;have h0:0<(ae L i).length:=IQ h.mem;generalize ((fL (ae L i) (j:Int):Int)+st+(ae L i).length).toNat=k;have hm:cu (ae L i) (k % (ae L i).length)∈ae L i:=by rw[show cu (ae L i) (k % (ae L i).length)=_ from ng (bk _ h0)];exact mN _
 obtain⟨h1,h2⟩:=h.rng _ hm;grind
noncomputable def aDw:Con:=con (ac aGr (ac aN (a1 aN))) (λ(g,i,j)=>[g.1.length<=1000000,g.2.1.length<=g.1.length,(∀u∈g.1,bd 1000000000 u),ArOk g.1 g.2.1 i j]) (λ(g,i,j)=> .bool (fo g.1 g.2.1 i j)
 )
def aB7:aDw.Okz 172:=bH Qf (λ(_,_,_)=>[]) (λ(_,_,_)=>⟨_,rfl⟩) λ(g,i,j) hp=>bC (aA (aEn g.1 i) λA=>aA (ae g.2.fst i) λB=>aA (aEn g.1 (iB g.2.fst i j 1)) λD=>aA (aEn g.1 (iB g.2.fst i j (-1))) λF=>g.fst.length<=1000000/\g.2.fst.length<=1000000/\i<g.2.fst.length/\(j:Int)∈ae g.2.fst i/\B.length<=1000000/\(∀x:Int,x∈ae g.2.fst i->0<=x)/\((-1:Int)=1\/(-1:Int)= -1)/\g.fst.length<=1000000/\g.2.fst.length<=1000000/\i<g.2.fst.length/\(j:Int)∈ae g.2.fst i/\B.length<=1000000/\(∀x:Int,x∈ae g.2.fst i->0<=x)/\((1:Int)=1\/(1:Int)= -1)/\ix (i:Int) g.1.length/\ix (iB g.2.fst i j (-1):Int) g.1.length/\ix (iB g.2.fst i j 1:Int) g.1.length/\bd 1000000000 A/\bd 1000000000 F/\bd 1000000000 D/\decide (0<=turn A F D)=fo g.1 g.2.1 i j) (by kernel_rfl) (by
 change g.1.length<=1000000/\g.2.1.length<=g.1.length/\((∀u∈g.1,bd 1000000000 u))/\ArOk g.1 g.2.1 i j at hp;obtain⟨h1,h2,h3,h4⟩:=hp;have a1:=(h4.around (-1)).2;have a2:=(h4.around 1).2;have bN:∀i:Nat,i<g.1.length->bd 1000000000 (aEn g.1 i):=λi h=>h3 _ (dD h);have r:∀x∈ae g.2.1 i,0<=x:=λx hx=>(h4.rng x hx).1;have iL:=h4.iL;have iv:i<g.1.length:=by omega
 have l2:g.2.1.length<=1000000:=by omega
 exact⟨h1,l2,iL,h4.mem,h4.len,r,.inr rfl,h1,l2,iL,h4.mem,h4.len,r,.inl rfl,dr iv,dr a1,dr a2,bN _ iv,bN _ a1,bN _ a2,rfl⟩)
noncomputable def Qe:=Qf.adk aB7
def uH(l:List Int)(q:Int):List Int:=l.filter λy=> !(y==q)
def Bn(L:List (List Int))(i j:Nat):List (List Int):=(L.set j (uH (ae L j) i)).set i (uH (ae L i) j)
def stS(v:List V)(P:List (Nat×Nat)):Nat->List (List Int)->List (List Int)×List (Nat×Nat)
 |0,L=>(L,[])
 |k+1,L=>
  let r:=stS v P k L
  let p:=aX P k
  if fo v r.1 p.1 p.2=true/\fo v r.1 p.2 p.1=true then(Bn r.1 p.1 p.2,r.2)else(r.1,r.2++[p])
def sG(s:Shape)(k:Nat):List (List Int)×List (Nat×Nat):=stS (vOf s) (pG s) k (oG s)
def soG(s:Shape):List (List Int):=(sG s (pG s).length).1
def spG(s:Shape):List (Nat×Nat):=(sG s (pG s).length).2
def M4(v:List V)(P:List (Nat×Nat))(L:List (List Int)):∀k,(stS v P k L).1.length=L.length
 |0=>rfl
 |k+1=>by
  have:=M4 v P L k;unfold stS;dsimp only;split
  .unfold Bn;grind
  .exact this
def uR(s:Shape)(k:Nat):(sG s k).1.length=(vOf s).length:=(M4 _ _ _ k).trans (aAp s)
def Az(v:List V)(P:List (Nat×Nat))(L:List (List Int)):∀k,(stS v P k L).2.length<=k
 |0=>bQ _
 |k+1=>by
  have:=Az v P L k;unfold stS;grind
def M3(v:List V)(P:List (Nat×Nat))(L:List (List Int)):∀k,k<=P.length->∀p∈(stS v P k L).2,p∈P
 |0,_,p,hp=>(cl hp).elim
 |k+1,hk,p,hp=>by
  have ih:=M3 v P L k (by omega);unfold stS at hp;dsimp only at hp;split at hp
  .exact ih p hp
  .rcases bq.1 hp with hp|hp
   .exact ih p hp
   .rw[bh.1 hp,mZ (by omega)];grind
def GG{s:Shape}{k:Nat}(h1:fo (vOf s) (sG s k).1 (aX (pG s) k).1 (aX (pG s) k).2=true)(h2:fo (vOf s) (sG s k).1 (aX (pG s) k).2 (aX (pG s) k).1=true):
 sG s (k+1)=(Bn (sG s k).1 (aX (pG s) k).1 (aX (pG s) k).2,(sG s k).2):=if_pos ⟨h1,h2⟩
def xw{s:Shape}{k:Nat}(h:fo (vOf s) (sG s k).1 (aX (pG s) k).1 (aX (pG s) k).2=false\/fo (vOf s) (sG s k).1 (aX (pG s) k).2 (aX (pG s) k).1=false):
  sG s (k+1)=((sG s k).1,(sG s k).2++[((aX (pG s) k).1,(aX (pG s) k).2)]):=if_neg λh2=>by
 rcases h with h|h
 .exact absurd (h.symm.trans h2.1) (by decide)
 .exact absurd (h.symm.trans h2.2) (by decide)
def Bh{s:Shape}(hv:bJ s=true){p:Nat×Nat}(h:p∈pG s):p.1<(vOf s).length/\p.2<(vOf s).length:=by obtain⟨d,hd,rfl⟩:=bM.1 h;obtain⟨h1,h2⟩:=(uY hv).2 d hd;exact⟨lr h1,lr h2⟩
def qj(s:Shape):(pG s).length=(dOf s).length:=cL ..
def SOk(s:Shape):Prop:=∀k,k<(pG s).length->ArOk (vOf s) (sG s k).1 (aX (pG s) k).1 (aX (pG s) k).2/\ArOk (vOf s) (sG s k).1 (aX (pG s) k).2 (aX (pG s) k).1/\(aX (pG s) k).2≠(aX (pG s) k).1
noncomputable def aD9:Con:=Hh (a1 aSh) (λs=>[Fit s,bJ s=true,GOk s,SOk s]) (λs=> .tup [.ptr 60 0,.own 20000005 .P (spG s).length]) (λs=>[(60,some (.box 114 [.lst .V (vOf s),.owF 15000005 (vOf s).length,.own 18000005 .I (vOf s).length])),(15000005,some (.fam 112 3 .I (soG s) [])),(18000005,some (.row 3 .I (nG s))),(20000005,some (.row 67 .P (spG s)))])
def aCK:aD9.Okz 114:=OE (oK Qe.o) (st:=true) (raw:=uj) (λs=>[(10003,.mk Unit (λ_ _=>some ()) [60,20000005] bg (λ_=>[(4,.ptr 60 0),(6,.own 20000005 .P 0)]) (λ_=>[(60,.box 114 [.lst .V (vOf s),.owF 15000005 (vOf s).length,.own 18000005 .I (vOf s).length]),(20000005,.row 67 .P [])]) (λ_=>0) bg),
  lp 4 16 (pG s).length bg [20000005] (λk=>[(6,.own 20000005 .P (sG s k).2.length)]) (λk=>[(15000005,.fam 112 3 .I (sG s k).1 []),(20000005,.row 67 .P (sG s k).2),(0,.box 0 [.undef])])]
  ) λs hp=>bC (aA (pG s) λA=>aA (vOf s) λB=>aA (0:Nat) λG=>aA ([] :List (Prod Nat Nat)) λO=>aA ([] :List Int) λP=>Fit s/\bJ s=true/\GOk s/\(G=0/\vOf s=vOf s/\B.length=B.length/\B.length=B.length/\O=O)/\
 (∀y:Unit,(0=(0:Int)/\G=O.length/\oG s=oG s/\O=O/\G<=A.length)/\
  (∀x:Nat,aA (x+1) λC=>aA (sG s x) λD=>aA (sG s C) λE=>aA (x:Int) λF=>aA (aX A x) λH=>aA (H.1,H.2) λI=>aA (H.1:Int) λJ=>aA (H.2:Int) λK=>aA ((x+1:Nat):Int) λM=>aA (D.2++[I]).length λQ=>aA (jj D.1 H.1 P) λR=>aA (jj D.1 H.2 P) λS=>aA (H.1,SV.ownf 15000005 LT.I H.1 R.length) λT=>x<=A.length->(F<A.length->ix F A.length/\x<A.length/\ix 0 2/\ix 1 2/\B.length=D.1.length/\B.length=(nG s).length/\B.length<=1000000/\D.fst.length<=B.length/\(∀u:V,u∈vOf s->bd 1000000000 u)/\ArOk B D.fst H.1 H.2/\(fo B D.fst H.1 H.2=true->ix 1 2/\ix 0 2/\B.length=D.1.length/\B.length=(nG s).length/\B.length<=1000000/\D.fst.length<=B.length/\(∀u:V,u∈vOf s->bd 1000000000 u)/\ArOk B D.fst H.2 H.1/\(fo B D.fst H.2 H.1=true->ix 0 2/\ix 1 2/\ix J B.length/\H.1<D.1.length/\H.1<D.1.length/\R.length=R.length/\G<R.length/\R.length<=1000000/\ix J B.length/\H.1=H.1/\H.1<D.1.length/\ix K B.length/\H.2<D.1.length/\H.2≠T.fst/\H.2<D.1.length/\S.length=S.length/\G<S.length/\H.2≠T.fst/\S.length<=1000000/\ix K B.length/\H.2=H.2/\H.2<D.1.length/\aH (F+1)/\H.2<D.1.length/\(rN (λy=>(!y==J)) S).length=(rN (λy=>(!y==J)) S).length/\H.2≠T.fst/\H.1<(mP D.1 H.2 (rN (λy=>(!y==J)) S)).length/\(rN (λy=>(!y==K)) R).length=(rN (λy=>(!y==K)) R).length/\F+1=M/\D.2.length=E.2.length/\mP (mP D.1 H.2 (rN (λy=>(!y==J)) S)) H.1 (rN (λy=>(!y==K)) R)=E.1/\D.2=E.2/\x+1<=A.length/\A.length-C<A.length-x)/\
     (fo B D.fst H.2 H.1=false->D.2.length=D.2.length/\D.2.length+[I].length<=1000000/\aH (F+1)/\F+1=M/\Q=E.2.length/\D.1=E.1/\D.2++[I] =E.2/\x+1<=A.length/\A.length-C<A.length-x))/\
    (fo B D.fst H.1 H.2=false->D.2.length=D.2.length/\D.2.length+[I].length<=1000000/\aH (F+1)/\F+1=M/\Q=E.2.length/\D.1=E.1/\D.2++[I] =E.2/\x+1<=A.length/\A.length-C<A.length-x))/\
   (¬F<A.length->D.2.length=(spG s).length/\vOf s=vOf s/\B.length=B.length/\B.length=B.length/\D.1=soG s/\nG s=nG s/\D.2=spG s)))) (by kernel_rfl) (by
  change Fit s/\bJ s=true/\GOk s/\SOk s at hp;obtain⟨hf,hv,hg,hs⟩:=hp;have n80:(vOf s).length<=80:=pP s;have pl:(pG s).length<=6400:=by rw[qj];exact(uY hv).1
  have vb:∀u∈vOf s,bd 1000000000 u:=λu hu=>by obtain⟨i,hi,rfl⟩:=fO.1 hu;exact Ax hi (by decide)
  have nl:(nG s).length=(vOf s).length:=GJ s _;have gl:=uR s;have p1:∀x:Nat,(x:Int)<(pG s).length->(aX (pG s) x).1<(vOf s).length/\(aX (pG s) x).2<(vOf s).length:=λx h=>Bh hv (by rw[mZ (by omega)];grind);have hS:∀x:Nat,(x:Int)<(pG s).length->_:=λx h=>hs x (by omega);have q1:∀x:Nat,(x:Int)<(pG s).length->0<(jj (sG s x).1 (aX (pG s) x).1 ([] :List Int)).length:=λx h=>IQ (hS x h).1.mem;have q2:∀x:Nat,(x:Int)<(pG s).length->0<(jj (sG s x).1 (aX (pG s) x).2 ([] :List Int)).length:=λx h=>IQ (hS x h).2.1.mem;have q3:∀x:Nat,(x:Int)<(pG s).length->(jj (sG s x).1 (aX (pG s) x).1 ([] :List Int)).length<=1000000:=λx h=>(hS x h).1.len;have q4:∀x:Nat,(x:Int)<(pG s).length->(jj (sG s x).1 (aX (pG s) x).2 ([] :List Int)).length<=1000000:=λx h=>(hS x h).2.1.len;have q5:∀x:Nat,x<=(pG s).length->(sG s x).2.length<=6400:=λx h=>by have:(sG s x).2.length<=x:=Az _ _ _ x;omega
  have a1:∀x:Nat,(vOf s).length=(sG s x).1.length:=λx=>(gl x).symm;have a2:∀x:Nat,(sG s x).1.length<=(vOf s).length:=λx=>Cp (gl x);have a3:∀x:Nat,(x:Int)<(pG s).length->ArOk (vOf s) (sG s x).1 (aX (pG s) x).1 (aX (pG s) x).2:=λx h=>(hS x h).1;have a4:∀x:Nat,(x:Int)<(pG s).length->ArOk (vOf s) (sG s x).1 (aX (pG s) x).2 (aX (pG s) x).1:=λx h=>(hS x h).2.1;have a5:∀x:Nat,(x:Int)<(pG s).length->ix ((aX (pG s) x).1:Int) (vOf s).length:=λx h=>dr (p1 x h).1;have a6:∀x:Nat,(x:Int)<(pG s).length->ix ((aX (pG s) x).2:Int) (vOf s).length:=λx h=>dr (p1 x h).2;have a7:∀x:Nat,(x:Int)<(pG s).length->(aX (pG s) x).1<(sG s x).1.length:=λx h=>by grind
  have a8:∀x:Nat,(x:Int)<(pG s).length->(aX (pG s) x).2<(sG s x).1.length:=λx h=>by grind
  have a9:∀x:Nat,(x:Int)<(pG s).length->(aX (pG s) x).2≠(aX (pG s) x).1:=λx h=>(hS x h).2.2;have b1:∀x j:Nat,∀l:List Int,(x:Int)<(pG s).length->(aX (pG s) x).1<((sG s x).1.set j l).length:=λx j l h=>by grind
  have b2:∀x:Nat,fo (vOf s) (sG s x).1 (aX (pG s) x).1 (aX (pG s) x).2=true->fo (vOf s) (sG s x).1 (aX (pG s) x).2 (aX (pG s) x).1=true->mP (mP (sG s x).1 (aX (pG s) x).2 (rN (λy=>(!y==((aX (pG s) x).1:Int))) (jj (sG s x).1 (aX (pG s) x).2 ([] :List Int)))) (aX (pG s) x).1 (rN (λy=>(!y==((aX (pG s) x).2:Int))) (jj (sG s x).1 (aX (pG s) x).1 ([] :List Int)))=(sG s (x+1)).1:=λx h h2=>by rw[GG h h2];rfl
  have b3:∀x:Nat,fo (vOf s) (sG s x).1 (aX (pG s) x).1 (aX (pG s) x).2=true->fo (vOf s) (sG s x).1 (aX (pG s) x).2 (aX (pG s) x).1=true->(sG s x).2=(sG s (x+1)).2:=λx h h2=>by rw[GG h h2]
  have b4:∀x:Nat,fo (vOf s) (sG s x).1 (aX (pG s) x).1 (aX (pG s) x).2=false->(sG s x).1=(sG s (x+1)).1:=λx h=>by rw[xw (.inl h)]
  have b5:∀x:Nat,fo (vOf s) (sG s x).1 (aX (pG s) x).2 (aX (pG s) x).1=false->(sG s x).1=(sG s (x+1)).1:=λx h=>by rw[xw (.inr h)]
  have b6:∀x:Nat,fo (vOf s) (sG s x).1 (aX (pG s) x).1 (aX (pG s) x).2=false->(sG s x).2++[((aX (pG s) x).1,(aX (pG s) x).2)] =(sG s (x+1)).2:=λx h=>by rw[xw (.inl h)]
  have b7:∀x:Nat,fo (vOf s) (sG s x).1 (aX (pG s) x).2 (aX (pG s) x).1=false->(sG s x).2++[((aX (pG s) x).1,(aX (pG s) x).2)] =(sG s (x+1)).2:=λx h=>by rw[xw (.inr h)]
  have b8:∀x:Nat,∀z:Nat×Nat,x<=(pG s).length->(sG s x).2.length+[z].length<=1000000:=λx z h=>by grind
  have b9:∀x:Nat,¬(x:Int)<(pG s).length->x<=(pG s).length->sG s x=sG s (pG s).length:=λx h h2=>by grind
  have c9:∀x:Nat,x<=(pG s).length->aH ((x:Int)+1):=λx h=>bT (by omega);clear hS hs gl
  with_reducible ((repeat' first|apply cF|intro);all_goals repeat cases‹_/\_›)
  all_goals first|(with_reducible first|assumption|rfl|exact a1 _|exact a2 _|exact vb _ ‹_› |exact a3 _ ‹_› |exact a4 _ ‹_› |exact a5 _ ‹_› |exact a6 _ ‹_› |exact a7 _ ‹_› |exact a8 _ ‹_› |exact a9 _ ‹_› |exact q1 _ ‹_› |exact q2 _ ‹_› |exact q3 _ ‹_› |exact q4 _ ‹_› |exact b1 _ _ _ ‹_› |exact b2 _ ‹_› ‹_› |exact b3 _ ‹_› ‹_› |exact congrArg fW (b3 _ ‹_› ‹_›)|exact b4 _ ‹_› |exact b5 _ ‹_› |exact b6 _ ‹_› |exact b7 _ ‹_› |exact congrArg fW (b6 _ ‹_›)|exact congrArg fW (b7 _ ‹_›)|exact b8 _ _ ‹_›)|omega|(unfold ix;omega)|(unfold aH;omega)|exact rfl|exact congrArg Prod.fst (b9 _ ‹_› ‹_›)|exact congrArg Prod.snd (b9 _ ‹_› ‹_›)|exact congrArg (λy=>y.2.length) (b9 _ ‹_› ‹_›))
noncomputable def aBx:=Qe.adk aCK
def eV(s:Shape):Int:=if bJ s=true then 0 else 11
noncomputable def RG:=aBx.adk Rj
def pc(r:List aEo)(k:Nat):Bool:=decide (turn (aEn r ((k+r.length-1) % r.length)) (aEn r k) (aEn r ((k+1) % r.length))≠0)
def fh(r:List aEo)(k:Nat):List aEo:=((bP k).filter (pc r)).map (aEn r)
def dH(r:List aEo):List aEo:=fh r r.length
def wU(r:List aEo)(k:Nat):fh r (k+1)=if pc r k=true then fh r k++[aEn r k]else fh r k:=by unfold fh;rw[vZ,vQ,dQ];grind
def AS(r:List aEo):∀k,(fh r k).length<=k
 |0=>bQ _
 |k+1=>by
  have:=AS r k;rw[wU];grind
def EH(r:List aEo):∀k,k<=r.length->∀u∈fh r k,u∈r
 |0,_,u,h=>(cl h).elim
 |k+1,hk,u,h=>by
  rw[wU]at h;split at h
  .rcases bq.1 h with h|h
   .exact EH r k (by omega) u h
   .rw[bh.1 h];exact dD (by omega)
  .exact EH r k (by omega) u h
noncomputable def aD8:Con:=con (a1 (aL .V)) (λr=>[r.length<=1000,(∀u∈r,bd 1000000000 u),0<(dH r).length]) (λr=> .lst .V (co (dH r)))
def aCJ:aD8.Okz 115:=bH RG (λr=>[lp 4 12 r.length bg [40] (λk=>[(3,.own 40 .V (fh r k).length)]) (λk=>[(40,.row 44 .V (fh r k))])]
  ) (λ_=>⟨_,rfl⟩) λr hp=>bC (aA (0:Nat) λC=>aA (r.length:Int) λK=>(0=(0:Int)/\(fh r 0).length=0/\fh r 0=([] :List aEo)/\C<=r.length)/\
 (∀x:Nat,aA (x+1) λA=>aA (x:Int) λB=>aA (fh r x) λD=>aA (aEn r x) λE=>aA (aEn r (A % r.length)) λG=>aA (aEn D (dN D)) λI=>aA (gi 0 D) λJ=>aA (B+r.length-1) λL=>aA (c8 L K) λM=>aA (fh r A).length λN=>aA (aEn r M.toNat) λO=>aA ((x+1:Nat):Int) λP=>x<=r.length->(B<r.length->ix B r.length/\aH (B+r.length)/\aH L/\K≠0/\ix M r.length/\aH (B+1)/\K≠0/\ix ((A % r.length:Nat):Int) r.length/\bd 1000000000 O/\bd 1000000000 E/\bd 1000000000 G/\(¬turn O E G=0->D.length=D.length/\D.length+[E].length<=1000000/\aH (B+1)/\B+1=P/\(fh r x++[E]).length=N/\fh r x++[E] =fh r A/\x+1<=r.length/\r.length-A<r.length-x)/\
   (¬(¬turn O E G=0)->aH (B+1)/\B+1=P/\D.length=N/\fh r x=fh r A/\x+1<=r.length/\r.length-A<r.length-x))/\
  (¬B<r.length->D.length=D.length/\C<D.length/\D.length<=1000/\D.length=D.length/\D.length<=1000/\(0<=fI (λx_1=>decide (I=x_1)) D/\fI (λx_1=>decide (I=x_1)) D<=D.length)/\(fI (λx_1=>decide (I=x_1)) D).toNat+(D.length-(fI (λx_1=>decide (I=x_1)) D).toNat)<=D.length/\C<(aW (D.length-(fI (λx_1=>decide (I=x_1)) D).toNat) (gi (fI (λx_1=>decide (I=x_1)) D).toNat D)).length/\(aW (D.length-(fI (λx_1=>decide (I=x_1)) D).toNat) (gi (fI (λx_1=>decide (I=x_1)) D).toNat D)).length<=1000/\(0<=fI (λx_1=>decide (I=x_1)) D/\fI (λx_1=>decide (I=x_1)) D<=D.length)/\(aW (D.length-(fI (λx_1=>decide (I=x_1)) D).toNat) (gi (fI (λx_1=>decide (I=x_1)) D).toNat D)).length=(aW (D.length-(fI (λx_1=>decide (I=x_1)) D).toNat) (gi (fI (λx_1=>decide (I=x_1)) D).toNat D)).length/\0+(fI (λx_1=>decide (I=x_1)) D).toNat<=D.length/\(aW (D.length-(fI (λx_1=>decide (I=x_1)) D).toNat) (gi (fI (λx_1=>decide (I=x_1)) D).toNat D)).length+(aW (fI (λx_1=>decide (I=x_1)) D).toNat J).length<=1000000/\(aW (D.length-(fI (λx_1=>decide (I=x_1)) D).toNat) (gi (fI (λx_1=>decide (I=x_1)) D).toNat D)++aW (fI (λx_1=>decide (I=x_1)) D).toNat J).length=(aW (D.length-(fI (λx_1=>decide (I=x_1)) D).toNat) (gi (fI (λx_1=>decide (I=x_1)) D).toNat D)++aW (fI (λx_1=>decide (I=x_1)) D).toNat J).length/\aW (D.length-(fI (λx_1=>decide (I=x_1)) D).toNat) (gi (fI (λx_1=>decide (I=x_1)) D).toNat D)++aW (fI (λx_1=>decide (I=x_1)) D).toNat J=co (dH r)))) (by kernel_rfl) (by
  change r.length<=1000/\((∀u∈r,bd 1000000000 u))/\0<(dH r).length at hp;obtain⟨hl,hb,hc⟩:=hp;have bN:∀i:Nat,i<r.length->bd 1000000000 (aEn r i):=λi h=>hb _ (dD h);have tm:∀x:Nat,(x:Int)<r.length->c8 ((x:Int)+r.length-1) (r.length:Int)=(((x+r.length-1) % r.length:Nat):Int):=λx h=>by grind
  have lt:∀x:Nat,(x:Int)<r.length->(x+r.length-1) % r.length<r.length:=λx h=>bk _ (by omega);have lt2:∀x:Nat,(x:Int)<r.length->(x+1) % r.length<r.length:=λx h=>bk _ (by omega);have f1:∀x:Nat,(x:Int)<r.length->aH ((x:Int)+r.length):=λx h=>bT (by omega);have f2:∀x:Nat,(x:Int)<r.length->aH ((x:Int)+r.length-1):=λx h=>bT (by omega);have f3:∀x:Nat,(x:Int)<r.length->(r.length:Int)≠0:=λx h=>by omega
  have f4:∀x:Nat,(x:Int)<r.length->ix (c8 ((x:Int)+r.length-1) (r.length:Int)) r.length:=λx h=>by rw[tm x h];exact dr (lt x h)
  have f5:∀x:Nat,(x:Int)<r.length->aH ((x:Int)+1):=λx h=>bT (by omega);have f6:∀x:Nat,(x:Int)<r.length->ix (((x+1) % r.length:Nat):Int) r.length:=λx h=>dr (lt2 x h);have f7:∀x:Nat,(x:Int)<r.length->bd 1000000000 (aEn r (c8 ((x:Int)+r.length-1) (r.length:Int)).toNat):=λx h=>by rw[tm x h];exact bN _ (lt x h)
  have f8:∀x:Nat,(x:Int)<r.length->bd 1000000000 (aEn r x):=λx h=>bN _ (by omega);have f9:∀x:Nat,(x:Int)<r.length->bd 1000000000 (aEn r ((x+1) % r.length)):=λx h=>bN _ (lt2 x h);have f10:∀x:Nat,(x:Int)<r.length->¬turn (aEn r (c8 ((x:Int)+r.length-1) (r.length:Int)).toNat) (aEn r x) (aEn r ((x+1) % r.length))=0->fh r x++[aEn r x] =fh r (x+1):=λx h h2=>by rw[tm x h,i7]at h2;rw[wU,if_pos (show pc r x=true from decide_eq_true h2)]
  have f11:∀x:Nat,(x:Int)<r.length->¬¬turn (aEn r (c8 ((x:Int)+r.length-1) (r.length:Int)).toNat) (aEn r x) (aEn r ((x+1) % r.length))=0->fh r x=fh r (x+1):=λx h h2=>by rw[tm x h,i7]at h2;rw[wU,if_neg (show¬pc r x=true from λh3=>h2 (of_decide_eq_true h3))]
  have f12:∀x:Nat,∀z:aEo,x<=r.length->(fh r x).length+[z].length<=1000000:=λx z h=>by have:=AS r x;simp only[vI];omega
  have g0:∀x:Nat,¬(x:Int)<r.length->x<=r.length->fh r x=dH r:=λx h h2=>by rw[show x=r.length by omega];rfl
  have g1:(dH r).length<=1000:=by have:=AS r r.length;have h:(dH r).length=(fh r r.length).length:=rfl;omega
  have hlt:=qJ hc;have hf:fI (λx=>decide (aEn (dH r) (dN (dH r))=x)) (dH r)=(dN (dH r):Int):=by
   symm;exact pm (t:= .V) hlt (decide_eq_true rfl) λj hj=>decide_eq_false λe=>by have:=Cw (dH r) (dH r).length j hj;rw[show dp (dH r) (dH r).length=dN (dH r)from rfl,e]at this;exact absurd ((Dx (aEn (dH r) j)).symm.trans this) (by decide)
  refine⟨⟨rfl,rfl,rfl,i5 _⟩,λx hx=>⟨?_,λh=> ?_⟩⟩
  .repeat' first|with_reducible apply cF|with_reducible intro
   all_goals repeat with_reducible cases‹_/\_›
   all_goals first|with_reducible assumption|with_reducible rfl|with_reducible exact f1 _ ‹_› |with_reducible exact f2 _ ‹_› |with_reducible exact f3 _ ‹_› |with_reducible exact f4 _ ‹_› |with_reducible exact f5 _ ‹_› |with_reducible exact f6 _ ‹_› |with_reducible exact f7 _ ‹_› |with_reducible exact f8 _ ‹_› |with_reducible exact f9 _ ‹_› |with_reducible exact f10 _ ‹_› ‹_› |with_reducible exact f11 _ ‹_› ‹_› |with_reducible exact congrArg fW (f10 _ ‹_› ‹_›)|with_reducible exact congrArg fW (f11 _ ‹_› ‹_›)|with_reducible exact f12 _ _ ‹_› |omega|(unfold ix;omega)|(unfold aH;omega)
  .rw[g0 x h hx,hf,i7];unfold co;generalize dN (dH r)=k at hlt|-;have e1:aW ((dH r).length-k) (gi k (dH r))=gi k (dH r):=gu (by grind);have e2:aW k (gi 0 (dH r))=aW k (dH r):=rfl;have e3:(gi k (dH r)).length=(dH r).length-k:=Ht ..;have e4:(aW k (dH r)).length<=(dH r).length:=by rw[kP];omega
   rw[e1,e2];refine⟨rfl,hc,g1,rfl,g1,⟨by omega,by omega⟩,by omega,by omega,by omega,⟨by omega,by omega⟩,rfl,by omega,by omega,rfl,rfl⟩)
noncomputable def RJ:=RG.adk aCJ
def nxP(s:Shape):List (Nat×Nat):=(bP (vOf s).length).map λi=>(i,(cu (nG s) i).toNat)
def iU(p:Nat×Nat):List (Nat×Nat):=[p,(p.2,p.1)]
def hsG(s:Shape):List (Nat×Nat):=nxP s++(spG s).flatMap iU
def nxH(L:List (List Int))(h:Nat×Nat):Nat×Nat:=(h.2,iB L h.2 h.1 (-1))
def trc(v:List aEo)(L:List (List Int)):Nat->List (Nat×Nat)->Nat×Nat->List aEo->List (Nat×Nat)×List aEo
 |0,S,_,r=>(S,r)
 |f+1,S,h,r=>if h∈S then(S,r)else trc v L f (S++[h]) (nxH L h) (r++[aEn v h.1])
def trU(v:List aEo):Nat:=v.length*v.length+1
def pcs(v:List aEo)(L:List (List Int))(H:List (Nat×Nat)):Nat->List (Nat×Nat)×List aD
 |0=>([],[])
 |k+1=>((trc v L (trU v) (pcs v L H k).1 (aX H k) []).1,if 0<(trc v L (trU v) (pcs v L H k).1 (aX H k) []).2.length then(pcs v L H k).2++[co (dH (trc v L (trU v) (pcs v L H k).1 (aX H k) []).2)]else(pcs v L H k).2)
def pcK(s:Shape)(k:Nat):List (Nat×Nat)×List aD:=pcs (vOf s) (soG s) (hsG s) k
def pcG(s:Shape):List aD:=if bJ s=true then pf (pcK s (hsG s).length).2 else []
def nA(s:Shape):Prop:=(∀i j:Nat,(j:Int)∈ae (soG s) i->ArOk (vOf s) (soG s) i j/\ArOk (vOf s) (soG s) j i)/\(∀h∈hsG s,ArOk (vOf s) (soG s) h.2 h.1)/\(∀i,i<(vOf s).length->0<=cu (nG s) i)/\
 ∀k,k<(hsG s).length->0<(trc (vOf s) (soG s) (trU (vOf s)) (pcK s k).1 (aX (hsG s) k) []).2.length->(trc (vOf s) (soG s) (trU (vOf s)) (pcK s k).1 (aX (hsG s) k) []).2.length<=1000/\0<(dH (trc (vOf s) (soG s) (trU (vOf s)) (pcK s k).1 (aX (hsG s) k) []).2).length
abbrev TrY:=List (Nat×Nat)×(Nat×Nat)×List aEo
structure TrOk(v:List aEo)(L:List (List Int))(S0:List (Nat×Nat))(h0:Nat×Nat)(y:TrY):Prop where
 le:S0.length<=y.1.length
 run:trc v L (trU v-(y.1.length-S0.length)) y.1 y.2.1 y.2.2=trc v L (trU v) S0 h0 []
 nd:y.1.Nodup
 rng:∀p∈y.1,p.1<v.length/\p.2<v.length
 at_:ArOk v L y.2.1.2 y.2.1.1
 len:y.2.2.length<=y.1.length
 pts:∀u∈y.2.2,bd 1000000000 u
def AG:∀(m:Nat) (l:List Nat),l.Nodup->(∀x∈l,x<m)->l.length<=m
 |0,l,_,h=>by
  cases l with
  |nil=>simp
  |cons x l=>exact absurd (h x cE) (by omega)
 |m+1,l,hn,h=>by
  have h1:=AG m (l.erase m) (hn.erase m) λx hx=>by grind
  grind
def Y6{n:Nat}{S:List (Nat×Nat)}(hn:S.Nodup)(h:∀p∈S,p.1<n/\p.2<n):S.length<=n*n:=by
 have dv:∀p:Nat×Nat,p.2<n->(p.2+p.1*n)/n=p.1/\(p.2+p.1*n) % n=p.2:=λp hp=>by rw[Nat.add_mul_div_right _ _ (by omega),Nat.add_mul_mod_self_right,Nat.div_eq_of_lt hp,dj hp];simp
 have h1:=AG (n*n) (S.map λp=>p.2+p.1*n) (by
  unfold oi;rw[ia];refine yV (λ{p q} hp hq hne e=>hne ?_) hn;grind) λx hx=>by
  obtain⟨p,hp,rfl⟩:=bM.1 hx;obtain⟨h2,h3⟩:=h p hp;have:(p.1+1)*n<=n*n:=Nat.mul_le_mul_right n h2;grind
 grind
def OS{v:List aEo}{L:List (List Int)}{f:Nat}{S:List (Nat×Nat)}{h:Nat×Nat}{r:List aEo}(hS:h∈S):trc v L f S h r=(S,r):=by
 cases f with
 |zero=>rfl
 |succ f=>exact if_pos hS
def Ms{v:List aEo}{L:List (List Int)}{f:Nat}{S:List (Nat×Nat)}{h:Nat×Nat}{r:List aEo}(hS:h∉S):trc v L (f+1) S h r=trc v L f (S++[h]) (nxH L h) (r++[aEn v h.1]):=if_neg hS
def TrOk.start{v:List aEo}{L:List (List Int)}{S0:List (Nat×Nat)}{h0:Nat×Nat}(h1:S0.Nodup)(h2:∀p∈S0,p.1<v.length/\p.2<v.length)(h3:ArOk v L h0.2 h0.1):TrOk v L S0 h0 (S0,h0,[]) where
 le:=bQ _
 run:=by grind
 nd:=h1
 rng:=h2
 at_:=h3
 len:=i5 _
 pts:=λu hu=>(cl hu).elim
def TrOk.lt{v:List aEo}{L:List (List Int)}{S0:List (Nat×Nat)}{h0:Nat×Nat}{y:TrY}(T:TrOk v L S0 h0 y):y.1.length<trU v:=by have:=Y6 T.nd T.rng;unfold trU;omega
def TrOk.step{v:List aEo}{L:List (List Int)}{S0:List (Nat×Nat)}{h0:Nat×Nat}{y:TrY}(T:TrOk v L S0 h0 y)(hsym:∀i j:Nat,(j:Int)∈ae L i->ArOk v L i j/\ArOk v L j i)(hL:L.length=v.length)(hb:∀u∈v,bd 1000000000 u)(hn:y.2.1∉y.1):
  TrOk v L S0 h0 (kJ y.1 y.2.1,nxH L y.2.1,y.2.2++[aEn v y.2.1.1]):=by
 obtain⟨S,h,r⟩:=y;have hlt:=T.lt;have hle:=T.le;have e:kJ S h=S++[h] :=if_neg hn;have hA:ArOk v L h.2 h.1:=T.at_;have h1:=(hsym _ _ (hA.around (-1)).1).2;have h2:h.1<v.length:=by have:=(hA.rng _ hA.mem).2;omega
 have h3:h.2<v.length:=by have:=hA.iL;omega
 dsimp only at hlt hle|-;rw[e];refine⟨by grind,?_,?_,?_,h1,?_,?_⟩
 .rw[<-T.run];dsimp only;rw[show trU v-(S.length-S0.length)=(trU v-((S++[h]).length-S0.length))+1 by grind];exact(Ms hn).symm
 .rw[nC];exact⟨T.nd,by simp,λa ha b hb e=>hn (by grind)⟩
 .intro p hp;rcases bq.1 hp with hp|hp
  .exact T.rng p hp
  grind
 .have:=T.len;grind
 .intro u hu;rcases bq.1 hu with hu|hu
  .exact T.pts u hu
  .rw[bh.1 hu];exact hb _ (dD h2)
def TrOk.stop{v:List aEo}{L:List (List Int)}{S0:List (Nat×Nat)}{h0:Nat×Nat}{y:TrY}(T:TrOk v L S0 h0 y)(hn:y.2.1∈y.1):trc v L (trU v) S0 h0 [] =(y.1,y.2.2):=by rw[<-T.run];exact OS hn
def tk(s:Shape)(k:Nat):pcK s (k+1)=((trc (vOf s) (soG s) (trU (vOf s)) (pcK s k).1 (aX (hsG s) k) []).1,if 0<(trc (vOf s) (soG s) (trU (vOf s)) (pcK s k).1 (aX (hsG s) k) []).2.length then(pcK s k).2++[co (dH (trc (vOf s) (soG s) (trU (vOf s)) (pcK s k).1 (aX (hsG s) k) []).2)]else(pcK s k).2):=rfl
def Y5{s:Shape}{k:Nat}{y:TrY}(T:TrOk (vOf s) (soG s) (pcK s k).1 (aX (hsG s) k) y)(hm:y.2.1∈y.1)(h:0<y.2.2.length):pcK s (k+1)=(y.1,(pcK s k).2++[co (dH y.2.2)]):=by rw[tk,T.stop hm];grind
def aAk{s:Shape}{k:Nat}{y:TrY}(T:TrOk (vOf s) (soG s) (pcK s k).1 (aX (hsG s) k) y)(hm:y.2.1∈y.1)(h:¬0<y.2.2.length):pcK s (k+1)=(y.1,(pcK s k).2):=by rw[tk,T.stop hm];grind
def FV(s:Shape):∀k,(pcK s k).2.length<=k
 |0=>bQ _
 |k+1=>by
  have:=FV s k;rw[tk];grind
def FU{s:Shape}(hp:nA s):∀k,k<=(hsG s).length->∀r∈(pcK s k).2,r.length<=1000
 |0,_,r,hr=>(cl hr).elim
 |k+1,hk,r,hr=>by
  have ih:=FU hp k (by omega);rw[tk]at hr;dsimp only at hr;split at hr
  .rename_i h;rcases bq.1 hr with hr|hr
   .exact ih r hr
   .rw[bh.1 hr,kl];have h1:=(hp.2.2.2 k (by omega) h).1;have h2:=AS (trc (vOf s) (soG s) (trU (vOf s)) (pcK s k).1 (aX (hsG s) k) []).2 (trc (vOf s) (soG s) (trU (vOf s)) (pcK s k).1 (aX (hsG s) k) []).2.length;unfold dH;omega
  grind
def Ng(s:Shape):(nxP s).length=(vOf s).length:=by unfold nxP;grind
def FD:∀l:List (Nat×Nat),(l.flatMap iU).length=2*l.length
 |[] =>rfl
 |p::l=>by rw[fX,fw,FD l,gY];show 2+_=_;omega
def N4(s:Shape):(hsG s).length=(vOf s).length+2*(spG s).length:=by unfold hsG;rw[fw,Ng,FD]
def pcS(s:Shape)(k:Nat):List (Nat×Nat):=(pcK s k).1
def pcR(s:Shape)(k:Nat):List aD:=(pcK s k).2
noncomputable def c48:Con:=con (a1 aSh) (λs=>[Fit s,(bJ s=true->GOk s/\SOk s/\nA s)]) (λs=> .tup [.lst .R (pcG s),.iqz (eV s)])
def k48:c48.Okz 48:=bH RJ (λs=>[lp 6 30 (vOf s).length bg [40] (λk=>[(6,.own 40 .P k)]) (λk=>[(40,.row 67 .P ((nxP s).take k))]) λk=>[jU 8 [(7,.iqz (k:Int)),(8,.iqz ((cu (nG s) k).toNat:Nat))]],
  lp 11 44 (spG s).length bg [40] (λk=>[(6,.own 40 .P ((vOf s).length+2*k))]) (λk=>[(40,.row 67 .P (nxP s++((spG s).take k).flatMap iU))]),
  lp 18 61 (hsG s).length (λk=>[(pcS s k).Nodup,∀p∈(pcS s k),p.1<(vOf s).length/\p.2<(vOf s).length]) [60] (λk=>[(12,.own 60 .R (pcR s k).length)]) (λk=>[(60,.row 23 .R (pcR s k)),(46,.mp (pcS s k))]) λk=>
  [(22,.mk TrY (λF L=>match F.at 16,L.at 46 with
  | .ptr b 0,some (.mp ks)=>(match L.at b with
  |some (.box _ [.int _ i,.int _ j])=>some (ks,(i.toNat,j.toNat),match F.at 15 with| .own t _ _=>(match L.at t with|some (.row _ .V r)=>r|_=>[])|_=>[])
  |_=>none)
  |_,_=>none) [68,70] (λy=>[TrOk (vOf s) (soG s) (pcS s k) (aX (hsG s) k) y]) (λy=>[(15,.own 70 .V y.2.2.length),(16,.ptr 68 0),(12,.own 60 .R (pcR s k).length)])
  (λy=>[(68,.box 67 [.iqz (y.2.1.1:Nat),.iqz (y.2.1.2:Nat)]),(70,.row 44 .V y.2.2),(46,.mp y.1)]) (λy=>trU (vOf s)-y.1.length) λ_=>[])]]
  ) (λ_=>⟨_,rfl⟩) λs hp=>bC (aA (nG s) λA=>aA (vOf s) λB=>aA (spG s) λC=>aA (soG s) λD=>aA (hsG s) λE=>aA (nxP s) λF=>aA (0:Nat) λI=>aA (0:Int) λJ=>aA (!bJ s) λY=>aA ([] :List aEo) λb=>aA ([] :List (List aEo)) λi=>aA ([] :List (Prod Nat Nat)) λj=>Fit s/\(Y=true->pcG s=i/\11=eV s)/\
 (Y=false->Fit s/\bJ s=true/\GOk s/\SOk s/\(0=J/\I=0/\aW 0 F=j/\I<=B.length)/\
  (∀x:Nat,aA (x:Int) λH=>aA (x,(cu A x).toNat) λT=>aA (aW x F) λW=>x<=B.length->(H<B.length->(ix H B.length/\x<A.length/\H=x/\cu A x=(cu A x).toNat)/\
    (∀y:Unit,x=W.length/\W.length+[T].length<=1000000/\aH (H+1)/\H+1=((x+1:Nat):Int)/\(aW x F++[T]).length=x+1/\aW x F++[T] =aW (x+1) F/\x+1<=B.length/\B.length-(x+1)<B.length-x))/\
   (¬H<B.length->(0=J/\x=B.length+2*0/\aW x F=nxP s++kQ iU (aW 0 C)/\I<=C.length)/\
    (∀x_1:Nat,aA (x_1+1) λK=>aA (x_1:Int) λO=>aA (aX C x_1) λQ=>aA (Q.1,Q.2) λR=>aA (Q.2,Q.1) λS=>aA (aW x_1 C) λa=>aA (B.length+2*x_1:Nat) λk=>aA (nxP s++kQ iU a) λl=>x_1<=C.length->(O<C.length->ix O C.length/\x_1<C.length/\ix 1 2/\ix 0 2/\B.length+2*x_1=l.length/\l.length+[R,S].length<=1000000/\aH (O+1)/\O+1=((x_1+1:Nat):Int)/\(nxP s++kQ iU a++[R,S]).length=B.length+2*K/\nxP s++kQ iU a++[R,S] =nxP s++kQ iU (aW K C)/\x_1+1<=C.length/\C.length-K<C.length-x_1)/\
     (¬O<C.length->(0=J/\(pcR s 0).length=0/\pcR s 0=i/\j=pcS s 0/\I<=E.length/\oi (pcS s 0)/\(∀p:Prod Nat Nat,p∈pcS s 0->p.1<B.length/\p.2<B.length))/\
      (∀x_2:Nat,aA (x_2+1) λG=>aA (pcR s x_2) λM=>aA (x_2:Int) λN=>aA (pcS s x_2) λP=>aA (aX E x_2) λU=>aA (x_2+1:Nat) λX=>aA (pcR s G).length λZ=>aA (pcR s x_2,true) λd=>aA (aX l x_2) λm=>x_2<=E.length/\oi P/\(∀p:Prod Nat Nat,p∈pcS s x_2->p.1<B.length/\p.2<B.length)->(N<(k:Int)->ix N (B.length+2*x_1)/\x_2<l.length/\(b.length=0/\M.length=M.length/\(m.1:Int)=m.1/\(m.2:Int)=m.2/\b=b/\pcS s x_2=pcS s x_2/\TrOk B D P U (pcS s x_2,((m.1,m.2),b)))/\
        (∀x_3:TrY,aA (dH x_3.2.2) λV=>aA (x_3.2.1.1:Int) λc=>aA (aEn B x_3.2.1.1) λe=>aA (x_3.2.2++[e]) λf=>aA (x_3.2.1.1,x_3.2.1.2) λg=>aA (x_3.2.2.length:Int) λh=>TrOk B D P U x_3->oi x_3.1/\(g∈x_3.1->(0<h->x_3.2.2.length=x_3.2.2.length/\x_3.2.2.length<=1000/\(∀u:aEo,u∈x_3.2.2->bd 1000000000 u)/\I<V.length/\M.length=M.length/\M.length+[co V].length<=1000000/\aH (N+1)/\N+1=(X:Int)/\(pcR s x_2++[co V]).length=Z/\pcR s x_2++[co V] =pcR s G/\x_3.1=pcS s G/\x_2+1<=E.length/\oi (pcS s G)/\(∀p:Prod Nat Nat,p∈pcS s G->p.1<B.length/\p.2<B.length)/\E.length-G<E.length-x_2)/\
          (¬0<h->aH (N+1)/\N+1=(X:Int)/\M.length=Z/\pcR s x_2=pcR s G/\x_3.1=pcS s G/\x_2+1<=E.length/\oi (pcS s G)/\(∀p:Prod Nat Nat,p∈pcS s G->p.1<B.length/\p.2<B.length)/\E.length-G<E.length-x_2))/\
         (¬g∈x_3.1->oi x_3.1/\ix 0 2/\ix c B.length/\x_3.2.2.length=x_3.2.2.length/\x_3.2.2.length+[e].length<=1000000/\ix 1 2/\ix 1 2/\ix 0 2/\B.length=D.length/\B.length=A.length/\B.length<=1000000/\D.length<=1000000/\x_3.2.1.2<D.length/\c∈ae D x_3.2.1.2/\(ae D x_3.2.1.2).length<=1000000/\(∀x_4:Int,x_4∈ae D x_3.2.1.2->0<=x_4)/\((-1:Int)=1\/(-1:Int)= -1)/\f.length=f.length/\M.length=M.length/\(x_3.2.1.2:Int)=x_3.2.1.2/\(iB D x_3.2.1.2 x_3.2.1.1 (-1):Int)=iB D x_3.2.1.2 x_3.2.1.1 (-1)/\x_3.2.2++[e] =x_3.2.2++[e]/\kJ x_3.1 g=kJ x_3.1 g/\TrOk B D P U (kJ x_3.1 g,((x_3.2.1.2,iB D x_3.2.1.2 x_3.2.1.1 (-1)),x_3.2.2++[e]))/\trU B-(kJ x_3.1 g).length<trU B-x_3.1.length)))/\
       (¬N<(k:Int)->M.length=M.length/\M.length<=1000000/\(∀r:aD,r∈pcR s x_2->r.length<=1000)/\M.length=(r68 d).length/\r68 d=pcG s/\0=eV s)))))))) (by kernel_rfl) (by
  change Fit s/\((bJ s=true->GOk s/\SOk s/\nA s))at hp;obtain⟨hf,hv⟩:=hp;have n80:(vOf s).length<=80:=pP s;have hT:(!bJ s)=false->bJ s=true:=λh=>nb h;have hg:(!bJ s)=false->GOk s:=λh=>(hv (nb h)).1;have hs:(!bJ s)=false->SOk s:=λh=>(hv (nb h)).2.1;have hP:(!bJ s)=false->nA s:=λh=>(hv (nb h)).2.2;have sd0:(!bJ s)=true->pcG s=[] :=λh=>by unfold pcG;grind
  have ev0:(!bJ s)=true->11=eV s:=λh=>by unfold eV;grind
  have ev1:(!bJ s)=false->0=eV s:=λh=>by unfold eV;grind
  have sl:(!bJ s)=false->(spG s).length<=6400:=λh=>by have h1:(spG s).length<=(pG s).length:=Az _ _ _ _;have h2:=(uY (nb h)).1;rw[qj]at h1;omega
  have hl:=N4 s;have nl:(nG s).length=(vOf s).length:=GJ s _;have gl:(soG s).length=(vOf s).length:=uR s _;have xl:=Ng s;have vb:∀u∈vOf s,bd 1000000000 u:=λu hu=>by obtain⟨i,hi,rfl⟩:=fO.1 hu;exact Ax hi (by decide)
  have a1:∀x:Nat,(x:Int)<(vOf s).length->x<(nG s).length:=λx h=>by omega
  have a2:(!bJ s)=false->∀x:Nat,(x:Int)<(vOf s).length->cu (nG s) x=(cu (nG s) x).toNat:=λh x hx=>(IP ((hP h).2.2.1 x (by omega))).symm;have a3:∀x:Nat,x<=(vOf s).length->(aW x (nxP s)).length=x:=λx h=>by grind
  have a4:∀x:Nat,(x:Int)<(vOf s).length->aW x (nxP s)++[(x,(cu (nG s) x).toNat)] =aW (x+1) (nxP s):=λx h=>by rw[kR (show x<(nxP s).length by omega)];unfold nxP;grind
  have a5:∀x:Nat,∀z:Nat×Nat,(x:Int)<(vOf s).length->(aW x (nxP s)).length+[z].length<=1000000:=λx z h=>by grind
  have a6:∀x:Nat,∀z:Nat×Nat,(x:Int)<(vOf s).length->(aW x (nxP s)++[z]).length=x+1:=λx z h=>by grind
  have a7:∀x:Nat,(x:Int)<(vOf s).length->aH ((x:Int)+1):=λx h=>bT (by omega);have b0:∀x:Nat,¬(x:Int)<(vOf s).length->x<=(vOf s).length->x=(vOf s).length+2*0:=λx h h2=>by omega
  have b1:∀x:Nat,¬(x:Int)<(vOf s).length->aW x (nxP s)=nxP s++kQ iU (aW 0 (spG s)):=λx h=>by rw[gu (by omega)];simp
  have b2:∀x:Nat,x<=(spG s).length->(nxP s++kQ iU (aW x (spG s))).length=(vOf s).length+2*x:=λx h=>by rw[fw,xl,FD,kP];omega
  have b3:(!bJ s)=false->∀x:Nat,∀z u:Nat×Nat,x<=(spG s).length->(nxP s++kQ iU (aW x (spG s))).length+[z,u].length<=1000000:=λh x z u hx=>by grind
  have b4:(!bJ s)=false->∀x:Nat,(x:Int)<(spG s).length->aH ((x:Int)+1):=λh x hx=>bT (by grind);have b5:∀x:Nat,∀z u:Nat×Nat,x<=(spG s).length->(nxP s++kQ iU (aW x (spG s))++[z,u]).length=(vOf s).length+2*(x+1):=λx z u hx=>by rw[fw,b2 x hx];grind
  have b6:∀x:Nat,(x:Int)<(spG s).length->nxP s++kQ iU (aW x (spG s))++[((aX (spG s) x).1,(aX (spG s) x).2),((aX (spG s) x).2,(aX (spG s) x).1)] =nxP s++kQ iU (aW (x+1) (spG s)):=λx h=>by rw[kR (show x<(spG s).length by omega),vP,<-kO,mZ (by omega)];rfl
  have hH:∀x:Nat,¬(x:Int)<(spG s).length->nxP s++kQ iU (aW x (spG s))=hsG s:=λx h=>by rw[gu (by omega)];rfl
  have c1:∀x y:Nat,¬(x:Int)<(spG s).length->x<=(spG s).length->(y:Int)<(((vOf s).length+2*x:Nat):Int)->y<(hsG s).length:=λx y h h2 h3=>by omega
  have c2:∀x y:Nat,x<=(spG s).length->(y:Int)<(((vOf s).length+2*x:Nat):Int)->y<(nxP s++kQ iU (aW x (spG s))).length:=λx y h2 h3=>by grind
  have c3:(!bJ s)=false->∀x y:Nat,¬(x:Int)<(spG s).length->x<=(spG s).length->(y:Int)<(((vOf s).length+2*x:Nat):Int)->oi (pcS s y)->(∀p:Nat×Nat,p∈(pcS s y)->p.1<(vOf s).length/\p.2<(vOf s).length)->TrOk (vOf s) (soG s) (pcS s y) (aX (hsG s) y) ((pcS s y),(((aX (nxP s++kQ iU (aW x (spG s))) y).1,(aX (nxP s++kQ iU (aW x (spG s))) y).2),([] :List aEo))):=λh x y h1 h2 h3 h4 h5=>by rw[hH x h1];refine TrOk.start h4 h5 ((hP h).2.1 _ ?_);have:=c1 x y h1 h2 h3;rw[mZ this];grind
  have d1:(!bJ s)=false->∀x y:Nat,¬(x:Int)<(spG s).length->x<=(spG s).length->(y:Int)<(((vOf s).length+2*x:Nat):Int)->∀z:TrY,TrOk (vOf s) (soG s) (pcS s y) (aX (hsG s) y) z->z.2.1∈z.1->0<(z.2.2.length:Int)->z.2.2.length<=1000/\0<(dH z.2.2).length:=λh x y h1 h2 h3 z T hm hz=>by have e:=T.stop hm;unfold pcS at e;have:=(hP h).2.2.2 y (c1 x y h1 h2 h3);grind
  have d2:(!bJ s)=false->∀y:Nat,y<=(hsG s).length->(pcR s y).length<=20000:=λh y hy=>by have h1:(pcR s y).length<=y:=FV s y;grind
  have d3:(!bJ s)=false->∀y:Nat,y<=(hsG s).length->∀q:aD,(pcR s y).length+[q].length<=1000000:=λh y hy q=>by have:=d2 h y hy;simp only[vI];omega
  have d4:(!bJ s)=false->∀y:Nat,y<=(hsG s).length->aH ((y:Int)+1):=λh y hy=>bT (by have:=sl h;omega);have t1:∀(y:Nat) (z:TrY),TrOk (vOf s) (soG s) (pcS s y) (aX (hsG s) y) z->z.2.1∈z.1->0<(z.2.2.length:Int)->(pcR s y)++[co (dH z.2.2)] =pcR s (y+1):=λy z T hm hz=>(congrArg Prod.snd (Y5 T hm (by omega))).symm;have t2:∀(y:Nat) (z:TrY),TrOk (vOf s) (soG s) (pcS s y) (aX (hsG s) y) z->z.2.1∈z.1->¬0<(z.2.2.length:Int)->pcR s y=pcR s (y+1):=λy z T hm hz=>(congrArg Prod.snd (aAk T hm (by omega))).symm;have t3:∀(y:Nat) (z:TrY),TrOk (vOf s) (soG s) (pcS s y) (aX (hsG s) y) z->z.2.1∈z.1->z.1=(pcS s (y+1)):=λy z T hm=>by unfold pcS at*;rw[tk,T.stop hm]
  have t4:∀(y:Nat) (z:TrY),TrOk (vOf s) (soG s) (pcS s y) (aX (hsG s) y) z->z.2.1∈z.1->(pcS s (y+1)).Nodup:=λy z T hm=>by rw[<-t3 y z T hm];exact T.nd
  have t5:∀(y:Nat) (z:TrY),TrOk (vOf s) (soG s) (pcS s y) (aX (hsG s) y) z->z.2.1∈z.1->∀p:Nat×Nat,p∈(pcS s (y+1))->p.1<(vOf s).length/\p.2<(vOf s).length:=λy z T hm=>by rw[<-t3 y z T hm];exact T.rng
  have r0:∀(y:Nat) (z:TrY),TrOk (vOf s) (soG s) (pcS s y) (aX (hsG s) y) z->ArOk (vOf s) (soG s) z.2.1.2 z.2.1.1:=λy z T=>T.at_;have r1:∀(y:Nat) (z:TrY),TrOk (vOf s) (soG s) (pcS s y) (aX (hsG s) y) z->z.2.1.1<(vOf s).length:=λy z T=>by have:=(T.at_.rng _ T.at_.mem).2;omega
  have r2:∀(y:Nat) (z:TrY),TrOk (vOf s) (soG s) (pcS s y) (aX (hsG s) y) z->ix (z.2.1.1:Int) (vOf s).length:=λy z T=>dr (r1 y z T);have r3:∀(y:Nat) (z:TrY),TrOk (vOf s) (soG s) (pcS s y) (aX (hsG s) y) z->∀q:aEo,z.2.2.length+[q].length<=1000000:=λy z T q=>by have h1:=T.lt;have h2:=T.len;unfold trU at h1;have:(vOf s).length*(vOf s).length<=80*80:=vV n80 n80;simp only[vI];omega
  have r4:∀(y:Nat) (z:TrY),TrOk (vOf s) (soG s) (pcS s y) (aX (hsG s) y) z->∀x∈ae (soG s) z.2.1.2,0<=x:=λy z T x hx=>(T.at_.rng x hx).1;have r5:(!bJ s)=false->∀(y:Nat) (z:TrY),TrOk (vOf s) (soG s) (pcS s y) (aX (hsG s) y) z->z.2.1∉z.1->TrOk (vOf s) (soG s) (pcS s y) (aX (hsG s) y) (kJ z.1 z.2.1,nxH (soG s) z.2.1,z.2.2++[aEn (vOf s) z.2.1.1]):=λh y z T hm=>T.step (hP h).1 gl vb hm;have r6:∀(y:Nat) (z:TrY),TrOk (vOf s) (soG s) (pcS s y) (aX (hsG s) y) z->z.2.1∉z.1->trU (vOf s)-(kJ z.1 z.2.1).length<trU (vOf s)-z.1.length:=λy z T hm=>by have:=T.lt;rw[show kJ z.1 z.2.1=z.1++[z.2.1]from if_neg hm,fw];simp;omega
  have e1:(!bJ s)=false->∀x y:Nat,¬(x:Int)<(spG s).length->x<=(spG s).length->¬(y:Int)<(((vOf s).length+2*x:Nat):Int)->y<=(hsG s).length->r68 ((pcR s y),true)=pcG s:=λh x y h1 h2 h3 h4=>by rw[show y=(hsG s).length by omega];unfold pcG;rw[nb h,if_pos rfl];rfl
  have e2:∀l:List aD,l.length=(r68 (l,true)).length:=λl=>(wO l).length_eq.symm;have e3:(!bJ s)=false->∀y:Nat,y<=(hsG s).length->∀r∈(pcR s y),r.length<=1000:=λh y hy=>FU (hP h) y hy;have e4:(!bJ s)=false->∀y:Nat,y<=(hsG s).length->(pcR s y).length<=1000000:=λh y hy=>by grind
  have e5:(pcS s 0).Nodup:=List.nodup_nil;have hT2:(!bJ s)=false->bJ s=true:=hT;clear hv hT hP
  repeat' first|with_reducible apply cF|with_reducible intro
  all_goals repeat with_reducible cases‹_/\_›
  all_goals first|with_reducible assumption|with_reducible rfl|with_reducible exact sd0 ‹_› |with_reducible exact ev0 ‹_› |with_reducible exact ev1 ‹_› |with_reducible exact hT2 ‹_› |with_reducible exact hg ‹_› |with_reducible exact hs ‹_› |with_reducible exact a1 _ ‹_› |with_reducible exact a2 ‹_› _ ‹_› |with_reducible exact(a3 _ ‹_›).symm|with_reducible exact a4 _ ‹_› |with_reducible exact a5 _ _ ‹_› |with_reducible exact a6 _ _ ‹_› |with_reducible exact a7 _ ‹_› |with_reducible exact b0 _ ‹_› ‹_› |with_reducible exact b1 _ ‹_› |with_reducible exact(b2 _ ‹_›).symm|with_reducible exact b3 ‹_› _ _ _ ‹_› |with_reducible exact b4 ‹_› _ ‹_› |with_reducible exact b5 _ _ _ ‹_› |with_reducible exact b6 _ ‹_› |with_reducible exact c2 _ _ ‹_› ‹_› |exact c3 ‹_› _ _ ‹_› ‹_› ‹_› ‹_› ‹_› |exact(d1 ‹_› _ _ ‹_› ‹_› ‹_› _ ‹_› ‹_› ‹_›).1|exact(d1 ‹_› _ _ ‹_› ‹_› ‹_› _ ‹_› ‹_› ‹_›).2|with_reducible exact d3 ‹_› _ ‹_› _|with_reducible exact d4 ‹_› _ ‹_› |with_reducible exact(TrOk.nd ‹_›)|with_reducible exact(TrOk.pts ‹_› _ ‹_›)|exact t1 _ _ ‹_› ‹_› ‹_› |exact congrArg fW (t1 _ _ ‹_› ‹_› ‹_›)|exact t2 _ _ ‹_› ‹_› ‹_› |exact congrArg fW (t2 _ _ ‹_› ‹_› ‹_›)|exact t3 _ _ ‹_› ‹_› |exact t4 _ _ ‹_› ‹_› |exact(t5 _ _ ‹_› ‹_› _ ‹_›).1|exact(t5 _ _ ‹_› ‹_› _ ‹_›).2|with_reducible exact r2 _ _ ‹_› |with_reducible exact r3 _ _ ‹_› _|with_reducible exact(r0 _ _ ‹_›).iL|with_reducible exact(r0 _ _ ‹_›).mem|with_reducible exact(r0 _ _ ‹_›).len|with_reducible exact r4 _ _ ‹_› _ ‹_› |exact r5 ‹_› _ _ ‹_› ‹_› |exact r6 _ _ ‹_› ‹_› |with_reducible exact e1 ‹_› _ _ ‹_› ‹_› ‹_› ‹_› |with_reducible exact e2 _|with_reducible exact e3 ‹_› _ ‹_› _ ‹_› |with_reducible exact e4 ‹_› _ ‹_› |omega|(unfold ix;omega)|(unfold aH;omega)|exact .inr rfl|exact e5|exact(cl ‹_›).elim|exact rfl)
noncomputable def t48:=RJ.adk k48
abbrev Q4:=Int×Int×Int×Int
def kY(q:Q4)(p:Int×Int):Q4:=
 if p.1<0 then(if q.1*(p.2-p.1)< -p.1*q.2.1 then(-p.1,p.2-p.1,q.2.2)else q)
 else if p.2<0 then(if p.1*q.2.2.2<q.2.2.1*(p.1-p.2)then(q.1,q.2.1,p.1,p.1-p.2)else q)else q
def mD(p:Int×Int):Bool:=decide (p.1<=0)&&decide (p.2<=0)
def rS:∀(l:List (Int×Int)) (q:Q4),jp l q.1 q.2.1 q.2.2.1 q.2.2.2=(!(l.any mD)&&decide ((l.foldl kY q).1*(l.foldl kY q).2.2.2<(l.foldl kY q).2.2.1*(l.foldl kY q).2.1))
 |[],q=>by simp[jp] <;>congr
 |(a,b)::l,(ln,ld,hn,hd)=>by
  unfold jp;rw[List.any_cons,vH];by_cases h1:a<=0/\b<=0
  .have:mD (a,b)=true:=by unfold mD;simp[h1.1,h1.2]
   grind
  .have h2:mD (a,b)=false:=by unfold mD;rw[Bool.and_eq_false_iff,decide_eq_false_iff_not,decide_eq_false_iff_not];omega
   rw[if_neg h1,h2,Bool.false_or];unfold kY;dsimp only;by_cases h3:a<0
   .rw[if_pos h3,if_pos h3];by_cases h4:ln*(b-a)< -a*ld
    .rw[if_pos h4,if_pos h4];exact rS l (-a,b-a,hn,hd)
    .rw[if_neg h4,if_neg h4];exact rS l (ln,ld,hn,hd)
   .rw[if_neg h3,if_neg h3];by_cases h5:b<0
    .rw[if_pos h5,if_pos h5];by_cases h4:a*hd<hn*(a-b)
     .rw[if_pos h4,if_pos h4];exact rS l (ln,ld,a,a-b)
     .rw[if_neg h4,if_neg h4];exact rS l (ln,ld,hn,hd)
    .rw[if_neg h5,if_neg h5];exact rS l (ln,ld,hn,hd)
def mq(s e:S):Int×Int:=(cross (aEq e.b e.a) (aEq s.a e.a),cross (aEq e.b e.a) (aEq s.b e.a))
def pS(s:S)(r:aD):List (Int×Int):=(aEw r).map (mq s)
def stE(s:S)(r:aD)(k:Nat):Q4:=((pS s r).take k).foldl kY (0,1,1,1)
def lnE(s:S)(r:aD)(k:Nat):Int:=(stE s r k).1
def ldE(s:S)(r:aD)(k:Nat):Int:=(stE s r k).2.1
def hnE(s:S)(r:aD)(k:Nat):Int:=(stE s r k).2.2.1
def hdE(s:S)(r:aD)(k:Nat):Int:=(stE s r k).2.2.2
def ibd(m x:Int):Prop:= -m<=x/\x<=m
def j5(s:S)(r:aD)(k:Nat):Prop:=((pS s r).take k).any mD=false/\ibd 1600000000 (lnE s r k)/\ibd 1600000000 (ldE s r k)/\ibd 1600000000 (hnE s r k)/\ibd 1600000000 (hdE s r k)
def V6(s:S)(r:aD):j5 s r 0:=by unfold j5 lnE ldE hnE hdE stE ibd;simp
def KN{s:S}{r:aD}{k:Nat}(hk:k<(aEw r).length):(pS s r)[k]? =some (mq s (aEw r)[k]):=by unfold pS;grind
def LO{s:S}{r:aD}{k:Nat}(hk:k<(aEw r).length):stE s r (k+1)=kY (stE s r k) (mq s (aEw r)[k]):=by unfold stE;rw[rL,KN hk,Cm];rfl
def V7{s:S}{r:aD}{k:Nat}(hk:k<(aEw r).length)(h:j5 s r k)(ho:mD (mq s (aEw r)[k])=false)
  (ha:ibd 800000000 (mq s (aEw r)[k]).1) (hb:ibd 800000000 (mq s (aEw r)[k]).2):j5 s r (k+1):=by
 obtain⟨h1,h2,h3,h4,h5⟩:=h;unfold j5;refine⟨?_,?_⟩
 .rw[rL,KN hk,List.any_append,h1];simp[ho]
 .unfold lnE ldE hnE hdE at*;rw[LO hk];generalize mq s (aEw r)[k] =p at ha hb|-;generalize stE s r k=q at h2 h3 h4 h5|-;obtain⟨a,b⟩:=p;obtain⟨ln,ld,hn,hd⟩:=q;unfold ibd at*;dsimp only at*;unfold kY;grind
def Uv{s:S}{r:aD}{k:Nat}(hk:k<(aEw r).length)(ho:mD (mq s (aEw r)[k])=true):dA s r=false:=by have h:=rS (pS s r) (0,1,1,1);have hm:(pS s r).any mD=true:=lO.2 ⟨_,bM.2 ⟨_,mN hk,rfl⟩,ho⟩;rw[hm]at h;exact h
def Uw{s:S}{r:aD}(h:j5 s r (aEw r).length):dA s r=decide (lnE s r (aEw r).length*hdE s r (aEw r).length<hnE s r (aEw r).length*ldE s r (aEw r).length):=by
 have hl:(pS s r).length=(aEw r).length:=by unfold pS;rw[cL]
 have h1:=h.1;have e:=rS (pS s r) (0,1,1,1);unfold lnE ldE hnE hdE stE;rw[<-hl,vl]at h1|-;rw[h1]at e;exact e
structure TriOk(r:aD):Prop where
 three:3<=r.length
 len:r.length<=1000
 near:∀v∈r,ag v 10000=true
 aJ:∀e∈aEw r,ag e.a 10000=true/\ag e.b 10000=true
def Ws{r:aD}(h:VR r){e:S}(he:e∈aEw r):ag e.a 10000=true/\ag e.b 10000=true:=by have h3:=h.three;unfold aEw at he;rw[if_neg (by omega)]at he;obtain⟨i,hi,rfl⟩:=bM.1 he;have hi:=bz.1 hi;exact⟨ig (tu h.near i hi) (by omega),ig (tu h.near _ (bk _ (by omega))) (by omega)⟩
def Zy{r:aD}(h:VR r){v:V}(hv:v∈r):ag v 10000=true:=by have h1:=h.near;unfold Geo.near at h1;rw[bZ]at h1;exact ig (h1 v hv) (by omega)
noncomputable def tC:=t48
structure ROk(r:aD):Prop where
 three:3<=r.length
 len:r.length<=1000
 near:∀v∈r,bd 10000 v
def eG(s:S)(r:aD)(k:Nat):Int×Int:=mq s (bL r k)
def gA(s:S)(r:aD)(k:Nat):Int:=(eG s r k).1
def gB(s:S)(r:aD)(k:Nat):Int:=(eG s r k).2
def gO(s:S)(r:aD)(k:Nat):Bool:=mD (eG s r k)
def Kr{r:aD}(h:3<=r.length):(aJ r).length=r.length:=by unfold aJ;grind
def AN{r:aD}(h:3<=r.length){k:Nat}(hk:k<(aJ r).length):(aJ r)[k] =bL r k:=by
 have:∀(l:List S) (hl:l=(bP r.length).map (bL r)) (hk:k<l.length),l[k] =bL r k:=λl hl hk=>by grind
 exact this _ (by unfold aJ;grind) hk
noncomputable def aDB:Con:=con (ac aS (a1 (aL .V))) (λ(s,r)=>[bd 10000 s.a,bd 10000 s.b,ROk r]) (λ(s,r)=> .bool (dA s r))
def aCc:aDB.Okz 167:=bH tC (λ(s,r)=>[(3,.mk Nat (λF _=>ms F 16) [] (λk=>[k<=r.length,j5 s r k]) (λk=>[(16,.iqz (k:Int)),(5,.iqz (lnE s r k)),(6,.iqz (ldE s r k)),(7,.iqz (hnE s r k)),(8,.iqz (hdE s r k))]) bg (λk=>r.length-k) λk=>
  [jU 7 [(12,.iqz (gA s r k)),(13,.iqz (gB s r k))],jb 8 43 (gO s r k),jPU 15 [gO s r k=false] [(5,.iqz (lnE s r (k+1))),(6,.iqz (ldE s r (k+1))),(7,.iqz (hnE s r (k+1))),(8,.iqz (hdE s r (k+1)))]])]
  ) (λ(_,_)=>⟨_,rfl⟩) λ(s,r) hp=>bC ((0=(0:Int)/\0=lnE s r 0/\1=ldE s r 0/\1=hnE s r 0/\1=hdE s r 0/\(0:Nat)<=r.length/\j5 s r 0)/\
 (∀x:Nat,aA (x+1) λA=>aA (x:Int) λB=>aA (aEn r x) λC=>aA (aEn r (A % r.length)) λE=>aA (aEq E C) λF=>aA (0-gA s r x) λG=>aA (aEq s.a C) λH=>aA (aEq s.b C) λI=>aA (gB s r x-gA s r x) λJ=>aA (gA s r x-gB s r x) λK=>x<=r.length/\j5 s r x->(B<r.length->(ix B r.length/\aH (B+1)/\(r.length:Int)≠0/\ix ((A % r.length:Nat):Int) r.length/\bd 1000000000 E/\bd 1000000000 C/\(bd 1000000000 s.a/\bd 1000000000 C/\cOK F H/\bd 1000000000 s.b/\bd 1000000000 C/\cOK F I/\cross F H=gA s r x/\cross F I=gB s r x)/\
    (∀y:Unit,((gA s r x<=0->decide (gB s r x<=0)=gO s r x)/\
      (¬gA s r x<=0->false=gO s r x))/\
     (∀y_1:Unit,(gO s r x=true->false=dA s r)/\
      (gO s r x=false->(gA s r x<0->aH G/\aH (G*ldE s r x)/\aH J/\aH (lnE s r x*J)/\(lnE s r x*J<G*ldE s r x->aH G/\aH J/\0-gA s r x=lnE s r A/\gB s r x-gA s r x=ldE s r A/\hnE s r x=hnE s r A/\hdE s r x=hdE s r A/\gO s r x=false)/\
        (¬lnE s r x*J<G*ldE s r x->lnE s r x=lnE s r A/\ldE s r x=ldE s r A/\hnE s r x=hnE s r A/\hdE s r x=hdE s r A/\gO s r x=false))/\
       (¬gA s r x<0->(gB s r x<0->aH (gA s r x*hdE s r x)/\aH K/\aH (hnE s r x*K)/\(gA s r x*hdE s r x<hnE s r x*K->aH K/\lnE s r x=lnE s r A/\ldE s r x=ldE s r A/\gA s r x=hnE s r A/\gA s r x-gB s r x=hdE s r A/\gO s r x=false)/\
         (¬gA s r x*hdE s r x<hnE s r x*K->lnE s r x=lnE s r A/\ldE s r x=ldE s r A/\hnE s r x=hnE s r A/\hdE s r x=hdE s r A/\gO s r x=false))/\
        (¬gB s r x<0->lnE s r x=lnE s r A/\ldE s r x=ldE s r A/\hnE s r x=hnE s r A/\hdE s r x=hdE s r A/\gO s r x=false))))))/\
   (∀y:Unit,gO s r x=false->aH (B+1)/\B+1=((x+1:Nat):Int)/\lnE s r A=lnE s r A/\ldE s r A=ldE s r A/\hnE s r A=hnE s r A/\hdE s r A=hdE s r A/\x+1<=r.length/\j5 s r A/\r.length-A<r.length-x))/\
  (¬B<r.length->aH (lnE s r x*hdE s r x)/\aH (hnE s r x*ldE s r x)/\decide (lnE s r x*hdE s r x<hnE s r x*ldE s r x)=dA s r))) (by kernel_rfl) (by
  change bd 10000 s.a/\bd 10000 s.b/\ROk r at hp;obtain⟨ha,hb,h3⟩:=hp;have l3:=h3.three;have hl:=h3.len;have hN:∀i:Nat,i<r.length->bd 10000 (aEn r i):=λi h=>h3.near _ (dD h);have el:(aJ r).length=r.length:=Kr l3;have md:∀i:Nat,(i:Int)<r.length->(i+1) % r.length<r.length:=λi h=>bk _ (by omega);have ha9:bd 1000000000 s.a:=ha.mono;have hb9:bd 1000000000 s.b:=hb.mono;have e9a:∀i:Nat,(i:Int)<r.length->bd 1000000000 (aEn r i):=λi h=>(hN i (by omega)).mono;have e9b:∀i:Nat,(i:Int)<r.length->bd 1000000000 (aEn r ((i+1) % r.length)):=λi h=>(hN _ (md i h)).mono;have x1:∀i:Nat,(i:Int)<r.length->ix (((i+1) % r.length:Nat):Int) r.length:=λi h=>dr (md i h);have cA:∀(v:V) (i:Nat),bd 10000 v->(i:Int)<r.length->cOK (aEq (aEn r ((i+1) % r.length)) (aEn r i)) (aEq v (aEn r i)):=λv i hv h=>by have:=mU (iS (hN _ (md i h)) (hN i (by omega))) (iS hv (hN i (by omega)));unfold cOK;omega
  have bA:∀i:Nat,(i:Int)<r.length->ibd 800000000 (gA s r i)/\ibd 800000000 (gB s r i):=λi h=>by have h0:bd 10000 (nxt r i):=hN _ (md i h);have h1:=mU (iS h0 (hN i (by omega))) (iS ha (hN i (by omega)));have h2:=mU (iS h0 (hN i (by omega))) (iS hb (hN i (by omega)));unfold gA gB eG mq ibd bL;dsimp only;unfold cross;omega
  have sN:∀i:Nat,(i:Int)<r.length->stE s r (i+1)=kY (stE s r i) (eG s r i):=λi h=>by rw[LO (show i<(aJ r).length by omega),AN l3];rfl
  have iN:∀i:Nat,(i:Int)<r.length->j5 s r i->gO s r i=false->j5 s r (i+1):=λi h h1 h2=>by
   have hb:=bA i h;have hk:i<(aJ r).length:=by omega
   have e:eG s r i=mq s (aJ r)[i] :=by rw[AN l3];rfl
   refine V7 hk h1 ?_ ?_ ?_
   .rw[<-e];exact h2
   .rw[<-e];exact hb.1
   .rw[<-e];exact hb.2
  have oY:∀i:Nat,(i:Int)<r.length->gO s r i=true->false=dA s r:=λi h h2=>by symm;refine Uv (k:=i) (show i<(aJ r).length by omega) ?_;rw[AN l3];exact h2
  have oE:∀i:Nat,¬(i:Int)<r.length->i<=r.length->j5 s r i->decide (lnE s r i*hdE s r i<hnE s r i*ldE s r i)=dA s r:=λi h h2 h3=>by
   obtain rfl:i=r.length:=by omega
   rw[<-el]at h3|-;rw[Uw h3]
  have o1:∀i:Nat,gA s r i<=0->decide (gB s r i<=0)=gO s r i:=λi h=>by unfold gO mD;rw[decide_eq_true (show(eG s r i).1<=0 from h)];rfl
  have o2:∀i:Nat,¬gA s r i<=0->false=gO s r i:=λi h=>by unfold gO mD;rw[decide_eq_false (show¬(eG s r i).1<=0 from h)];rfl
  have nN:∀x:Int,0-x= -x:=λx=>by omega
  have s1:∀i:Nat,(i:Int)<r.length->gA s r i<0->lnE s r i*(gB s r i-gA s r i)<(0-gA s r i)*ldE s r i->stE s r (i+1)=(0-gA s r i,gB s r i-gA s r i,hnE s r i,hdE s r i):=λi h h1 h2=>by rw[sN i h];unfold kY;rw[if_pos (show(eG s r i).1<0 from h1)];rw[nN]at h2;exact(if_pos (show(stE s r i).1*((eG s r i).2-(eG s r i).1)< -(eG s r i).1*(stE s r i).2.1 from h2)).trans (by rw[nN];rfl)
  have s2:∀i:Nat,(i:Int)<r.length->gA s r i<0->¬lnE s r i*(gB s r i-gA s r i)<(0-gA s r i)*ldE s r i->stE s r (i+1)=stE s r i:=λi h h1 h2=>by rw[sN i h];unfold kY;rw[if_pos (show(eG s r i).1<0 from h1)];rw[nN]at h2;exact if_neg h2
  have s3:∀i:Nat,(i:Int)<r.length->¬gA s r i<0->gB s r i<0->gA s r i*hdE s r i<hnE s r i*(gA s r i-gB s r i)->stE s r (i+1)=(lnE s r i,ldE s r i,gA s r i,gA s r i-gB s r i):=λi h h1 h2 h3=>by rw[sN i h];unfold kY;rw[if_neg (show¬(eG s r i).1<0 from h1),if_pos (show(eG s r i).2<0 from h2)];exact if_pos h3
  have s4:∀i:Nat,(i:Int)<r.length->¬gA s r i<0->gB s r i<0->¬gA s r i*hdE s r i<hnE s r i*(gA s r i-gB s r i)->stE s r (i+1)=stE s r i:=λi h h1 h2 h3=>by rw[sN i h];unfold kY;rw[if_neg (show¬(eG s r i).1<0 from h1),if_pos (show(eG s r i).2<0 from h2)];exact if_neg h3
  have s5:∀i:Nat,(i:Int)<r.length->¬gA s r i<0->¬gB s r i<0->stE s r (i+1)=stE s r i:=λi h h1 h2=>by rw[sN i h];unfold kY;rw[if_neg (show¬(eG s r i).1<0 from h1)];exact if_neg (show¬(eG s r i).2<0 from h2)
  have w:∀i:Nat,(i:Int)<r.length->j5 s r i->aH (0-gA s r i)/\aH ((0-gA s r i)*ldE s r i)/\aH (gB s r i-gA s r i)/\aH (lnE s r i*(gB s r i-gA s r i))/\aH (gA s r i*hdE s r i)/\aH (gA s r i-gB s r i)/\aH (hnE s r i*(gA s r i-gB s r i)):=λi h hI=>by obtain⟨h1,h2⟩:=bA i h;obtain⟨_,g1,g2,g3,g4⟩:=hI;unfold ibd at h1 h2 g1 g2 g3 g4;have m1:=gS (x:=0-gA s r i) (y:=ldE s r i) (A:=1600000000) (B:=1600000000) (by omega) (by omega);have m2:=gS (x:=lnE s r i) (y:=gB s r i-gA s r i) (A:=1600000000) (B:=1600000000) (by omega) (by omega);have m3:=gS (x:=gA s r i) (y:=hdE s r i) (A:=1600000000) (B:=1600000000) (by omega) (by omega);have m4:=gS (x:=hnE s r i) (y:=gA s r i-gB s r i) (A:=1600000000) (B:=1600000000) (by omega) (by omega);exact⟨bT (by omega),bT (by omega),bT (by omega),bT (by omega),bT (by omega),bT (by omega),bT (by omega)⟩
  have wE:∀i:Nat,j5 s r i->aH (lnE s r i*hdE s r i)/\aH (hnE s r i*ldE s r i):=λi hI=>by obtain⟨_,g1,g2,g3,g4⟩:=hI;unfold ibd at g1 g2 g3 g4;have m1:=gS (x:=lnE s r i) (y:=hdE s r i) (A:=1600000000) (B:=1600000000) (by omega) (by omega);have m2:=gS (x:=hnE s r i) (y:=ldE s r i) (A:=1600000000) (B:=1600000000) (by omega) (by omega);exact⟨bT (by omega),bT (by omega)⟩
  have z:=V6 s r;have q1:∀i:Nat,(i:Int)<r.length->gA s r i<0->lnE s r i*(gB s r i-gA s r i)<(0-gA s r i)*ldE s r i->0-gA s r i=lnE s r (i+1)/\gB s r i-gA s r i=ldE s r (i+1)/\hnE s r i=hnE s r (i+1)/\hdE s r i=hdE s r (i+1):=λi h0 h1 h2=>by have e:=s1 i h0 h1 h2;exact⟨(congrArg (λq:Q4=>q.1) e).symm,(congrArg (λq:Q4=>q.2.1) e).symm,(congrArg (λq:Q4=>q.2.2.1) e).symm,(congrArg (λq:Q4=>q.2.2.2) e).symm⟩
  have q2:∀i:Nat,(i:Int)<r.length->gA s r i<0->¬lnE s r i*(gB s r i-gA s r i)<(0-gA s r i)*ldE s r i->lnE s r i=lnE s r (i+1)/\ldE s r i=ldE s r (i+1)/\hnE s r i=hnE s r (i+1)/\hdE s r i=hdE s r (i+1):=λi h0 h1 h2=>by have e:=s2 i h0 h1 h2;exact⟨(congrArg (λq:Q4=>q.1) e).symm,(congrArg (λq:Q4=>q.2.1) e).symm,(congrArg (λq:Q4=>q.2.2.1) e).symm,(congrArg (λq:Q4=>q.2.2.2) e).symm⟩
  have q3:∀i:Nat,(i:Int)<r.length->¬gA s r i<0->gB s r i<0->gA s r i*hdE s r i<hnE s r i*(gA s r i-gB s r i)->lnE s r i=lnE s r (i+1)/\ldE s r i=ldE s r (i+1)/\gA s r i=hnE s r (i+1)/\gA s r i-gB s r i=hdE s r (i+1):=λi h0 h1 h2 h3=>by have e:=s3 i h0 h1 h2 h3;exact⟨(congrArg (λq:Q4=>q.1) e).symm,(congrArg (λq:Q4=>q.2.1) e).symm,(congrArg (λq:Q4=>q.2.2.1) e).symm,(congrArg (λq:Q4=>q.2.2.2) e).symm⟩
  have q4:∀i:Nat,(i:Int)<r.length->¬gA s r i<0->gB s r i<0->¬gA s r i*hdE s r i<hnE s r i*(gA s r i-gB s r i)->lnE s r i=lnE s r (i+1)/\ldE s r i=ldE s r (i+1)/\hnE s r i=hnE s r (i+1)/\hdE s r i=hdE s r (i+1):=λi h0 h1 h2 h3=>by have e:=s4 i h0 h1 h2 h3;exact⟨(congrArg (λq:Q4=>q.1) e).symm,(congrArg (λq:Q4=>q.2.1) e).symm,(congrArg (λq:Q4=>q.2.2.1) e).symm,(congrArg (λq:Q4=>q.2.2.2) e).symm⟩
  have q5:∀i:Nat,(i:Int)<r.length->¬gA s r i<0->¬gB s r i<0->lnE s r i=lnE s r (i+1)/\ldE s r i=ldE s r (i+1)/\hnE s r i=hnE s r (i+1)/\hdE s r i=hdE s r (i+1):=λi h0 h1 h2=>by have e:=s5 i h0 h1 h2;exact⟨(congrArg (λq:Q4=>q.1) e).symm,(congrArg (λq:Q4=>q.2.1) e).symm,(congrArg (λq:Q4=>q.2.2.1) e).symm,(congrArg (λq:Q4=>q.2.2.2) e).symm⟩
  clear sN bA nN s1 s2 s3 s4 s5 hN md
  repeat' first|with_reducible apply cF|with_reducible intro
  all_goals repeat with_reducible cases‹_/\j5 _ _ _›
  all_goals first|assumption|with_reducible rfl|(with_reducible exact e9a _ ‹_›)|(with_reducible exact e9b _ ‹_›)|(with_reducible exact x1 _ ‹_›)|(with_reducible exact cA _ _ ‹_› ‹_›)|(with_reducible exact oY _ ‹_› ‹_›)|(with_reducible exact oE _ ‹_› ‹_› ‹_›)|(with_reducible exact o1 _ ‹_›)|(with_reducible exact o2 _ ‹_›)|(with_reducible exact(w _ ‹_› ‹_›).1)|(with_reducible exact(w _ ‹_› ‹_›).2.1)|(with_reducible exact(w _ ‹_› ‹_›).2.2.1)|(with_reducible exact(w _ ‹_› ‹_›).2.2.2.1)|(with_reducible exact(w _ ‹_› ‹_›).2.2.2.2.1)|(with_reducible exact(w _ ‹_› ‹_›).2.2.2.2.2.1)|(with_reducible exact(w _ ‹_› ‹_›).2.2.2.2.2.2)|(with_reducible exact(wE _ ‹_›).1)|(with_reducible exact(wE _ ‹_›).2)|(with_reducible exact iN _ ‹_› ‹_› ‹_›)|(with_reducible exact(q1 _ ‹_› ‹_› ‹_›).1)|(with_reducible exact(q1 _ ‹_› ‹_› ‹_›).2.1)|(with_reducible exact(q1 _ ‹_› ‹_› ‹_›).2.2.1)|(with_reducible exact(q1 _ ‹_› ‹_› ‹_›).2.2.2)|(with_reducible exact(q2 _ ‹_› ‹_› ‹_›).1)|(with_reducible exact(q2 _ ‹_› ‹_› ‹_›).2.1)|(with_reducible exact(q2 _ ‹_› ‹_› ‹_›).2.2.1)|(with_reducible exact(q2 _ ‹_› ‹_› ‹_›).2.2.2)|(with_reducible exact(q3 _ ‹_› ‹_› ‹_› ‹_›).1)|(with_reducible exact(q3 _ ‹_› ‹_› ‹_› ‹_›).2.1)|(with_reducible exact(q3 _ ‹_› ‹_› ‹_› ‹_›).2.2.1)|(with_reducible exact(q3 _ ‹_› ‹_› ‹_› ‹_›).2.2.2)|(with_reducible exact(q4 _ ‹_› ‹_› ‹_› ‹_›).1)|(with_reducible exact(q4 _ ‹_› ‹_› ‹_› ‹_›).2.1)|(with_reducible exact(q4 _ ‹_› ‹_› ‹_› ‹_›).2.2.1)|(with_reducible exact(q4 _ ‹_› ‹_› ‹_› ‹_›).2.2.2)|(with_reducible exact(q5 _ ‹_› ‹_› ‹_›).1)|(with_reducible exact(q5 _ ‹_› ‹_› ‹_›).2.1)|(with_reducible exact(q5 _ ‹_› ‹_› ‹_›).2.2.1)|(with_reducible exact(q5 _ ‹_› ‹_› ‹_›).2.2.2)|omega|(unfold ix;omega)|(unfold aH;omega)|rfl)
noncomputable def Qj:=tC.adk aCc
def j0(r:aD):Pt:=pN (aEn r 0) (aEn r 1) (aEn r 2)
def Zk{r:aD}(h:ROk r): -1000000<=(j0 r).x/\(j0 r).x<=1000000/\ -1000000<=(j0 r).y/\(j0 r).y<=1000000/\0<=(j0 r).den/\(j0 r).den<=100:=by have v:∀i,i<r.length->bd 10000 (aEn r i):=λi hi=>h.near _ (dD hi);have l3:=h.three;have v0:=v 0 (by omega);have v1:=v 1 (by omega);have v2:=v 2 (by omega);unfold bd at v0 v1 v2;have q1:=o8 (x:=(aEn r 0).x+(aEn r 1).x+(aEn r 2).x) (g:=3) (B:=30000) (by omega);have q2:=o8 (x:=(aEn r 0).y+(aEn r 1).y+(aEn r 2).y) (g:=3) (B:=30000) (by omega);unfold j0 pN;grind
def Pw{r:aD}{p:Pt}(h:3<=r.length):lg r p=(bP r.length).all λi=>decide (0<((aEn r ((i+1) % r.length)).x-(aEn r i).x)*(p.y-(aEn r i).y*p.den)-((aEn r ((i+1) % r.length)).y-(aEn r i).y)*(p.x-(aEn r i).x*p.den)):=by unfold lg aJ;rw[if_neg (by omega),List.all_map];rfl
def Zw{t:LT}{l:List t.ty}{q:t.ty->Bool}{j:Nat}(hj:j<l.length)(h:q (t.nth l j)=true):l.any q=true:=
 lO.2 ⟨_,mN hj,by rw[<-t.nth_eq l hj];exact h⟩
def GV{t:LT}{l:List t.ty}{q:t.ty->Bool}(h:aO (λj=>q (t.nth l j)=false) l.length):l.any q=false:=
 List.any_eq_false.2 λx hx=>by obtain⟨j,hj,rfl⟩:=jf hx;have:=h j hj;dsimp only at this;rw[t.nth_eq l hj]at this;grind
noncomputable def aDA:Con:=con (a1 (aL .V)) (λr=>[ROk r]) (λr=>aT.enc (j0 r)
 )
def aCb:aDA.Okz 168:=bH Qj bg (λ_=>⟨_,rfl⟩) λr hp=>bC (aA (j0 r) λA=>aA (3:Int) λB=>aA (aEn r 0) λC=>aA (aEn r 1) λD=>aA (aEn r 2) λE=>aA (C.x+D.x+E.x) λF=>aA (C.y+D.y+E.y) λG=>ix 0 r.length/\ix 1 r.length/\aH (C.x+D.x)/\ix 2 r.length/\aH F/\ix 0 r.length/\ix 1 r.length/\aH (C.y+D.y)/\ix 2 r.length/\aH G/\B≠0/\(c8 F 3=0->B≠0/\(c8 G 3=0->B≠0/\aH (fM F 3)/\B≠0/\aH (fM G 3)/\fM F 3=A.x/\fM G 3=A.y/\1=A.den)/\
  (¬c8 G 3=0->C.x+D.x+E.x=A.x/\C.y+D.y+E.y=A.y/\3=A.den))/\
 (¬c8 F 3=0->C.x+D.x+E.x=A.x/\C.y+D.y+E.y=A.y/\3=A.den)) (by kernel_rfl) (by
  change ROk r at hp;have v:∀i,i<r.length->bd 10000 (aEn r i):=λi h=>hp.near _ (dD h);have l3:=hp.three;have v0:=v 0 (by omega);have v1:=v 1 (by omega);have v2:=v 2 (by omega);have m1:c8 ((aEn r 0).x+(aEn r 1).x+(aEn r 2).x) 3=0->c8 ((aEn r 0).y+(aEn r 1).y+(aEn r 2).y) 3=0->j0 r=⟨fM ((aEn r 0).x+(aEn r 1).x+(aEn r 2).x) 3,fM ((aEn r 0).y+(aEn r 1).y+(aEn r 2).y) 3,1⟩:=λh1 h2=>if_pos ⟨h1,h2⟩;have m2:¬(c8 ((aEn r 0).x+(aEn r 1).x+(aEn r 2).x) 3=0/\c8 ((aEn r 0).y+(aEn r 1).y+(aEn r 2).y) 3=0)->j0 r=⟨(aEn r 0).x+(aEn r 1).x+(aEn r 2).x,(aEn r 0).y+(aEn r 1).y+(aEn r 2).y,3⟩:=λh=>if_neg h;unfold bd at v0 v1 v2;have q1:=o8 (x:=(aEn r 0).x+(aEn r 1).x+(aEn r 2).x) (g:=3) (B:=4000000000) (by omega);have q2:=o8 (x:=(aEn r 0).y+(aEn r 1).y+(aEn r 2).y) (g:=3) (B:=4000000000) (by omega);have x0:ix 0 r.length:=⟨by omega,by omega⟩;have x1:ix 1 r.length:=⟨by omega,by omega⟩;have x2:ix 2 r.length:=⟨by omega,by omega⟩;refine⟨x0,x1,bT (by omega),x2,bT (by omega),x0,x1,bT (by omega),x2,bT (by omega),by decide,λh1=>⟨by decide,λh2=>⟨by decide,bT (by omega),by decide,bT (by omega),?_⟩,λh2=> ?_⟩,λh1=> ?_⟩
  .grind
  .grind
  grind)
noncomputable def Qi:=Qj.adk aCb
noncomputable def aDy:Con:=con (ac (aL .V) (a1 aT)) (λ(r,p)=>[ROk r,-1000000<=p.x,p.x<=1000000,-1000000<=p.y,p.y<=1000000,0<=p.den,p.den<=100]) (λ(r,p)=> .bool (lg r p))
def aB9:aDy.Okz 170:=bH Qi (λ(r,p)=>[cnt 2 10 r.length (aO λi=>0<((aEn r ((i+1) % r.length)).x-(aEn r i).x)*(p.y-(aEn r i).y*p.den)-((aEn r ((i+1) % r.length)).y-(aEn r i).y)*(p.x-(aEn r i).x*p.den))]
  ) (λ(_,_)=>⟨_,rfl⟩) λ(r,p) hp=>bC ((0=(0:Int)/\(0:Nat)<=r.length/\aO (λi=>0<((aEn r ((i+1) % r.length)).x-(aEn r i).x)*(p.y-(aEn r i).y*p.den)-((aEn r ((i+1) % r.length)).y-(aEn r i).y)*(p.x-(aEn r i).x*p.den)) 0)/\
 (∀x:Nat,aA (x+1) λA=>aA (x:Int) λB=>aA (aEn r x) λC=>aA (aEn r (A % r.length)) λE=>aA (aEq E C) λF=>aA (p.y-C.y*p.den) λG=>aA (p.x-C.x*p.den) λH=>x<=r.length/\aO (λi=>0<((aEn r ((i+1) % r.length)).x-(aEn r i).x)*(p.y-(aEn r i).y*p.den)-((aEn r ((i+1) % r.length)).y-(aEn r i).y)*(p.x-(aEn r i).x*p.den)) x->(B<r.length->ix B r.length/\aH (B+1)/\(r.length:Int)≠0/\ix ((A % r.length:Nat):Int) r.length/\bd 1000000000 E/\bd 1000000000 C/\aH (C.y*p.den)/\aH G/\aH (F.x*G)/\aH (C.x*p.den)/\aH H/\aH (F.y*H)/\aH (F.x*G-F.y*H)/\(F.x*G-F.y*H<=0->false=lg r p)/\
   (¬F.x*G-F.y*H<=0->aH (B+1)/\B+1=((x+1:Nat):Int)/\x+1<=r.length/\aO (λi=>0<((aEn r ((i+1) % r.length)).x-(aEn r i).x)*(p.y-(aEn r i).y*p.den)-((aEn r ((i+1) % r.length)).y-(aEn r i).y)*(p.x-(aEn r i).x*p.den)) A/\r.length-A<r.length-x))/\
  (¬B<r.length->true=lg r p))) (by kernel_rfl) (by
  change ROk r/\ -1000000<=p.x/\p.x<=1000000/\ -1000000<=p.y/\p.y<=1000000/\0<=p.den/\p.den<=100 at hp;obtain⟨hr,px1,px2,py1,py2,pd1,pd2⟩:=hp;have l3:=hr.three;have hl:=hr.len;have v:∀i,i<r.length->bd 10000 (aEn r i):=λi h=>hr.near _ (dD h);have md:∀i:Nat,(i:Int)<r.length->(i+1) % r.length<r.length:=λi h=>bk _ (by omega);have x1:∀i:Nat,(i:Int)<r.length->ix (((i+1) % r.length:Nat):Int) r.length:=λi h=>dr (md i h);have b1:∀i:Nat,(i:Int)<r.length->bd 1000000000 (aEn r i):=λi h=>(v i (by omega)).mono;have b2:∀i:Nat,(i:Int)<r.length->bd 1000000000 (aEn r ((i+1) % r.length)):=λi h=>(v _ (md i h)).mono;have k:∀a:Int,-10000<=a/\a<=10000-> -1000000<=a*p.den/\a*p.den<=1000000:=λa h=>by have:=gS (x:=a) (y:=p.den) (A:=10000) (B:=100) ⟨h.1,h.2⟩ ⟨by omega,by omega⟩;omega
  have m:∀a b:Int,-20000<=a/\a<=20000-> -2000000<=b/\b<=2000000-> -40000000000<=a*b/\a*b<=40000000000:=λa b h1 h2=>by have:=gS (x:=a) (y:=b) (A:=20000) (B:=2000000) h1 h2;omega
  have w:∀i:Nat,(i:Int)<r.length->aH ((aEn r i).y*p.den)/\aH (p.y-(aEn r i).y*p.den)/\aH ((aEq (aEn r ((i+1) % r.length)) (aEn r i)).x*(p.y-(aEn r i).y*p.den))/\aH ((aEn r i).x*p.den)/\aH (p.x-(aEn r i).x*p.den)/\aH ((aEq (aEn r ((i+1) % r.length)) (aEn r i)).y*(p.x-(aEn r i).x*p.den))/\aH ((aEq (aEn r ((i+1) % r.length)) (aEn r i)).x*(p.y-(aEn r i).y*p.den)-(aEq (aEn r ((i+1) % r.length)) (aEn r i)).y*(p.x-(aEn r i).x*p.den)):=λi h=>by
   have h1:=v i (by omega);have h2:=v _ (md i h);unfold bd at h1 h2;have k1:=k _ (show-10000<=(aEn r i).x/\(aEn r i).x<=10000 by omega);have k2:=k _ (show-10000<=(aEn r i).y/\(aEn r i).y<=10000 by omega);have d1: -20000<=(aEq (aEn r ((i+1) % r.length)) (aEn r i)).x/\(aEq (aEn r ((i+1) % r.length)) (aEn r i)).x<=20000:=by unfold aEq;dsimp only;omega
   have d2: -20000<=(aEq (aEn r ((i+1) % r.length)) (aEn r i)).y/\(aEq (aEn r ((i+1) % r.length)) (aEn r i)).y<=20000:=by unfold aEq;dsimp only;omega
   have m1:=m _ (p.y-(aEn r i).y*p.den) d1 (by omega);have m2:=m _ (p.x-(aEn r i).x*p.den) d2 (by omega);exact⟨bT (by omega),bT (by omega),bT (by omega),bT (by omega),bT (by omega),bT (by omega),bT (by omega)⟩
  have no:∀i:Nat,(i:Int)<r.length->(aEq (aEn r ((i+1) % r.length)) (aEn r i)).x*(p.y-(aEn r i).y*p.den)-(aEq (aEn r ((i+1) % r.length)) (aEn r i)).y*(p.x-(aEn r i).x*p.den)<=0->false=lg r p:=λi h h2=>by rw[Pw l3];symm;refine yk.2 ⟨i,bz.2 (by omega),?_⟩;intro h3;have:=of_decide_eq_true h3;unfold aEq at h2;grind
  have yes:∀i:Nat,¬(i:Int)<r.length->i<=r.length->aO (λi=>0<((aEn r ((i+1) % r.length)).x-(aEn r i).x)*(p.y-(aEn r i).y*p.den)-((aEn r ((i+1) % r.length)).y-(aEn r i).y)*(p.x-(aEn r i).x*p.den)) i->true=lg r p:=λi h h2 h3=>by rw[Pw l3];symm;refine bZ.2 λj hj=>decide_eq_true (h3 j ?_);grind
  have nx:∀i:Nat,¬(aEq (aEn r ((i+1) % r.length)) (aEn r i)).x*(p.y-(aEn r i).y*p.den)-(aEq (aEn r ((i+1) % r.length)) (aEn r i)).y*(p.x-(aEn r i).x*p.den)<=0->0<((aEn r ((i+1) % r.length)).x-(aEn r i).x)*(p.y-(aEn r i).y*p.den)-((aEn r ((i+1) % r.length)).y-(aEn r i).y)*(p.x-(aEn r i).x*p.den):=λi h=>by unfold aEq at h;grind
  clear k m v md
  with_reducible ((repeat' first|apply cF|intro);all_goals repeat cases‹_/\_›)
  all_goals first|rfl|with_reducible solve_by_elim|(with_reducible first|assumption|rfl|exact(w _ ‹_›).1|exact(w _ ‹_›).2.1|exact(w _ ‹_›).2.2.1|exact(w _ ‹_›).2.2.2.1|exact(w _ ‹_›).2.2.2.2.1|exact(w _ ‹_›).2.2.2.2.2.1|exact(w _ ‹_›).2.2.2.2.2.2)|exact cP ‹_› (nx _ ‹_›)|omega|grind)
noncomputable def Qg:=Qi.adk aB9
noncomputable def aDz:Con:=con (ac (aL .V) (a1 (aL .V))) (λ(a,b)=>[ROk a,ROk b]) (λ(a,b)=> .bool ((aJ a).any λs=>dA s b))
def aCa:aDz.Okz 169:=bH Qg (λ(a,b)=>[cnt 2 10 (aJ a).length (aO λi=>dA (az (aJ a) i) b=false)]
  ) (λ(_,_)=>⟨_,rfl⟩) λ(a,b) hp=>bC (aA (aJ a) λB=>a.length<=1000/\(0=(0:Int)/\(0:Nat)<=B.length/\aO (λi=>dA (az B i) b=false) 0)/\
 (∀x:Nat,aA (x:Int) λA=>aA (az B x) λC=>x<=B.length/\aO (λi=>dA (az B i) b=false) x->(A<B.length->ix A B.length/\x<B.length/\bd 10000 C.a/\bd 10000 C.b/\ROk b/\(dA C b=true->true=fc B (λs=>dA s b))/\
   (dA C b=false->aH (A+1)/\A+1=((x+1:Nat):Int)/\x+1<=B.length/\aO (λi=>dA (az B i) b=false) (x+1)/\B.length-(x+1)<B.length-x))/\
  (¬A<B.length->false=fc B (λs=>dA s b)))) (by kernel_rfl) (by
  change ROk a/\ROk b at hp;obtain⟨ha,hb⟩:=hp;have la:=ha.three;have lb:=ha.len;have el:=Kr la;have e1:∀i:Nat,(i:Int)<(aJ a).length->bd 10000 (az (aJ a) i).a/\bd 10000 (az (aJ a) i).b:=λi h=>by rw[jD (show i<(aJ a).length by omega),AN la];exact⟨ha.near _ (dD (by omega)),ha.near _ (dD (bk _ (by omega)))⟩
  have yes:∀i:Nat,(i:Int)<(aJ a).length->dA (az (aJ a) i) b=true->true=fc (aJ a) (λs=>dA s b):=λi h h2=>
   (Zw (t:= .S) (l:=aJ a) (q:=λs=>dA s b) (j:=i) (by omega) h2).symm
  have no:∀i:Nat,¬(i:Int)<(aJ a).length->i<=(aJ a).length->aO (λi=>dA (az (aJ a) i) b=false) i->false=fc (aJ a) (λs=>dA s b):=λi h h2 h3=>by
   obtain rfl:i=(aJ a).length:=by omega
   exact(GV (t:= .S) (l:=aJ a) (q:=λs=>dA s b) h3).symm
  with_reducible ((repeat' first|apply cF|intro);all_goals repeat cases‹_/\_›)
  all_goals first|rfl|with_reducible solve_by_elim|(with_reducible first|assumption|rfl|exact(e1 _ ‹_›).1|exact(e1 _ ‹_›).2)|grind)
noncomputable def Qh:=Qg.adk aCa
noncomputable def aEc:Con:=con (ac (aL .V) (a1 (aL .V))) (λ(a,b)=>[ROk a,ROk b]) (λ(a,b)=> .bool (fC a b)
 )
def aCN:aEc.Okz 110:=bH Qh (λ(_,_)=>[]) (λ(_,_)=>⟨_,rfl⟩) λ(a,b) hp=>bC (aA (j0 a) λA=>ROk a/\ROk b/\(fc (aJ a) (λs=>dA s b)=true->true=fC a b)/\
 (fc (aJ a) (λs=>dA s b)=false->ROk b/\ROk a/\(fc (aJ b) (λs=>dA s a)=true->true=fC a b)/\
  (fc (aJ b) (λs=>dA s a)=false->ROk a/\ROk b/\ -1000000<=A.x/\A.x<=1000000/\ -1000000<=A.y/\A.y<=1000000/\0<=A.den/\A.den<=100/\lg b A=fC a b))) (by kernel_rfl) (by
  change ROk a/\ROk b at hp;obtain⟨ha,hb⟩:=hp;have c:=Zk ha;have o:fC a b=((fc (aJ a) λs=>dA s b)||((fc (aJ b) λs=>dA s a)||lg b (j0 a))):=rfl;grind)
noncomputable def RN:=Qh.adk aCN
noncomputable def aEe:Con:=con (ac aSh (a1 (aL .V))) (λ(s,r)=>[Fit s,ROk r,(bW s).length<=1000000,(∀e∈bW s,ag e.a 10000=true/\ag e.b 10000=true)]) (λ(s,r)=> .bool (nR s r))
def aCP:aEe.Okz 108:=bH RN (λ(s,r)=>[cnt 2 10 (bW s).length (aO λi=>dA (az (bW s) i) r=false)]
  ) (λ(_,_)=>⟨_,rfl⟩) λ(s,r) hp=>bC (aA (bW s) λB=>Fit s/\(0=(0:Int)/\(0:Nat)<=B.length/\aO (λi=>dA (az B i) r=false) 0)/\
 (∀x:Nat,aA (x:Int) λA=>aA (az B x) λC=>x<=B.length/\aO (λi=>dA (az B i) r=false) x->(A<B.length->ix A B.length/\bd 10000 C.a/\bd 10000 C.b/\ROk r/\(dA C r=true->false=nR s r)/\
   (dA C r=false->aH (A+1)/\A+1=((x+1:Nat):Int)/\x+1<=B.length/\aO (λi=>dA (az B i) r=false) (x+1)/\B.length-(x+1)<B.length-x))/\
  (¬A<B.length->ROk r/\Fit s/\decide (eJ s (j0 r)=2)=nR s r))) (by kernel_rfl) (by
  change Fit s/\ROk r/\(bW s).length<=1000000/\((∀e∈bW s,ag e.a 10000=true/\ag e.b 10000=true))at hp;obtain⟨hf,hr,hl,he⟩:=hp;have e1:∀i:Nat,(i:Int)<(bW s).length->bd 10000 (az (bW s) i).a:=λi h=>by rw[jD (by omega)];exact m6 (he _ (mN _)).1
  have e2:∀i:Nat,(i:Int)<(bW s).length->bd 10000 (az (bW s) i).b:=λi h=>by rw[jD (by omega)];exact m6 (he _ (mN _)).2
  have t1:∀i:Nat,(i:Int)<(bW s).length->dA (az (bW s) i) r=true->false=nR s r:=λi h h2=>by unfold nR;rw[BR (t:= .S) (l:=bW s) (q:=λe=> !dA e r) (j:=i) (by omega) (by rw[show dA (LT.S.nth (bW s) i) r=true from h2];rfl)];rfl
  have t3:∀x:Nat,¬(x:Int)<(bW s).length->x<=(bW s).length->aO (λi=>dA (az (bW s) i) r=false) x->decide (eJ s (j0 r)=2)=nR s r:=λx h1 h2 h3=>by
   obtain rfl:x=(bW s).length:=by omega
   unfold nR;rw[Av (t:= .S) (l:=bW s) (q:=λe=> !dA e r) (λj hj=>by show(!dA (az (bW s) j) r)=true;rw[show dA (az (bW s) j) r=false from h3 j hj];rfl),oc,eY];unfold j0;simp
  clear he
  with_reducible ((repeat' first|apply cF|intro);all_goals repeat cases‹_/\_›)
  all_goals first|rfl|with_reducible solve_by_elim|(with_reducible first|assumption|rfl)|grind)
noncomputable def G7:=RN.adk aCP
def VOk(v:V):Prop:=aH v.x/\aH v.y
def Bt(v:V):PV:= .agg [.int .i64 v.x,.int .i64 v.y]
def po(a b:V):V:=⟨ic.wrap (a.x-b.x),ic.wrap (a.y-b.y)⟩
def uZ(a b:V):Int:=ic.wrap (ic.wrap (a.x*b.y)-ic.wrap (a.y*b.x))
def sO(a b c:V):Int:=aEr (uZ (po b a) (po c a)) 0
def Mz{a b:V}(ha:bd 1000000000 a)(hb:bd 1000000000 b):po a b=aEq a b:=by unfold bd at ha hb;unfold po aEq;rw[tW (bT (by omega)),tW (bT (by omega))]
def WS{a b:V}(ha:bd 2000000000 a)(hb:bd 2000000000 b):uZ a b=cross a b:=by have:=mU ha hb;unfold uZ cross;rw[tW (x:=a.x*b.y) (bT (by omega)),tW (x:=a.y*b.x) (bT (by omega)),tW (bT (by omega))]
def Wt{a b c:V}(ha:bd 1000000000 a)(hb:bd 1000000000 b)(hc:bd 1000000000 c):sO a b c=turn a b c:=by
 have e:∀n,aEr n 0=sgn n:=λn=>by unfold aEr sgn;grind
 unfold sO;rw[Mz hb ha,Mz hc ha,WS (iS hb ha) (iS hc ha),e];rfl
noncomputable def aBl:Con:=con (ac aV (a1 aV)) (λ(_,_)=>[True]) (λ(a,b)=>aV.enc (po a b))
def aA9:aBl.Okz 138:=uc (oK G7.o) (raw:=λ_ _=>true
 ) (λ(_,_)=>[]) (λ(_,_)=>⟨_,rfl⟩) λ(a,b) hp=>bC (yl ic (a.x-b.x)=(po a b).x/\yl ic (a.y-b.y)=(po a b).y) (by kernel_rfl) (by
 change True at hp;exact⟨rfl,rfl⟩)
noncomputable def PU:=G7.adk aA9
noncomputable def aBm:Con:=con (ac aV (a1 aV)) (λ(_,_)=>[True]) (λ(a,b)=> .iqz (uZ a b))
def aBa:aBm.Okz 111:=uc (oK PU.o) (raw:=λ_ _=>true
 ) (λ(_,_)=>[]) (λ(_,_)=>⟨_,rfl⟩) λ(a,b) hp=>bC (yl ic (yl ic (a.x*b.y)-yl ic (a.y*b.x))=uZ a b) (by kernel_rfl) (by
 change True at hp;rfl)
noncomputable def PW:=PU.adk aBa
noncomputable def aC1:Con:=con (ac aV (ac aV (a1 aV))) (λ(_,_,_)=>[True]) (λ(a,b,c)=> .iqz (sO a b c)
 )
def aBD:aC1.Okz 63:=bH PW (λ(_,_,_)=>[]) (λ(_,_,_)=>⟨_,rfl⟩) λ(a,b,c) hp=>bC (True/\True/\True/\aEr (uZ (po b a) (po c a)) 0=sO a b c) (by kernel_rfl) (by change True at hp;exact⟨trivial,trivial,trivial,rfl⟩)
noncomputable def aBv:=PW.adk aBD
def cvZ(r:aD)(i n:Nat):Bool:=decide (n=i)||(decide (n=(i+1) % r.length)||decide (0<sO (aEn r i) (aEn r ((i+1) % r.length)) (aEn r n)))
def cvR(r:aD)(i:Nat):Bool:=(bP r.length).all (cvZ r i)&&ag (aEn r i) 2000
def cvN(r:aD)(i n:Nat):Bool:=decide (n=i)||(decide (n=(i+1) % r.length)||decide (0<turn (aEn r i) (aEn r ((i+1) % r.length)) (aEn r n)))
def Vy{r:aD}:(r.all λv=>ag v 2000)=(bP r.length).all λi=>ag (aEn r i) 2000:=by
 rw[eY,bZ,bZ];constructor
 .intro h i hi;exact h _ (dD (bz.1 hi))
 .intro h v hv;obtain⟨i,hi,rfl⟩:=fO.1 hv;grind
def Zh(r:aD):dX r=(decide (3<=r.length)&&(((bP r.length).all λi=>ag (aEn r i) 2000)&&(bP r.length).all λi=>(bP r.length).all (cvN r i))):=by
 have e:(λi=>(bP r.length).all λn=>decide (n=i)||decide (n=(i+1) % r.length)||decide (0<turn (aEn r i) (nxt r i) (aEn r n)))=λi=>(bP r.length).all (cvN r i):=by
  funext i;congr 1;funext n;exact Bool.or_assoc ..
 unfold dX;rw[Vy,e]
def Da{v:V}(h:ag v 2000=true):bd 10000 v:=by unfold ag at h;simp only[bm,decide_eq_true_eq]at h;unfold bd;omega
def Fq(r:aD):dX r=(decide (3<=r.length)&&(bP r.length).all (cvR r)):=by
 rw[Zh]
 congr 1
 have key:((bP r.length).all λi=>ag (aEn r i) 2000)=true->∀i n,i<r.length->n<r.length->cvZ r i n=cvN r i n:=λh i n hi hn=>by have h:=bZ.1 h;have b:∀i,i<r.length->bd 1000000000 (aEn r i):=λi hi=>(Da (h i (bz.2 hi))).mono;unfold cvZ cvN;rw[Wt (b _ hi) (b _ (bk _ (by omega))) (b _ hn)]
 rw[eY];constructor
 .intro h;rw[bm]at h;refine bZ.2 λi hi=> ?_;unfold cvR;grind
 .intro h;have h:=bZ.1 h;have h1:((bP r.length).all λi=>ag (aEn r i) 2000)=true:=bZ.2 λi hi=>by have:=h i hi;unfold cvR at this;grind
  rw[bm];refine⟨h1,bZ.2 λi hi=>bZ.2 λn hn=> ?_⟩;rw[<-key h1 i n (bz.1 hi) (bz.1 hn)];have:=h i hi;unfold cvR at this;grind
def BC{r:aD}(h:dX r=true)(hl:r.length<=1000):ROk r:=by have:=CR.of h;exact⟨this.len,hl,λv hv=>Da (this.near v hv)⟩
def LD{q:Nat->Bool}{n:Nat}(h:aO (λj=>q j=true) n):(bP n).all q=true:=bZ.2 λi hi=>h i (bz.1 hi)
def Fz{q:Nat->Bool}{n i:Nat}(hi:i<n)(h:q i=false):(bP n).all q=false:=yk.2 ⟨i,bz.2 hi,by rw[h];simp⟩
noncomputable def aEf:Con:=con (a1 (aL .V)) (λr=>[r.length<=1000]) (λr=> .bool (dX r))
def aCQ:aEf.Okz 107:=bH aBv (λr=>[lp 2 10 r.length (λi=>[aO (λi=>cvR r i=true) i]) [] bg bg λi=>[cnt 6 25 r.length (aO λn=>cvZ r i n=true) λn=>[jb 9 48 (!cvZ r i n)]]]
  ) (λ_=>⟨_,rfl⟩) λr hp=>bC (aA (0:Int) λC=>aA (r.length:Int) λG=>(0=C/\(0:Nat)<=r.length/\aO (λi=>cvR r i=true) 0)/\
 (∀x:Nat,aA (x+1) λA=>aA (x:Int) λB=>aA (aEn r x) λE=>aA ((A % r.length:Nat):Int) λI=>aA (!ag E 2000) λJ=>x<=r.length/\aO (λi=>cvR r i=true) x->(B<r.length->ix B r.length/\aH (B+1)/\G≠0/\ix I r.length/\(0=C/\(0:Nat)<=r.length/\aO (λn=>cvZ r x n=true) 0)/\
   (∀x_1:Nat,aA (x_1:Int) λD=>aA (!cvZ r x x_1) λF=>x_1<=r.length/\aO (λn=>cvZ r x n=true) x_1->(D<r.length->ix D r.length/\((¬D=x->aH (B+1)/\G≠0/\(¬D=I->True/\decide (sO E (aEn r (A % r.length)) (aEn r x_1)<=0)=F)/\
       (¬(¬D=I)->false=F))/\
      (¬(¬D=x)->false=F))/\
     (∀y:Unit,(F=true->false=dX r)/\
      (F=false->aH (D+1)/\D+1=((x_1+1:Nat):Int)/\x_1+1<=r.length/\aO (λn=>cvZ r x n=true) (x_1+1)/\r.length-(x_1+1)<r.length-x_1)))/\
    (¬D<r.length->C<=2000/\(2000:Int)<=9000000000000000000/\(J=true->false=dX r)/\
     (J=false->aH (B+1)/\B+1=((x+1:Nat):Int)/\x+1<=r.length/\aO (λi=>cvR r i=true) A/\r.length-A<r.length-x))))/\
  (¬B<r.length->decide (3<=G)=dX r))) (by kernel_rfl) (by
  change r.length<=1000 at hp;have x1:∀x:Nat,(x:Int)<r.length->ix (((x+1) % r.length:Nat):Int) r.length:=λx h=>dr (bk _ (by omega));have z1:∀x y:Nat,¬(y:Int)=x->¬(y:Int)=(((x+1) % r.length:Nat):Int)->decide (sO (aEn r x) (aEn r ((x+1) % r.length)) (aEn r y)<=0)=(!cvZ r x y):=λx y h1 h2=>by unfold cvZ;rw[decide_eq_false (show¬y=x by omega),decide_eq_false (show¬y=(x+1) % r.length by omega),Bool.false_or,Bool.false_or,<-decide_not];grind
  have z2:∀x y:Nat,¬¬(y:Int)=(((x+1) % r.length:Nat):Int)->false=(!cvZ r x y):=λx y h=>by unfold cvZ;grind
  have z3:∀x y:Nat,¬¬(y:Int)=x->false=(!cvZ r x y):=λx y h=>by unfold cvZ;grind
  have no:∀x y:Nat,(!cvZ r x y)=true->(x:Int)<r.length->(y:Int)<r.length->false=dX r:=λx y h3 h1 h2=>by rw[Fq,Fz (i:=x) (by omega) (by unfold cvR;rw[Fz (i:=y) (by omega) (nb' h3)];rfl)];simp
  have no2:∀x:Nat,(!ag (aEn r x) 2000)=true->(x:Int)<r.length->false=dX r:=λx h3 h1=>by rw[Fq,Fz (i:=x) (by omega) (by unfold cvR;grind)];simp
  have st:∀x y:Nat,aO (λn=>cvZ r x n=true) y->¬(y:Int)<r.length->y<=r.length->(!ag (aEn r x) 2000)=false->cvR r x=true:=λx y h3 h1 h2 h4=>by
   obtain rfl:y=r.length:=by omega
   unfold cvR;rw[LD h3,nb h4];rfl
  have fin:∀x:Nat,¬(x:Int)<r.length->x<=r.length->aO (λi=>cvR r i=true) x->decide (3<=(r.length:Int))=dX r:=λx h1 h2 h3=>by
   obtain rfl:x=r.length:=by omega
   rw[Fq,LD h3,Bool.and_true];exact decide_eq_decide.2 (by omega)
  with_reducible ((repeat' first|apply cF|intro);all_goals repeat cases‹_/\_›)
  all_goals first|rfl|with_reducible solve_by_elim|(with_reducible first|assumption|rfl)|exact cP ‹_› (nb ‹_›)|exact cP ‹_› (st _ _ ‹_› ‹_› ‹_› ‹_›)|grind)
noncomputable def tE:=(G7.adk Ri).adk aCQ
def fgn(v:List V)(p:V):Bool:= !v.any λu=>decide (p=u)
noncomputable def c82:Con:=con (ac (aL .V) (a1 aV)) (λ(l,_)=>[l.length<=1000000]) (λ(l,v)=> .bool (l.any λu=>decide (v=u))
 )
def k82:c82.Okz 82:=bH tE (λ(_,_)=>[]) (λ(_,_)=>⟨_,rfl⟩) λ(l,v) hp=>bC (l.length<=1000000/\decide (0<=fI (λu=>decide (v=u)) l)=fc l (λu=>decide (v=u))) (by kernel_rfl) (by change l.length<=1000000 at hp;exact⟨hp,uX _ _⟩)
noncomputable def t82:=tE.adk k82
noncomputable def aEg:Con:=con (ac aV (a1 aPR)) (λ(_,l)=>[l.length<=1000000]) (λ(v,l)=> .bool (fgn l v)
 )
def aCR:aEg.Okz 106:=bH t82 (λ(_,_)=>[]) (λ(_,_)=>⟨_,rfl⟩) λ(v,l) hp=>bC (l.length<=1000000/\(!fc l (λu=>decide (v=u)))=fgn l v) (by kernel_rfl) (by change l.length<=1000000 at hp;exact⟨hp,rfl⟩)
noncomputable def RP:=t82.adk aCR
def P6:Ar (aD×Unit):=aCl 106 (ac aPR a0)
def P5:Ar (aD×Unit):=aCl 109 (ac aPR a0)
noncomputable def aBj:Con:=con (ac (aL .V) (a1 P6)) (λ(l,c)=>[l.length<=1000000,c.1.length<=1000000]) (λ(l,c)=> .iqz (fI (fgn c.1) l))
def aA7:aBj.Okz 157:=bH RP (λ(l,c)=>[cnt 2 8 l.length (aO λj=>fgn c.1 (aEn l j)=false)]
  ) (λ(_,_)=>⟨_,rfl⟩) λ(l,c) hp=>bC ((0=(0:Int)/\(0:Nat)<=l.length/\aO (λj=>fgn c.1 (aEn l j)=false) 0)/\
 (∀x:Nat,aA (x:Int) λA=>x<=l.length/\aO (λj=>fgn c.1 (aEn l j)=false) x->(A<l.length->ix A l.length/\c.1.length<=1000000/\(fgn c.1 (aEn l x)=true->A=fI (fgn c.1) l)/\
   (fgn c.1 (aEn l x)=false->aH (A+1)/\A+1=((x+1:Nat):Int)/\x+1<=l.length/\aO (λj=>fgn c.1 (aEn l j)=false) (x+1)/\l.length-(x+1)<l.length-x))/\
  (¬A<l.length-> -1=fI (fgn c.1) l))) (by kernel_rfl) (by
  change l.length<=1000000/\c.1.length<=1000000 at hp
  with_reducible ((repeat' first|apply cF|intro);all_goals repeat cases‹_/\_›)
  all_goals first|rfl|exact pm (t:= .V) (by omega) ‹_› ‹_› |(obtain rfl:_=l.length:=tG ‹_› (by omega);exact sJ (t:= .V) ‹_›)|grind)
noncomputable def PS:=RP.adk aA7
noncomputable def aC0:Con:=con (ac (aL .V) (a1 P6)) (λ(l,c)=>[l.length<=1000000,c.1.length<=1000000]) (λ(l,c)=> .bool (l.any (fgn c.1))
 )
def aBC:aC0.Okz 84:=bH PS (λ(_,_)=>[]) (λ(_,_)=>⟨_,rfl⟩) λ(l,c) hp=>bC (l.length<=1000000/\c.fst.length<=1000000/\decide (0<=fI (fgn c.fst) l)=fc l (fgn c.1)) (by kernel_rfl) (by change l.length<=1000000/\c.1.length<=1000000 at hp;exact⟨hp.1,hp.2,uX _ _⟩)
noncomputable def QC:=PS.adk aBC
noncomputable def aEd:Con:=con (ac (aL .V) (a1 aPR)) (λ(o,r)=>[ROk r,ROk o]) (λ(o,r)=> .bool (fC r o)
 )
def aCO:aEd.Okz 109:=bH QC (λ(_,_)=>[]) (λ(_,_)=>⟨_,rfl⟩) λ(o,r) hp=>bC (ROk r/\ROk o/\fC r o=fC r o) (by kernel_rfl) (by change ROk r/\ROk o at hp;grind)
noncomputable def RO:=QC.adk aCO
noncomputable def aDI:Con:=con (ac (aL .R) (a1 P5)) (λ(l,c)=>[l.length<=1000000,ROk c.1,(∀o∈l,ROk o)]) (λ(l,c)=> .iqz (fI (fC c.1) l))
def aCi:aDI.Okz 159:=bH RO (λ(l,c)=>[cnt 2 8 l.length (aO λj=>fC c.1 (aC l j)=false)]
  ) (λ(_,_)=>⟨_,rfl⟩) λ(l,c) hp=>bC (aA (fC c.1) λC=>(0=(0:Int)/\(0:Nat)<=l.length/\aO (λj=>fC c.1 (aC l j)=false) 0)/\
 (∀x:Nat,aA (x:Int) λA=>aA (aC l x) λB=>x<=l.length/\aO (λj=>fC c.1 (aC l j)=false) x->(A<l.length->ix A l.length/\ROk c.1/\ROk B/\(fC c.1 B=true->A=fI C l)/\
   (fC c.1 B=false->aH (A+1)/\A+1=((x+1:Nat):Int)/\x+1<=l.length/\aO (λj=>fC c.1 (aC l j)=false) (x+1)/\l.length-(x+1)<l.length-x))/\
  (¬A<l.length-> -1=fI C l))) (by kernel_rfl) (by
  change l.length<=1000000/\ROk c.1/\((∀o∈l,ROk o))at hp;have hm:∀x:Nat,(x:Int)<l.length->ROk (aC l x):=λx h=>hp.2.2 _ (gG (by omega))
  with_reducible ((repeat' first|apply cF|intro);all_goals repeat cases‹_/\_›)
  all_goals first|rfl|exact hm _ ‹_› |exact pm (t:= .R) (by omega) ‹_› ‹_› |(obtain rfl:_=l.length:=tG ‹_› (by omega);exact sJ (t:= .R) ‹_›)|grind)
noncomputable def Qq:=RO.adk aCi
noncomputable def c86:Con:=con (ac (aL .R) (a1 P5)) (λ(l,c)=>[l.length<=1000000,ROk c.1,(∀o∈l,ROk o)]) (λ(l,c)=> .bool (l.any (fC c.1))
 )
def k86:c86.Okz 86:=bH Qq (λ(_,_)=>[]) (λ(_,_)=>⟨_,rfl⟩) λ(l,c) hp=>bC (l.length<=1000000/\ROk c.fst/\(∀o:aD,o∈l->ROk o)/\decide (0<=fI (fC c.fst) l)=fc l (fC c.1)) (by kernel_rfl) (by change l.length<=1000000/\ROk c.1/\((∀o∈l,ROk o))at hp;exact⟨hp.1,hp.2.1,hp.2.2,uX _ _⟩)
noncomputable def t86:=Qq.adk k86
def Wr{s:Shape}(h:VS s):∀e∈bW s,ag e.a 10000=true/\ag e.b 10000=true:=by intro e he;unfold bW at he;obtain⟨r,hr,her⟩:=dI.1 he;exact Ws (h.ring hr) her
def ccA(s:Shape)(r:aD):Bool:=(!dX r||(r.any (fgn (vOf s))|| !nR s r))
def ccB(l:List aD)(i:Nat):Bool:=(l.take i).any (fC (aC l i))
def cc(s:Shape)(l:List aD)(i:Nat):Prop:=ccA s (aC l i)=false/\ccB l i=false
def arS(l:List aD)(k:Nat):Int:=((l.take k).map area).sum
def kX(s:Shape)(l:List aD):Bool:=bJ s&&((bP l.length).all λi=> !ccA s (aC l i)&& !ccB l i)&&decide (arS l l.length=mi s)
def Mk{l:List aD}{x:Nat}(h:x<l.length):arS l x+area (aC l x)=arS l (x+1):=by unfold arS;rw[kR (by omega),dQ,List.sum_append,jM (by omega)];simp
def Mg{s:Shape}{r:aD}(h:ccA s r=false):dX r=true:=by unfold ccA at h;grind
def WX{r:aD}(h:dX r=true):near r=true:=by have:=(CR.of h).near;unfold near;grind
def PJ{l:List aD}(hl:∀x:Nat,x<l.length->(aC l x).length<=1000):∀x:Nat,x<=l.length->(∀j,j<x->near (aC l j)=true)-> -(40000000000*(x:Int))<=arS l x/\arS l x<=40000000000*(x:Int)
 |0,_,_=>by unfold arS;simp
 |x+1,h,hn=>by
  have h1:=PJ hl x (by omega) λj hj=>hn j (by omega);have h2:=u4 (hn x (by omega)) (aC l x).length (bQ _);have h3:=hl x (by omega);have e:ar (aC l x) (aC l x).length=area (aC l x):=rfl;rw[<-Mk (show x<l.length by omega)];omega
noncomputable def c43:Con:=con (ac aSh (a1 (aL .R))) (λ(s,l)=>[Fit s,l.length<=1000,(∀r∈l,r.length<=1000)]) (λ(s,l)=> .bool (kX s l))
def k43:c43.Okz 43:=bH t86 (λ(s,l)=>[lp 6 22 l.length (λk=>[aO (cc s l) k]) [] (λk=>[(7,.iqz (arS l k))]) bg λk=>[jb 10 41 (ccA s (aC l k)),lp 14 49 (aC l k).length bg [] (λj=>[(7,.iqz (arS l k+ar (aC l k) j))]) bg]]
  ) (λ(_,_)=>⟨_,rfl⟩) λ(s,l) hp=>bC (aA (cc s l) λA=>Fit s/\(¬eOf s=0->false=kX s l)/\
 (¬(¬eOf s=0)->(0=(0:Int)/\0=arS l 0/\(0:Nat)<=l.length/\aO A 0)/\
  (∀x:Nat,aA (x:Int) λB=>aA (aC l x) λE=>aA (aW x l) λH=>aA (fC E) λJ=>x<=l.length/\aO A x->(B<l.length->ix B l.length/\(E.length<=1000/\((!dX E)=true->true=ccA s E)/\
     ((!dX E)=false->E.length<=1000000/\(vOf s).length<=1000000/\(fc E (fgn (vOf s))=true->true=ccA s E)/\
      (fc E (fgn (vOf s))=false->Fit s/\ROk E/\(bW s).length<=1000000/\(∀e:aEp,e∈bW s->ag e.a 10000=true/\ag e.b 10000=true)/\(!nR s E)=ccA s E)))/\
    (∀y:Unit,(ccA s E=true->false=kX s l)/\
     (ccA s E=false->(0<=B/\B<=l.length)/\H.length<=1000000/\ROk E/\(∀o:aD,o∈aW x l->ROk o)/\(fc H J=true->false=kX s l)/\
      (fc H J=false->(0=(0:Int)/\arS l x=arS l x+ar E 0/\(0:Nat)<=E.length)/\
       (∀x_1:Nat,aA (x_1+1) λC=>aA (x_1:Int) λD=>aA (aEn E (C % E.length)) λG=>aA (aEn E x_1) λI=>x_1<=E.length->(D<E.length->ix D E.length/\aH (D+1)/\(E.length:Int)≠0/\ix ((C % E.length:Nat):Int) E.length/\cOK I G/\aH (arS l x+ar E x_1+cross I G)/\aH (D+1)/\D+1=((x_1+1:Nat):Int)/\arS l x+ar E x_1+cross I G=arS l x+ar E C/\x_1+1<=E.length/\E.length-C<E.length-x_1)/\
        (¬D<E.length->aH (B+1)/\B+1=((x+1:Nat):Int)/\arS l x+ar E x_1=arS l (x+1)/\x+1<=l.length/\aO A (x+1)/\l.length-(x+1)<l.length-x))))))/\
   (¬B<l.length->Fit s/\decide (arS l x=(if bJ s=true then mi s else 0))=kX s l)))) (by kernel_rfl) (by
  change Fit s/\l.length<=1000/\((∀r∈l,r.length<=1000))at hp;obtain⟨hf,hl,hr⟩:=hp;have R:¬¬eOf s=0->aa s=true:=λh=>OB h;have hvP:¬¬eOf s=0->bJ s=true:=λh=>by rw[hZ];exact R h
  have V:¬¬eOf s=0->VS s:=λh=>vsR (R h);have hv:=pP s;have hvl:(vOf s).length<=1000000:=by omega
  have he:¬¬eOf s=0->(bW s).length<=1000000:=λh=>by have:=Is (V h);omega
  have hw:¬¬eOf s=0->∀e∈bW s,ag e.a 10000=true/\ag e.b 10000=true:=λh=>Wr (V h);have hr:∀x:Nat,(x:Int)<l.length->(aC l x).length<=1000:=λx h=>hr _ (gG (by omega));have hr6:∀x:Nat,(x:Int)<l.length->(aC l x).length<=1000000:=λx h=>by grind
  have c0:¬eOf s=0->false=kX s l:=λh=>by
   unfold kX;rw[hZ];cases e:aa s with
   |false=>rfl
   |true=>exact absurd (by unfold eOf;rw[e];rfl) h
  have a1:∀x:Nat,(!dX (aC l x))=true->true=ccA s (aC l x):=λx h=>by unfold ccA;rw[h];rfl
  have a3:∀x:Nat,fc (aC l x) (fgn (vOf s))=true->true=ccA s (aC l x):=λx h=>by unfold ccA;rw[h];simp
  have a4:∀x:Nat,(!dX (aC l x))=false->fc (aC l x) (fgn (vOf s))=false->(!nR s (aC l x))=ccA s (aC l x):=λx h2 h3=>by unfold ccA;grind
  have tO:∀x:Nat,(!dX (aC l x))=false->(x:Int)<l.length->ROk (aC l x):=λx h h2=>BC (nb h) (hr x h2);have tO2:∀x:Nat,ccA s (aC l x)=false->(x:Int)<l.length->ROk (aC l x):=λx h h2=>BC (Mg h) (hr x h2);have tO3:∀x:Nat,x<=l.length->aO (cc s l) x->∀o∈aW x l,ROk o:=λx hx h o ho=>by obtain⟨j,hj,rfl⟩:=jf ho;rw[kP]at hj;rw[List.getElem_take,<-jM (by omega)];exact tO2 j (h j (by omega)).1 (by omega)
  have tl:∀x:Nat,(aW x l).length<=1000000:=λx=>by rw[kP];omega
  have no:∀x:Nat,(ccA s (aC l x)=true\/fc (aW x l) (fC (aC l x))=true)->(x:Int)<l.length->false=kX s l:=λx h2 h=>by
   unfold kX;rw[show((bP l.length).all λi=> !ccA s (aC l i)&& !ccB l i)=false from yk.2 ⟨x,bz.2 (by omega),by
    rcases h2 with h2|h2
    .rw[h2];simp
    .rw[show ccB l x=true from h2];simp⟩]
   simp
  have nr:∀x:Nat,ccA s (aC l x)=false->near (aC l x)=true:=λx h=>WX (Mg h);have b0:∀x i:Nat,ccA s (aC l x)=false->(i:Int)<(aC l x).length->cOK (aEn (aC l x) i) (aEn (aC l x) ((i+1) % (aC l x).length)):=λx i h h2=>by have h0:=ma (nr x h) (i:=i) (by omega) (M:=2000000000);have h1:=ma (nr x h) (i:=(i+1) % (aC l x).length) (bk _ (by omega)) (M:=2000000000);have:=mU h0 h1;unfold cOK;omega
  have x1:∀x i:Nat,(i:Int)<(aC l x).length->ix (((i+1) % (aC l x).length:Nat):Int) (aC l x).length:=λx i h=>dr (bk _ (by omega));have bS:∀x:Nat,aO (cc s l) x->x<=l.length-> -(40000000000*(x:Int))<=arS l x/\arS l x<=40000000000*(x:Int):=λx h hx=>PJ (λy hy=>hr y (by omega)) x hx λj hj=>nr j (h j hj).1;have sS:∀x i:Nat,arS l x+ar (aC l x) i+cross (aEn (aC l x) i) (aEn (aC l x) ((i+1) % (aC l x).length))=arS l x+ar (aC l x) (i+1):=λx i=>by rw[At];omega
  have wS:∀x i:Nat,aO (cc s l) x->x<=l.length->ccA s (aC l x)=false->(x:Int)<l.length->(i:Int)<(aC l x).length->aH (arS l x+ar (aC l x) i+cross (aEn (aC l x) i) (aEn (aC l x) ((i+1) % (aC l x).length))):=λx i h hx h2 h3 h4=>by rw[sS];have h5:=bS x h hx;have h6:=u4 (nr x h2) (i+1) (by omega);have h7:=hr x h3;exact bT (by omega)
  have w1:∀x i:Nat,(i:Int)<(aC l x).length->(x:Int)<l.length->aH ((i:Int)+1):=λx i h h2=>bT (by grind);have z0:arS l 0=0:=rfl;have z1:∀x,ar (aC l x) 0=0:=λx=>rfl;have z2:∀x,arS l x=arS l x+ar (aC l x) 0:=λx=>by grind
  have sE:∀x i:Nat,(x:Int)<l.length->¬(i:Int)<(aC l x).length->i<=(aC l x).length->arS l x+ar (aC l x) i=arS l (x+1):=λx i h h2 h3=>by
   obtain rfl:i=(aC l x).length:=by omega
   rw[<-Mk (show x<l.length by omega)];rfl
  have st:∀x:Nat,aO (cc s l) x->ccA s (aC l x)=false->fc (aW x l) (fC (aC l x))=false->aO (cc s l) (x+1):=λx h h1 h2=>cP h ⟨h1,h2⟩;have yE:¬¬eOf s=0->∀x:Nat,aO (cc s l) x->¬(x:Int)<l.length->x<=l.length->decide (arS l x=(if bJ s=true then mi s else 0))=kX s l:=λh x h3 h1 h2=>by
   obtain rfl:x=l.length:=by omega
   unfold kX;rw[if_pos (hvP h),hvP h,show((bP l.length).all λi=> !ccA s (aC l i)&& !ccB l i)=true from bZ.2 λi hi=>by obtain⟨g1,g2⟩:=h3 i (bz.1 hi);grind]
   simp
  clear V nr bS hvP R
  repeat' first|with_reducible apply cF|with_reducible intro
  all_goals repeat with_reducible cases‹_/\aO _ _›
  all_goals first|rfl|with_reducible solve_by_elim|with_reducible rfl|(with_reducible exact c0 ‹_›)|(with_reducible exact he ‹_›)|(with_reducible exact(hw ‹_› _ ‹_›).1)|(with_reducible exact(hw ‹_› _ ‹_›).2)|(with_reducible exact hr _ ‹_›)|(with_reducible exact hr6 _ ‹_›)|(with_reducible exact a1 _ ‹_›)|(with_reducible exact a3 _ ‹_›)|(with_reducible exact a4 _ ‹_› ‹_›)|(with_reducible exact tO _ ‹_› ‹_›)|(with_reducible exact tO2 _ ‹_› ‹_›)|(with_reducible exact tO3 _ ‹_› ‹_› _ ‹_›)|(with_reducible exact tl _)|(with_reducible exact no _ (.inl ‹_›) ‹_›)|(with_reducible exact no _ (.inr ‹_›) ‹_›)|(with_reducible first|exact sS _ _|exact z2 _)|exact z0.symm|(with_reducible exact yE ‹_› _ ‹_› ‹_› ‹_›)|grind)
noncomputable def t43:=t86.adk k43
def mmC(r o:aD):Bool:=dX r&&(dX o&&fC r o)
def mmR(a b:List aD)(i:Nat):Bool:=b.any λo=>mmC (aC a i) o
noncomputable def c46:Con:=con (ac (aL .R) (a1 (aL .R))) (λ(a,b)=>[a.length<=1000,(∀r∈a,r.length<=1000),b.length<=1000,(∀r∈b,r.length<=1000)]) (λ(a,b)=> .bool (aEy a b))
def k46:c46.Okz 46:=bH t43 (λ(a,b)=>[lp 2 11 a.length (λi=>[aO (λi=>mmR a b i=false) i]) [] bg bg λi=>[cnt 5 17 b.length (aO λk=>mmC (aC a i) (aC b k)=false) λk=>[jb 8 31 (mmC (aC a i) (aC b k))]]]
  ) (λ(_,_)=>⟨_,rfl⟩) λ(a,b) hp=>bC ((0=(0:Int)/\(0:Nat)<=a.length/\aO (λi=>mmR a b i=false) 0)/\
 (∀x:Nat,aA (x:Int) λA=>aA (aC a x) λC=>x<=a.length/\aO (λi=>mmR a b i=false) x->(A<a.length->ix A a.length/\(0=(0:Int)/\(0:Nat)<=b.length/\aO (λk=>mmC C (aC b k)=false) 0)/\
   (∀x_1:Nat,aA (x_1:Int) λB=>aA (aC b x_1) λD=>x_1<=b.length/\aO (λk=>mmC C (aC b k)=false) x_1->(B<b.length->ix B b.length/\(C.length<=1000/\(dX C=true->D.length<=1000/\(dX D=true->ROk C/\ROk D/\fC C D=mmC C D)/\
       (dX D=false->false=mmC C D))/\
      (dX C=false->false=mmC C D))/\
     (∀y:Unit,(mmC C D=true->true=aEy a b)/\
      (mmC C D=false->aH (B+1)/\B+1=((x_1+1:Nat):Int)/\x_1+1<=b.length/\aO (λk=>mmC C (aC b k)=false) (x_1+1)/\b.length-(x_1+1)<b.length-x_1)))/\
    (¬B<b.length->aH (A+1)/\A+1=((x+1:Nat):Int)/\x+1<=a.length/\aO (λi=>mmR a b i=false) (x+1)/\a.length-(x+1)<a.length-x)))/\
  (¬A<a.length->false=aEy a b))) (by kernel_rfl) (by
  change a.length<=1000/\((∀r∈a,r.length<=1000))/\b.length<=1000/\((∀r∈b,r.length<=1000))at hp;obtain⟨hla,ha,hlb,hb⟩:=hp;have la:∀x:Nat,(x:Int)<a.length->(aC a x).length<=1000:=λx h=>ha _ (gG (by omega));have lb:∀x:Nat,(x:Int)<b.length->(aC b x).length<=1000:=λx h=>hb _ (gG (by omega));have oa:∀x:Nat,dX (aC a x)=true->(x:Int)<a.length->ROk (aC a x):=λx h h2=>BC h (la x h2);have ob:∀x:Nat,dX (aC b x)=true->(x:Int)<b.length->ROk (aC b x):=λx h h2=>BC h (lb x h2);have m1:∀r o:aD,dX r=true->dX o=true->fC r o=mmC r o:=λr o h1 h2=>by unfold mmC;grind
  have m2:∀r o:aD,dX o=false->false=mmC r o:=λr o h=>by unfold mmC;rw[h];simp
  have m3:∀r o:aD,dX r=false->false=mmC r o:=λr o h=>by unfold mmC;rw[h];rfl
  have m4:∀r o:aD,dX r=true->dX o=true->(!Fx r o)=mmC r o:=λr o h1 h2=>by rw[<-m1 r o h1 h2,Th (CR.of h1) (CR.of h2)]
  have v9:∀r:aD,∀v,v∈r->dX r=true->bd 1000000000 v:=λr v hv h=>(Da ((CR.of h).near v hv)).mono;have yes:∀x y:Nat,mmC (aC a x) (aC b y)=true->(x:Int)<a.length->(y:Int)<b.length->true=aEy a b:=λx y h h1 h2=>
   (lO.2 ⟨_,gG (show x<a.length by omega),lO.2 ⟨_,gG (show y<b.length by omega),h⟩⟩).symm
  have st:∀x y:Nat,aO (λk=>mmC (aC a x) (aC b k)=false) y->¬(y:Int)<b.length->y<=b.length->mmR a b x=false:=λx y h h1 h2=>by
   obtain rfl:y=b.length:=by omega
   exact GV (t:= .R) (l:=b) (q:=λo=>mmC (aC a x) o) h
  have fin:∀x:Nat,aO (λi=>mmR a b i=false) x->¬(x:Int)<a.length->x<=a.length->false=aEy a b:=λx h h1 h2=>by
   obtain rfl:x=a.length:=by omega
   exact(GV (t:= .R) (l:=a) (q:=λr=>b.any λo=>dX r&&(dX o&&fC r o)) h).symm
  with_reducible ((repeat' first|apply cF|intro);all_goals repeat cases‹_/\_›)
  all_goals first|rfl|with_reducible solve_by_elim|(with_reducible first|assumption|rfl)|exact cP ‹_› (st _ _ ‹_› ‹_› ‹_›)|grind)
noncomputable def t46:=t43.adk k46
def rfP(k:Nat)(r:aD)(i:Nat):Bool:=(decide (k=0)&&decide (turn (aEn r ((i+r.length-1) % r.length)) (aEn r i) (aEn r ((i+1) % r.length))<0))||(decide (0<k)&&decide (0<turn (aEn r ((i+r.length-1) % r.length)) (aEn r i) (aEn r ((i+1) % r.length))))
def rfR(k:Nat)(r:aD)(i:Nat):Nat:=((bP i).filter (rfP k r)).length
def rfS(R:List aD):Nat->Nat
 |0=>0
 |k+1=>rfS R k+rfR k (aC R k) (aC R k).length
def p7(s:Shape):Nat:=if bJ s=true then rfS (aE s) (aE s).length else 0
noncomputable def c53:Con:=con (a1 aSh) (λs=>[Fit s]) (λs=> .iqz (p7 s:Nat))
def k53:c53.Okz 53:=bH t46 (λs=>[lp 5 15 (aE s).length bg [] (λk=>[(3,.iqz (rfS (aE s) k:Nat))]) bg λk=>[lp 8 22 (aC (aE s) k).length bg [] (λi=>[(3,.iqz (rfS (aE s) k+rfR k (aC (aE s) k) i:Nat))]) bg λi=>[jb 12 61 (rfP k (aC (aE s) k) i),jU 13 [(3,.iqz (rfS (aE s) k+rfR k (aC (aE s) k) (i+1):Nat))]]]]
  ) (λ_=>⟨_,rfl⟩) λs hp=>bC (aA (0:Nat) λC=>aA (aE s) λE=>aA (!bJ s) λL=>Fit s/\(L=true->0=(p7 s:Int))/\
 (L=false->Fit s/\C<s.outer.length/\(∀r:aD,r∈s.holes->C<r.length)/\(0=(0:Int)/\0=(rfS E 0:Int)/\C<=E.length)/\
  (∀x:Nat,aA (x:Int) λA=>aA (aC E x) λF=>aA (rfS E x:Int) λJ=>aA (F.length:Int) λK=>x<=E.length->(A<E.length->ix A E.length/\(0=(0:Int)/\J=((rfS E x+rfR x F 0:Nat):Int)/\C<=F.length)/\
    (∀x_1:Nat,aA (x_1+1) λB=>aA (x_1:Int) λD=>aA (aEn F (B % F.length)) λH=>aA (aEn F x_1) λI=>aA (D+F.length-1) λM=>aA (c8 M K) λN=>aA (aEn F N.toNat) λO=>aA ((rfS E x+rfR x F B:Nat):Int) λQ=>aA ((rfS E x+rfR x F x_1:Nat):Int) λS=>x_1<=F.length->(D<F.length->(ix D F.length/\aH (D+F.length)/\aH M/\K≠0/\ix N F.length/\aH (D+1)/\K≠0/\ix ((B % F.length:Nat):Int) F.length/\bd 1000000000 O/\bd 1000000000 I/\bd 1000000000 H/\((A=0->(turn O I H<0->true=rfP x F x_1)/\
         (¬turn O I H<0->(0<A->decide (0<turn O I H)=rfP x F x_1)/\
          (¬0<A->false=rfP x F x_1)))/\
        (¬A=0->(0<A->decide (0<turn O I H)=rfP x F x_1)/\
         (¬0<A->false=rfP x F x_1)))/\
       (∀y:Unit,(rfP x F x_1=true->aH (S+1)/\S+1=Q)/\
        (rfP x F x_1=false->S=Q)))/\
      (∀y:Unit,aH (D+1)/\D+1=((x_1+1:Nat):Int)/\Q=Q/\x_1+1<=F.length/\F.length-B<F.length-x_1))/\
     (¬D<F.length->aH (A+1)/\A+1=((x+1:Nat):Int)/\S=rfS E (x+1)/\x+1<=E.length/\E.length-(x+1)<E.length-x)))/\
   (¬A<E.length->J=p7 s)))) (by kernel_rfl) (by
  change Fit s at hp;have V:(!bJ s)=false->VS s:=λh=>(kS s).1 (nb h);have lR:(aE s).length<=2000:=by have:=hp.2.1;unfold aE;rw[gY];omega
  have e0:(!bJ s)=true->0=(p7 s:Int):=λh=>by unfold p7;grind
  have o1:(!bJ s)=false->0<s.outer.length:=λh=>by have:=(V h).outer.three;omega
  have o2:(!bJ s)=false->∀r∈s.holes,0<r.length:=λh r hr=>by have:=((V h).ring (show r∈aE s from cB _ hr)).three;omega
  have rg:(!bJ s)=false->∀x:Nat,(x:Int)<(aE s).length->VR (aC (aE s) x):=λh x hx=>(V h).ring (gG (by omega));have l40:(!bJ s)=false->∀x:Nat,(x:Int)<(aE s).length->(aC (aE s) x).length<=40:=λh x hx=>(rg h x hx).most;have tm:∀x i:Nat,(i:Int)<(aC (aE s) x).length->c8 ((i:Int)+(aC (aE s) x).length-1) ((aC (aE s) x).length:Int)=(((i+(aC (aE s) x).length-1) % (aC (aE s) x).length:Nat):Int):=λx i h=>by grind
  have x1:∀x i:Nat,(i:Int)<(aC (aE s) x).length->ix (c8 ((i:Int)+(aC (aE s) x).length-1) ((aC (aE s) x).length:Int)) (aC (aE s) x).length:=λx i h=>by rw[tm x i h];exact dr (bk _ (by omega))
  have x2:∀x i:Nat,(i:Int)<(aC (aE s) x).length->ix (((i+1) % (aC (aE s) x).length:Nat):Int) (aC (aE s) x).length:=λx i h=>dr (bk _ (by omega));have bN:(!bJ s)=false->∀x:Nat,(x:Int)<(aE s).length->∀i:Nat,i<(aC (aE s) x).length->bd 1000000000 (aEn (aC (aE s) x) i):=λh x hx i hi=>ma (rg h x hx).near hi (by decide);have b1:(!bJ s)=false->∀x i:Nat,(i:Int)<(aC (aE s) x).length->(x:Int)<(aE s).length->bd 1000000000 (aEn (aC (aE s) x) (c8 ((i:Int)+(aC (aE s) x).length-1) ((aC (aE s) x).length:Int)).toNat):=λh x i hi hx=>by rw[tm x i hi,i7];exact bN h x hx _ (bk _ (by omega))
  have b2:(!bJ s)=false->∀x i:Nat,(i:Int)<(aC (aE s) x).length->(x:Int)<(aE s).length->bd 1000000000 (aEn (aC (aE s) x) i):=λh x i hi hx=>bN h x hx i (by omega);have b3:(!bJ s)=false->∀x i:Nat,(i:Int)<(aC (aE s) x).length->(x:Int)<(aE s).length->bd 1000000000 (aEn (aC (aE s) x) ((i+1) % (aC (aE s) x).length)):=λh x i hi hx=>bN h x hx _ (bk _ (by omega));have p1:∀x i:Nat,(i:Int)<(aC (aE s) x).length->(x:Int)=0->turn (aEn (aC (aE s) x) (c8 ((i:Int)+(aC (aE s) x).length-1) ((aC (aE s) x).length:Int)).toNat) (aEn (aC (aE s) x) i) (aEn (aC (aE s) x) ((i+1) % (aC (aE s) x).length))<0->true=rfP x (aC (aE s) x) i:=λx i h h2 h3=>by rw[tm x i h,i7]at h3;unfold rfP;grind
  have p2:∀x i:Nat,(i:Int)<(aC (aE s) x).length->0<(x:Int)->decide (0<turn (aEn (aC (aE s) x) (c8 ((i:Int)+(aC (aE s) x).length-1) ((aC (aE s) x).length:Int)).toNat) (aEn (aC (aE s) x) i) (aEn (aC (aE s) x) ((i+1) % (aC (aE s) x).length)))=rfP x (aC (aE s) x) i:=λx i h h2=>by rw[tm x i h,i7];unfold rfP;rw[decide_eq_false (show¬x=0 by omega),decide_eq_true (show 0<x by omega)];simp
  have p3:∀x i:Nat,(i:Int)<(aC (aE s) x).length->¬turn (aEn (aC (aE s) x) (c8 ((i:Int)+(aC (aE s) x).length-1) ((aC (aE s) x).length:Int)).toNat) (aEn (aC (aE s) x) i) (aEn (aC (aE s) x) ((i+1) % (aC (aE s) x).length))<0->¬0<(x:Int)->false=rfP x (aC (aE s) x) i:=λx i h h3 h2=>by rw[tm x i h,i7]at h3;unfold rfP;grind
  have p4:∀x i:Nat,¬(x:Int)=0->¬0<(x:Int)->false=rfP x (aC (aE s) x) i:=λx i h h2=>by omega
  have q1:∀x i:Nat,rfP x (aC (aE s) x) i=true->rfR x (aC (aE s) x) (i+1)=rfR x (aC (aE s) x) i+1:=λx i h=>by unfold rfR;rw[vZ,vQ,List.filter_cons_of_pos h,fw];rfl
  have q2:∀x i:Nat,rfP x (aC (aE s) x) i=false->rfR x (aC (aE s) x) (i+1)=rfR x (aC (aE s) x) i:=λx i h=>by unfold rfR;rw[vZ,vQ,List.filter_cons_of_neg (by rw[h];simp)];simp
  have q3:∀x i:Nat,rfR x (aC (aE s) x) i<=i:=λx i=>by have:=List.length_filter_le (rfP x (aC (aE s) x)) (bP i);rw[Hu]at this;exact this
  have q4:(!bJ s)=false->∀x:Nat,x<=(aE s).length->rfS (aE s) x<=40*x:=λh x=>by
   induction x with
   |zero=>intro _;exact bQ _
   |succ x ih=>
    intro hx;have h1:=ih (by omega);have h2:=q3 x (aC (aE s) x).length;have h3:=l40 h x (by omega);show rfS (aE s) x+rfR x (aC (aE s) x) (aC (aE s) x).length<=_;omega
  have w1:(!bJ s)=false->∀x i:Nat,(i:Int)<(aC (aE s) x).length->(x:Int)<(aE s).length->aH (((rfS (aE s) x+rfR x (aC (aE s) x) i:Nat):Int)+1):=λh x i hi hx=>by have h1:=q4 h x (by omega);have h2:=q3 x i;have h3:=l40 h x hx;exact bT (by omega)
  have w2:(!bJ s)=false->∀x i:Nat,(i:Int)<(aC (aE s) x).length->(x:Int)<(aE s).length->aH ((i:Int)+(aC (aE s) x).length)/\aH ((i:Int)+(aC (aE s) x).length-1)/\aH ((i:Int)+1):=λh x i hi hx=>by have h3:=l40 h x hx;exact⟨bT (by omega),bT (by omega),bT (by omega)⟩
  have w3:∀x:Nat,(x:Int)<(aE s).length->aH ((x:Int)+1):=λx hx=>bT (by omega);have s1:∀x i:Nat,rfP x (aC (aE s) x) i=true->((rfS (aE s) x+rfR x (aC (aE s) x) i:Nat):Int)+1=((rfS (aE s) x+rfR x (aC (aE s) x) (i+1):Nat):Int):=λx i h=>by grind
  have s2:∀x i:Nat,rfP x (aC (aE s) x) i=false->((rfS (aE s) x+rfR x (aC (aE s) x) i:Nat):Int)=((rfS (aE s) x+rfR x (aC (aE s) x) (i+1):Nat):Int):=λx i h=>by rw[q2 x i h]
  have s3:∀x i:Nat,¬(i:Int)<(aC (aE s) x).length->i<=(aC (aE s) x).length->((rfS (aE s) x+rfR x (aC (aE s) x) i:Nat):Int)=rfS (aE s) (x+1):=λx i h h2=>by
   obtain rfl:i=(aC (aE s) x).length:=by omega
   rfl
  have s4:(!bJ s)=false->∀x:Nat,¬(x:Int)<(aE s).length->x<=(aE s).length->(rfS (aE s) x:Int)=p7 s:=λh x h1 h2=>by
   obtain rfl:x=(aE s).length:=by omega
   unfold p7;grind
  have s5:∀x:Nat,(rfS (aE s) x:Int)=((rfS (aE s) x+rfR x (aC (aE s) x) 0:Nat):Int):=λx=>rfl;clear V rg bN tm q1 q2 q3 q4
  repeat' first|with_reducible apply cF|with_reducible intro
  all_goals repeat with_reducible cases‹_/\_›
  all_goals first|rfl|with_reducible solve_by_elim|(with_reducible first|assumption|rfl|exact o2 ‹_› _ ‹_› |exact b1 ‹_› _ _ ‹_› ‹_› |exact b2 ‹_› _ _ ‹_› ‹_› |exact b3 ‹_› _ _ ‹_› ‹_› |exact w1 ‹_› _ _ ‹_› ‹_› |exact(w2 ‹_› _ _ ‹_› ‹_›).1|exact(w2 ‹_› _ _ ‹_› ‹_›).2.1|exact(w2 ‹_› _ _ ‹_› ‹_›).2.2|exact s4 ‹_› _ ‹_› ‹_› |exact s5 _)|omega|(unfold ix;omega)|(unfold aH;omega))
noncomputable def t53:=t46.adk k53
def sqR:aD:=[⟨0,0⟩,⟨3,0⟩,⟨3,3⟩,⟨0,3⟩]
def awR:aD:=[⟨0,0⟩,⟨2,1⟩,⟨4,0⟩,⟨2,4⟩]
instance(lt:Int->Int->Bool)(l:List Int):Decidable (OrdOn lt l):=decidable_of_iff ((∀x∈l,∀y∈l,∀z∈l,lt x y=true->lt y z=true->lt x z=true)/\(∀x∈l,∀y∈l,lt x y=true->lt y x=false)/\(∀x∈l,∀y∈l,lt x y=false->lt y x=false->x=y)) ⟨λh=>⟨h.1,h.2.1,h.2.2⟩,λh=>⟨h.1,h.2,h.3⟩⟩
instance(v:List V)(L:List (List Int))(i j:Nat):Decidable (ArOk v L i j):=decidable_of_iff (i<L.length/\(j:Int)∈ae L i/\(∀x∈ae L i,0<=x/\x.toNat<v.length)/\(ae L i).length<=1000000) ⟨λh=>⟨h.1,h.2.1,h.2.2.1,h.2.2.2⟩,λh=>⟨h.1,h.2,h.3,h.4⟩⟩
instance(s:Shape):Decidable (GOk s):=inferInstanceAs (Decidable (∀k,k<(vOf s).length->0<(ae (oD s) k).length/\(∀x∈ae (oD s) k,0<=x/\x.toNat<(vOf s).length)/\OrdOn (ltA (vOf s) k) (ae (oD s) k)))
instance(s:Shape):Decidable (SOk s):=inferInstanceAs (Decidable (∀k,k<(pG s).length->ArOk (vOf s) (sG s k).1 (aX (pG s) k).1 (aX (pG s) k).2/\ArOk (vOf s) (sG s k).1 (aX (pG s) k).2 (aX (pG s) k).1/\(aX (pG s) k).2≠(aX (pG s) k).1))
def PcB(s:Shape):Prop:=(∀i,i<(soG s).length->∀x∈ae (soG s) i,ArOk (vOf s) (soG s) i x.toNat/\ArOk (vOf s) (soG s) x.toNat i)/\(∀h∈hsG s,ArOk (vOf s) (soG s) h.2 h.1)/\(∀i,i<(vOf s).length->0<=cu (nG s) i)/\
 ∀k,k<(hsG s).length->0<(trc (vOf s) (soG s) (trU (vOf s)) (pcK s k).1 (aX (hsG s) k) []).2.length->(trc (vOf s) (soG s) (trU (vOf s)) (pcK s k).1 (aX (hsG s) k) []).2.length<=1000/\0<(dH (trc (vOf s) (soG s) (trU (vOf s)) (pcK s k).1 (aX (hsG s) k) []).2).length
def PcB.ok{s:Shape}(h:PcB s):nA s:=by
 refine⟨λi j hj=> ?_,h.2⟩;have hi:i<(soG s).length:=by
  rcases Nat.lt_or_ge i (soG s).length with h1|h1
  .exact h1
  .unfold ae at hj;grind
 have:=h.1 i hi _ hj;grind
instance(s:Shape):Decidable (PcB s):=by unfold PcB;infer_instance
def sqS:Shape:=⟨sqR,[]⟩
def awS:Shape:=⟨awR,[]⟩
def Gd:GOk sqS/\SOk sqS/\PcB sqS:=by decide+kernel
def Gz:GOk awS/\SOk awS/\PcB awS:=by decide+kernel
def PZ:bJ sqS=true/\pcG sqS=[sqR] :=by decide+kernel
def Pz:bJ awS=true/\pcG awS=[[⟨0,0⟩,⟨2,1⟩,⟨2,4⟩],[⟨4,0⟩,⟨2,4⟩,⟨2,1⟩]] :=by decide+kernel
def G0:kX awS [[⟨0,0⟩,⟨2,1⟩,⟨2,4⟩],[⟨4,0⟩,⟨2,4⟩,⟨2,1⟩]] =true/\aEy [sqR] [[⟨0,0⟩,⟨2,1⟩,⟨2,4⟩],[⟨4,0⟩,⟨2,4⟩,⟨2,1⟩]] =true/\p7 awS=1:=by decide+kernel
def Z6:Fit sqS:=⟨by decide,by decide,λr h=>(cl h).elim⟩
def GU:Fit awS:=⟨by decide,by decide,λr h=>(cl h).elim⟩
def aAX:eV sqS=0:=by unfold eV;rw[PZ.1];rfl
def aBp:eV awS=0:=by unfold eV;rw[Pz.1];rfl
noncomputable def c41:Con:=con (a0) (λ_=>[]) (λ_=> .bool true)
def k41:c41.Okz 41:=bH t53 (λ_=>[(10002,.mk Unit (λ_ _=>some ()) [] bg (λ_=>[(1,.lst .V sqR)]) bg (λ_=>0) bg),(10003,.mk Unit (λ_ _=>some ()) [7] bg (λ_=>[(2,.ptr 7 0)]) (λ_=>[(7,.box 26 [.lst .V awR,.nil])]) (λ_=>0) bg)]
  ) (λ_=>⟨_,rfl⟩) λ_ _=>bC ([(⟨0,0⟩:V),(⟨3,0⟩:V),(⟨3,3⟩:V),(⟨0,3⟩:V)] =sqR/\
 (∀y:Unit,[(⟨0,0⟩:V),(⟨2,1⟩:V),(⟨4,0⟩:V),(⟨2,4⟩:V)] =awR/\
  (∀y_1:Unit,Fit (⟨sqR,([] :List (List V))⟩:Shape)/\(bJ (⟨sqR,([] :List (List V))⟩:Shape)=true->GOk (⟨sqR,([] :List (List V))⟩:Shape)/\SOk (⟨sqR,([] :List (List V))⟩:Shape)/\nA (⟨sqR,([] :List (List V))⟩:Shape))/\Fit (⟨awR,([] :List (List V))⟩:Shape)/\(bJ (⟨awR,([] :List (List V))⟩:Shape)=true->GOk (⟨awR,([] :List (List V))⟩:Shape)/\SOk (⟨awR,([] :List (List V))⟩:Shape)/\nA (⟨awR,([] :List (List V))⟩:Shape))/\(eV (⟨sqR,([] :List (List V))⟩:Shape)=0->(eV (⟨awR,([] :List (List V))⟩:Shape)=0->(pcG (⟨sqR,([] :List (List V))⟩:Shape)).length<=1000000/\(∀r:aD,r∈pcG (⟨sqR,([] :List (List V))⟩:Shape)->r.length<=100000)/\((pcG (⟨sqR,([] :List (List V))⟩:Shape)==[sqR])=true->(((pcG (⟨awR,([] :List (List V))⟩:Shape)).length:Int)=2->Fit (⟨awR,([] :List (List V))⟩:Shape)/\(pcG (⟨awR,([] :List (List V))⟩:Shape)).length<=1000/\(∀r:aD,r∈pcG (⟨awR,([] :List (List V))⟩:Shape)->r.length<=1000)/\(kX (⟨awR,([] :List (List V))⟩:Shape) (pcG (⟨awR,([] :List (List V))⟩:Shape))=true->(pcG (⟨sqR,([] :List (List V))⟩:Shape)).length<=1000/\(∀r:aD,r∈pcG (⟨sqR,([] :List (List V))⟩:Shape)->r.length<=1000)/\(pcG (⟨awR,([] :List (List V))⟩:Shape)).length<=1000/\(∀r:aD,r∈pcG (⟨awR,([] :List (List V))⟩:Shape)->r.length<=1000)/\(aEy (pcG (⟨sqR,([] :List (List V))⟩:Shape)) (pcG (⟨awR,([] :List (List V))⟩:Shape))=true->Fit (⟨awR,([] :List (List V))⟩:Shape)/\decide ((p7 (⟨awR,([] :List (List V))⟩:Shape):Int)=1)=true)/\
        (aEy (pcG (⟨sqR,([] :List (List V))⟩:Shape)) (pcG (⟨awR,([] :List (List V))⟩:Shape))=false->false=true))/\
       (kX (⟨awR,([] :List (List V))⟩:Shape) (pcG (⟨awR,([] :List (List V))⟩:Shape))=false->false=true))/\
      (¬((pcG (⟨awR,([] :List (List V))⟩:Shape)).length:Int)=2->false=true))/\
     ((pcG (⟨sqR,([] :List (List V))⟩:Shape)==[sqR])=false->false=true))/\
    (¬eV (⟨awR,([] :List (List V))⟩:Shape)=0->false=true))/\
   (¬eV (⟨sqR,([] :List (List V))⟩:Shape)=0->false=true)))) (by kernel_rfl) (by
  rw[show(⟨sqR,([] :List (List V))⟩:Shape)=sqS from rfl,show(⟨awR,([] :List (List V))⟩:Shape)=awS from rfl,aAX,aBp,PZ.2,Pz.2,G0.1,G0.2.1,G0.2.2];have lo:∀n:Nat,4<=n->∀r∈([[⟨0,0⟩,⟨2,1⟩,⟨2,4⟩],[⟨4,0⟩,⟨2,4⟩,⟨2,1⟩]] :List aD),r.length<=n:=λn hn r hr=>by grind
  have lq:∀n:Nat,4<=n->∀r∈[sqR],r.length<=n:=λn hn r hr=>by rw[bh.1 hr];exact hn
  refine⟨rfl,λ_=>⟨rfl,λ_=>⟨Z6,λ_=>⟨Gd.1,Gd.2.1,Gd.2.2.ok⟩,GU,λ_=>⟨Gz.1,Gz.2.1,Gz.2.2.ok⟩,⟨λ_=>⟨λ_=>⟨by decide,lq _ (by decide),⟨λ_=>⟨λ_=>⟨GU,by decide,lo _ (by decide),⟨λ_=>⟨by decide,lq _ (by decide),by decide,lo _ (by decide),⟨λ_=>⟨GU,by decide⟩,λh=>(by cases h)⟩⟩,λh=>(by cases h)⟩⟩,λh=>absurd (by decide) h⟩,λh=>absurd h (by decide)⟩⟩,λh=>absurd rfl h⟩,λh=>absurd rfl h⟩⟩⟩⟩)
section
open Go.ChangeShapes Go.WideShapes Go.ChangeAt Go.RowKit Go.Joins Go.Deep
def Tryz.own:ownKnob bD.godebug=none:=by kernel_rfl
def Tryz.laidOut:laidOutB bD=true:=by kernel_rfl
def Zl:bD.cellsOf 26=2:=by kernel_rfl
def OJ:bD.cellsOf 44=2:=by kernel_rfl
def Zm:bD.cellsOf 23=1:=by kernel_rfl
def Zo:bD.bytesOf 44=16:=by kernel_rfl
def Zp:bD.bytesOf 23=24:=by kernel_rfl
def KJ{C:bF}:∀(l:List aEo) (b o:Nat),(∀i (h:i<l.length),C b (o+i*2) (.int .i64 l[i].x)/\C b (o+i*2+1) (.int .i64 l[i].y))->cK C (fU l) b o
 |[],b,o,_=>by show cK C [] b o;unfold cK;trivial
 |v::l,b,o,h=>by
  show cK C (.int .i64 v.x:: .int .i64 v.y::fU l) b o;have h0:=h 0 (by simp);unfold cK;refine⟨⟨_,by simpa using h0.1,rfl,by unfold aU;rfl⟩,?_⟩;unfold cK;refine⟨⟨_,by simpa using h0.2,rfl,by unfold aU;rfl⟩,?_⟩;refine KJ l b (o+1+1) λi hi=> ?_;have:=h (i+1) (by grind);grind
def JP{C:bF}:∀(l:List aD) (b o:Nat),(∀i (h:i<l.length),∃u,C b (o+i) u/\u.oneCell'=true/\aU C (gD l[i]) u)->cK C (l.map gD) b o
 |[],b,o,_=>by simp only[List.map_nil];unfold cK;trivial
 |r::l,b,o,h=>by
  simp only[cT];unfold cK;refine⟨h 0 (by simp),JP l b (o+1) λi hi=> ?_⟩;have:=h (i+1) (by grind);grind
section
variable {H:Type} {enc:TypeId×Value->H} {w:World} {base:Nat} {spare:Nat->Bool} {held:Bool}
def KO{fuel:Nat}{v:Value}{y:DataW H×List MemPlace}(h:DataW.trod enc bD w base spare held fuel 23 [v] =some y):
  ∃r:aD,aU (l9 w) (gD r) v/\v.oneCell'=true/\∀B,(∀n∈mQ bD 23 y.1,n<=B)->r.length*16<=B:=by
 rcases open_slice_pairs SO IG OJ rfl rfl (by kernel_rfl) (by kernel_rfl) h with⟨h1,h2⟩|⟨a,len,cap,m,n,V0,V1,D0,D1,P0,P1,h1,_,hl,_,hm,hx,hc⟩
 .simp only[nK,and_true]at h1;subst h1;refine⟨[],?_,rfl,λB _=>by simp⟩;unfold gD aU;exact⟨none,0,rfl,bQ _,λ_=>⟨rfl,rfl⟩,λad e=>by cases e⟩
 .simp only[nK,and_true]at h1;subst h1;have hlm:len<=m:=by rw[hm];split<;>omega
  have hint:∀i,i<m->∃p:Int×Int,V0 i= .int .i64 p.1/\V1 i= .int .i64 p.2:=by intro i hi;obtain⟨_,_,g3,g4⟩:=hc i hi;obtain⟨p,hp,_⟩:=IR o4 g3;obtain⟨q,hq,_⟩:=IR o4 g4;simp only[nK,and_true]at hp hq;exact⟨(p,q),hp,hq⟩
  obtain⟨f,hf⟩:=choose_lt (α:=Int×Int) (p:=λi p=>V0 i= .int .i64 p.1/\V1 i= .int .i64 p.2) hint;refine⟨(bP len).map λi=>⟨(f i).1,(f i).2⟩,?_,rfl,λB hB=> ?_⟩
  .unfold gD aU;refine⟨some a,cap,by simp,by grind,(λe=>by cases e),λad e=> ?_⟩;cases e;refine⟨λhpos=> ?_,KJ _ _ _ λi hi=> ?_⟩
   .have h0:=(hc 0 (by grind)).1;simpa[Cc]using IS h0
   .simp only[cL,Hu]at hi;obtain⟨g1,g2,_⟩:=hc i (by omega);obtain⟨e0,e1⟩:=hf i (by omega);have hs:a.spot=none:=by simpa[Cc]using IS (hc 0 (by omega)).1
    obtain⟨b,off,sp⟩:=a;dsimp only at hs;subst hs;rw[e0]at g1;rw[e1]at g2;simp only[iZ,qC];unfold l9;rw[vT]at g1 g2;grind
  .have:=hB ((len+(m-len))*16) (by rw[hx];simp[mQ,SO,Zo]);grind
def UW{fuel:Nat}{v:Value}{y:DataW H×List MemPlace}(h:DataW.trod enc bD w base spare held fuel 24 [v] =some y):
  ∃l:List aD,aU (l9 w) (nt l) v/\v.oneCell'=true/\∀B,(∀n∈mQ bD 24 y.1,n<=B)->l.length*24<=B/\∀r∈l,r.length*16<=B:=by
 rcases open_slice1 Co Zm h with⟨h1,h2⟩|⟨a,len,cap,m,n,V,D,Pl,h1,_,hl,_,hm,hx,hc⟩
 .simp only[nK,and_true]at h1;subst h1;refine⟨[],?_,rfl,λB _=>⟨by simp,λr hr=>by cases hr⟩⟩;unfold nt aU;grind
 .simp only[nK,and_true]at h1;subst h1;have hlm:len<=m:=by rw[hm];split<;>omega
  have hring:∀i,i<m->∃r:aD,aU (l9 w) (gD r) (V i)/\(V i).oneCell'=true/\∀B,(∀n∈mQ bD 23 (D i),n<=B)->r.length*16<=B:=λi hi=>KO (hc i hi).2;obtain⟨f,hf⟩:=choose_lt (α:=aD) (p:=λi r=>aU (l9 w) (gD r) (V i)/\(V i).oneCell'=true/\∀B,(∀n∈mQ bD 23 (D i),n<=B)->r.length*16<=B) hring;refine⟨(bP len).map f,?_,rfl,λB hB=> ?_⟩
  .unfold nt aU;refine⟨some a,cap,by simp,by grind,(λe=>by cases e),λad e=> ?_⟩;cases e;refine⟨λhpos=> ?_,JP _ _ _ λi hi=> ?_⟩
   .have h0:=(hc 0 (by grind)).1;simpa[Cc]using IS h0
   .simp only[cL,Hu]at hi;have g1:=(hc i (by omega)).1;have hs:a.spot=none:=by simpa[Cc]using IS (hc 0 (by omega)).1
    obtain⟨b,off,sp⟩:=a;dsimp only at hs;subst hs;rw[vT]at g1;simp only[iZ,qC];exact⟨V i,g1,(hf i (by omega)).2.1,(hf i (by omega)).1⟩
  .have hw:∀x,x∈mQ bD 24 (DataW.slice ((bP len).map D) ((bP (m-len)).map λj=>D (len+j)))->x<=B:=by rw[hx]at hB;exact hB
   have hmem:∀{l:List (DataW H)} {d:DataW H} {x:Nat},d∈l->x∈mQ bD 23 d->x∈DataW.weightsAll bD 23 l:=by
    intro l;induction l with
    |nil=>grind
    |cons e l ih=>
     intro d x hd hx;simp only[DataW.weightsAll,bq];grind
   refine⟨?_,λr hr=> ?_⟩
   .have:=hw ((len+(m-len))*24) (by simp[mQ,Co,Zp]);grind
   .obtain⟨i,hi,rfl⟩:=bM.1 hr;have hi:=bz.1 hi;refine(hf i (by omega)).2.2 B λx hx2=>hw x ?_;simp only[mQ,Co,bO,bq];grind
def UV{r:Reach}{b0:Nat}{v:Value}{d:DataW H}{p:List MemPlace}(hv:Value.okWide bD w r b0 26 v)(h:DataW.Trod enc bD w base spare held 26 v d p)(hw:∀n∈mQ bD 26 d,n<=reachBytes):
  ∃s:Shape,aU (l9 w) (kC s) v/\mA s:=by
 obtain⟨v0,v1,y0,y1,n,rfl,rfl,_,h0,h1⟩:=open_agg2 SQ (by kernel_rfl) Zl hv h;obtain⟨ro,g1,g2,g3⟩:=KO h0;obtain⟨rs,g4,g5,g6⟩:=UW h1;have hB:reachBytes<=140737488351232:=of_decide_eq_true (by kernel_rfl);have k1:=g3 reachBytes λx hx=>hw x (by simp only[mQ,SQ,cT,SS,bq];exact .inl hx);have k2:=g6 reachBytes λx hx=>hw x (by simp only[mQ,SQ,cT,SS,bq];grind);refine⟨⟨ro,rs⟩,?_,by grind,by grind,λq hq=>by grind⟩;unfold kC aU;refine⟨[v0,v1],rfl,?_,?_⟩
 .unfold af;refine⟨v0,[v1],rfl,g1,?_⟩;unfold af;exact⟨v1,[],rfl,g4,by unfold af;rfl⟩
 .intro u hu;grind
def Kg{n:Int}(h:(Lit.int .i64 n).wf=true):aH n:=by simp[Lit.wf,IntKind.min,IntKind.max,IntKind.signed,IntKind.bits]at h;unfold aH;omega
def Xa{r:Reach}{b0:Nat}{v:Value}{d:DataW H}{p:List MemPlace}(hv:Value.okWide bD w r b0 44 v)(h:DataW.Trod enc bD w base spare held 44 v d p):
  ∃a:aEo,aU (l9 w) (Bt a) v/\VOk a:=by
 obtain⟨v0,v1,y0,y1,n,rfl,_,_,h0,h1⟩:=open_agg2 IG (by kernel_rfl) OJ hv h;obtain⟨a,ha,_,wa⟩:=IR o4 h0;obtain⟨b,hb,_,wb⟩:=IR o4 h1;simp only[nK,and_true]at ha hb;subst ha hb;refine⟨⟨a,b⟩,?_,Kg wa,Kg wb⟩;unfold Bt aU;refine⟨[.int .i64 a,.int .i64 b],rfl,?_,?_⟩
 .unfold af;refine⟨.int .i64 a,[.int .i64 b],rfl,by unfold aU;rfl,?_⟩;unfold af;exact⟨.int .i64 b,[],rfl,by unfold aU;rfl,by unfold af;rfl⟩
 .intro u hu;simp only[bO,cl,or_false]at hu;rcases hu with rfl|rfl<;>rfl
end
section
variable {H:Type} {enc:TypeId×Value->H} {w:World} {base:Nat} {spare:Nat->Bool} {held:Bool}
end
def aAc{f:FuncId}{xs:List SV}{r:SV}{B:List PV}{q:PV}(h:∃A q,avs xs=A.map .p/\r.av= .p q/\Sat bD false f A q)(hB:avs xs=B.map .p)(hq:r.av= .p q):Sat bD false f B q:=by
 obtain⟨A,q',h1,h2,h3⟩:=h;rw[hq]at h2;cases h2;rw[hB]at h1;have:B=A:=by have:=congrArg bG h1;rw[dR,dR]at this;cases this;rfl
 grind
def aBq(s:Shape):(aSh.enc s).av= .p (kC s):=by show eK [.p (.sl s.outer.length (fU s.outer)),.p (.sl s.holes.length (LT.R.enc s.holes))] =_;rw[sX];rfl
def aAO(v:aEo):(aV.enc v).av= .p (Bt v):=rfl
end
def CI(p:V)(e:S):List V:=if e.a=p then [e.b]else if e.b=p then [e.a]else []
def oF(l:List S)(p:V):List V:=l.flatMap (CI p)
def sU(l:List S)(p q:V):Bool:=decide (0<=turn p (fJ (oF l p) p q true) (fJ (oF l p) p q false))
def m9(s:Shape)(K:List S)(k:Nat):List S:=bW s++K++(dOf s).drop k
def x5(l:List S)(d:S):Bool:= !sU l d.a d.b|| !sU l d.b d.a
def kpR(s:Shape):Nat->List S
 |0=>[]
 |k+1=>if x5 (m9 s (kpR s k) k) (az (dOf s) k)=true then kpR s k++[az (dOf s) k]else kpR s k
def stR(s:Shape):List S:=if eOf s=0 then kpR s (dOf s).length else []
def Fa(s:Shape):∀k,k<=(dOf s).length->∀e∈kpR s k,e∈dOf s
 |0,_,e,he=>by cases he
 |k+1,h,e,he=>by
  unfold kpR at he;split at he
  .rcases bq.1 he with he|he
   .exact Fa s k (by omega) e he
   .rw[bh.1 he,jD (by omega)];grind
  .exact Fa s k (by omega) e he
def hU(s:Shape)(k:Nat):List S:=aJ s.outer++(s.holes.take k).flatMap λr=>aJ r.reverse
def aBu(d:S):List S:=[d,⟨d.b,d.a⟩]
def hUT(s:Shape)(k:Nat):List S:=hU s s.holes.length++((stR s).take k).flatMap aBu
def hsR(s:Shape):List S:=hUT s (stR s).length
def adR(s:Shape):List S:=hU s s.holes.length++stR s
def nxQ(A:List S)(e:S):V:=fJ (oF A e.b) e.b e.a true
def nxI(H:List S)(b q:V)(k0:Nat):Nat->Nat
 |0=>k0
 |m+1=>if(az H m).a=b/\(az H m).b=q then m else nxI H b q k0 m
def nxB(H A:List S)(k:Nat):Nat:=nxI H (az H k).b (nxQ A (az H k)) k H.length
def trB(H A:List S):Nat->List Bool->Nat->List V->List Bool×List V
 |0,U,_,r=>(U,r)
 |f+1,U,k,r=>if oQ U k=true then(U,r)else trB H A f (U.set k true) (nxB H A k) (r++[(az H k).a])
def pcB(H A:List S):Nat->List Bool×List aD
 |0=>(cO H.length false,[])
 |k+1=>((trB H A ((pcB H A k).1.count false) (pcB H A k).1 k []).1,if 0<(trB H A ((pcB H A k).1.count false) (pcB H A k).1 k []).2.length then mE (pcB H A k).2 (co (dH (trB H A ((pcB H A k).1.count false) (pcB H A k).1 k []).2))else(pcB H A k).2)
abbrev TrB:=List Bool×Nat×List V
structure TB(H A:List S)(U0:List Bool)(k0:Nat)(y:TrB):Prop where
 len:y.1.length=H.length
 lt:y.2.1<H.length
 run:trB H A (y.1.count false) y.1 y.2.1 y.2.2=trB H A (U0.count false) U0 k0 []
 cnt:y.2.2.length+y.1.count false<=H.length
 pts:∀u∈y.2.2,bd 1000000000 u
def OG:∀{l:List Bool} {i:Nat},i<l.length->oQ l i=false->l.count false=(l.set i true).count false+1
 |b::l,0,_,h=>by
  have:b=false:=h;grind
 |b::l,i+1,hi,h=>by
  have ih:=OG (l:=l) (i:=i) (by grind) h;grind
def Ot{H:List S}{b q:V}{k0 n:Nat}(h:k0<n):∀m,m<=n->nxI H b q k0 m<n
 |0,_=>h
 |m+1,hm=>by
  unfold nxI;split
  .omega
  .exact Ot h m (by omega)
def Z2{H A:List S}{f:Nat}{U:List Bool}{k:Nat}{r:List V}(h:oQ U k=true):trB H A f U k r=(U,r):=by
 cases f with
 |zero=>rfl
 |succ f=>exact if_pos h
def Yd{H A:List S}{f:Nat}{U:List Bool}{k:Nat}{r:List V}(h:oQ U k=false):trB H A (f+1) U k r=trB H A f (U.set k true) (nxB H A k) (r++[(az H k).a]):=if_neg (by grind)
def TB.step{H A:List S}{U0:List Bool}{k0:Nat}{y:TrB}(T:TB H A U0 k0 y)(hb:∀e∈H,bd 1000000000 e.a)(h:oQ y.1 y.2.1=false):TB H A U0 k0 (y.1.set y.2.1 true,nxB H A y.2.1,y.2.2++[(az H y.2.1).a])/\(y.1.set y.2.1 true).count false<y.1.count false:=by
 have hl:=T.len;have hlt:=T.lt;have c:=OG (show y.2.1<y.1.length by omega) h;have hc:=T.cnt;refine⟨⟨by grind,Ot hlt _ (bQ _),?_,?_,?_⟩,by omega⟩
 .dsimp only;rw[<-T.run,c,Yd h]
 .grind
 .intro u hu;rcases bq.1 hu with hu|hu
  .exact T.pts u hu
  .rw[bh.1 hu];refine hb _ ?_;rw[jD hlt];grind
def Ef(H A:List S)(k:Nat):pcB H A (k+1)=((trB H A ((pcB H A k).1.count false) (pcB H A k).1 k []).1,if 0<(trB H A ((pcB H A k).1.count false) (pcB H A k).1 k []).2.length then mE (pcB H A k).2 (co (dH (trB H A ((pcB H A k).1.count false) (pcB H A k).1 k []).2))else(pcB H A k).2):=rfl
def pbU(s:Shape)(k:Nat):List Bool:=(pcB (hsR s) (adR s) k).1
def pbR(s:Shape)(k:Nat):List aD:=(pcB (hsR s) (adR s) k).2
def TBs(s:Shape)(k:Nat)(y:TrB):Prop:=TB (hsR s) (adR s) (pbU s k) k y
def TBs.start{s:Shape}{k:Nat}(h:(pbU s k).length=(hsR s).length)(hk:k<(hsR s).length):TBs s k (pbU s k,(k,([] :List V))) where
 len:=h
 lt:=hk
 run:=rfl
 cnt:=by grind
 pts:=λu hu=>(cl hu).elim
def TBs.stop{s:Shape}{k:Nat}{y:TrB}(T:TBs s k y)(h:oQ y.1 y.2.1=true):trB (hsR s) (adR s) ((pbU s k).count false) (pbU s k) k [] =(y.1,y.2.2):=by rw[<-T.run];exact Z2 h
def TBs.u{s:Shape}{k:Nat}{y:TrB}(T:TBs s k y)(h:oQ y.1 y.2.1=true):y.1=pbU s (k+1):=by have e:=T.stop h;unfold pbU at e|-;rw[Ef,e]
def TBs.yes{s:Shape}{k:Nat}{y:TrB}(T:TBs s k y)(h:oQ y.1 y.2.1=true)(h0:0<(y.2.2.length:Int)):mE (pbR s k) (co (dH y.2.2))=pbR s (k+1):=by have e:=T.stop h;unfold pbU at e;unfold pbR;rw[Ef,e];grind
def TBs.no{s:Shape}{k:Nat}{y:TrB}(T:TBs s k y)(h:oQ y.1 y.2.1=true)(h0:¬0<(y.2.2.length:Int)):pbR s k=pbR s (k+1):=by have e:=T.stop h;unfold pbU at e;unfold pbR;rw[Ef,e];grind
def NI{r:aD}{e:S}(h:e∈aJ r):e.a∈r/\e.b∈r:=by
 unfold aJ at h;split at h
 .cases h
 .obtain⟨i,hi,rfl⟩:=bM.1 h;have hi:=bz.1 hi;exact⟨dD hi,dD (bk _ (by omega))⟩
def mx(A:List (Nat×Nat))(L:List (List Int)):List (List Int):=A.foldl (λL p=>both L p.1 p.2) L
def y5(A B:List (Nat×Nat))(L:List (List Int)):mx (A++B) L=mx B (mx A L):=Cm
def Jc(p:Nat×Nat)(A:List (Nat×Nat))(L:List (List Int)):mx (p::A) L=mx A (both L p.1 p.2):=rfl
def Bf(base m:Nat):List (Nat×Nat):=(bP m).map λt=>(base+t,base+(t+1) % m)
def sF(R:List aD):Nat->List (Nat×Nat)
 |0=>[]
 |k+1=>sF R k++Bf (bs R k) (aC R k).length
def Lh(base m:Nat)(L:List (List Int)):∀i,rgO base m i L=mx ((bP i).map λt=>(base+t,base+(t+1) % m)) L
 |0=>rfl
 |i+1=>by
  unfold rgO;rw[Lh base m L i,vZ,dQ,y5];rfl
def Lf(R:List aD)(L:List (List Int)):∀k,rsO R k L=mx (sF R k) L
 |0=>rfl
 |k+1=>by
  unfold rsO sF;rw[Lf R L k,y5,Lh];rfl
def Ma(v:List V)(D:List S)(L:List (List Int)):∀k,k<=D.length->dgO v D k L=mx ((dgP v D).take k) L
 |0,_=>rfl
 |k+1,h=>by
  have hk:k<(dgP v D).length:=by unfold dgP;rw[cL];omega
  have hD:k<D.length:=by omega
  have e:(dgP v D)[k] =(ci v D[k].a,ci v D[k].b):=by simp only[dgP,iZ]
  unfold dgO;rw[Ma v D L k (by omega),kR hk,y5,e,jD hD];rfl
def mf(s:Shape):List (Nat×Nat):=sF (aE (aK s)) (aE (aK s)).length++dgP (vOf s) (dOf s)
def Nf(s:Shape):oD s=mx (mf s) (cO (vOf s).length []):=by unfold oD oB mf;rw[Ma _ _ _ _ (bQ _),Lf,y5,gu (by unfold dgP;grind)]
def Ek{L:List (List Int)}{a b c:Nat}{x:Int}(h:a<L.length):x∈ae (iJ L a b) c↔x∈ae L c\/(c=a/\x=b):=by unfold iJ;rw[tq];grind
def Ej{L:List (List Int)}{a b c:Nat}{x:Int}(h1:a<L.length)(h2:b<L.length):x∈ae (both L a b) c↔x∈ae L c\/(c=a/\x=b)\/(c=b/\x=a):=by unfold both;rw[Ek (by rw[xJ];exact h2),Ek h1,or_assoc]
def MC:∀(A:List (Nat×Nat)) {L:List (List Int)} {c:Nat} {x:Int},(∀p∈A,p.1<L.length/\p.2<L.length)->(x∈ae (mx A L) c↔x∈ae L c\/∃j:Nat,x=j/\((c,j)∈A\/(j,c)∈A))
 |[],L,c,x,_=>by
  show x∈ae L c↔_;simp
 |p::A,L,c,x,h=>by
  obtain⟨h1,h2⟩:=h p cE;rw[Jc,MC A (λq hq=>by rw[AT];grind),Ej h1 h2];grind
def J1{L:List (List Int)}{a b:Nat}(h:∀c,(ae L c).Nodup)(hb:(b:Int)∉ae L a):∀c,(ae (iJ L a b) c).Nodup:=λc=>by unfold iJ;rw[tq];grind
def Jb:∀(A:List (Nat×Nat)) {L:List (List Int)},(∀p∈A,p.1<L.length/\p.2<L.length/\p.1≠p.2)->(∀c,(ae L c).Nodup)->(∀p∈A,(p.2:Int)∉ae L p.1/\(p.1:Int)∉ae L p.2)->A.Pairwise (λp q=>p≠q/\p≠(q.2,q.1))->∀c,(ae (mx A L) c).Nodup
 |[],L,_,hn,_,_=>hn
 |p::A,L,h,hn,hm,hp=>by
  obtain⟨h1,h2,h3⟩:=h p cE;obtain⟨m1,m2⟩:=hm p cE;obtain⟨q1,q2⟩:=gX.1 hp;rw[Jc];refine Jb A (λq hq=>by rw[AT];grind) ?_ (λq hq=> ?_) q2
  .unfold both;refine J1 (J1 hn m1) λg=> ?_;rcases(Ek h1).1 g with g|⟨g,_⟩
   .exact m2 g
   omega
  .have hq2:=hm q (cB _ hq);have hne:=q1 q hq;obtain⟨a,b⟩:=p;obtain⟨c,d⟩:=q;rw[Ej h1 h2,Ej h1 h2];grind
section
def phi(v:List aEo)(p:Nat×Nat):S:=⟨aEn v p.1,aEn v p.2⟩
def Dr{a b:List aEo}{i:Nat}(h:i<a.length):aEn (a++b) i=aEn a i:=by unfold aEn;grind
def KQ{a b:List aEo}(i:Nat):aEn (a++b) (a.length+i)=aEn b i:=by unfold aEn;grind
def xF:∀(R:List aD) (k t:Nat),k<R.length->t<(aC R k).length->aEn R.flatten (bs R k+t)=aEn (aC R k) t
 |r::R,0,t,_,ht=>by
  have e:bs (r::R) 0=0:=rfl;rw[e,jg,lN];exact Dr ht
 |r::R,k+1,t,hk,ht=>by
  have e:bs (r::R) (k+1)=r.length+bs R k:=by unfold bs;rw[List.take_succ_cons,lN,fw]
  rw[e,Nat.add_assoc,lN,KQ];exact xF R k t (by grind) ht
def XR{R:List aD}{k:Nat}(hk:k<R.length){p:Nat×Nat}(h:p∈Bf (bs R k) (aC R k).length):p.1<R.flatten.length/\p.2<R.flatten.length:=by have h1:=qe hk;have h2:=ut R (k+1);obtain⟨t,ht,rfl⟩:=bM.1 h;have ht:=bz.1 ht;have:=bk (t+1) (show 0<(aC R k).length by omega);omega
def KG{R:List aD}:∀k,k<=R.length->∀p∈sF R k,p.1<R.flatten.length/\p.2<R.flatten.length
 |0,_,p,h=>by cases h
 |k+1,hk,p,h=>by
  rcases bq.1 h with h|h
  .exact KG k (by omega) p h
  .exact XR (by omega) h
def Vi{R:List aD}{k:Nat}(hk:k<R.length)(h2:2<=(aC R k).length):(Bf (bs R k) (aC R k).length).map (phi R.flatten)=aJ (aC R k):=by unfold Bf aJ;rw[if_neg (by omega),cv];refine iy λt ht=> ?_;have ht:=bz.1 ht;have e1:=xF R k t hk ht;have e2:=xF R k ((t+1) % (aC R k).length) hk (bk _ (by omega));show phi R.flatten (bs R k+t,bs R k+(t+1) % (aC R k).length)=bL (aC R k) t;unfold phi;dsimp only;rw[e1,e2];rfl
def JN{R:List aD}(h2:∀r∈R,2<=r.length):∀k,k<=R.length->(sF R k).map (phi R.flatten)=(R.take k).flatMap aJ
 |0,_=>rfl
 |k+1,hk=>by
  unfold sF;rw[dQ,JN h2 k (by omega),Vi (by omega) (h2 _ (gG (by omega))),kR (by omega),vP,jM (by omega)];simp
def qU{v:List aEo}{u:aEo}(h:u∈v):aEn v (ci v u)=u:=by have hl:=lr h;have:=List.findIdx_getElem (xs:=v) (p:=λx=>decide (u=x)) (w:=hl);unfold aEn;rw[de,eZ hl];exact(of_decide_eq_true this).symm
def Ze{v:List aEo}{D:List S}(h:∀d∈D,d.a∈v/\d.b∈v):(dgP v D).map (phi v)=D:=by
 unfold dgP;rw[cv];have:∀d∈D,(phi v∘λd:S=>(ci v d.a,ci v d.b)) d=d:=λd hd=>by show phi v (ci v d.a,ci v d.b)=d;unfold phi;dsimp only;rw[qU (h d hd).1,qU (h d hd).2]
 rw[iy this,List.map_id']
section
variable {s:Shape}
def mV(h:aa s=true):aK s=dC s:=by unfold aK;rw[if_pos (by rw[hZ];exact h)]
def nT(h:aa s=true):vOf s=(aE (aK s)).flatten:=by rw[lj h,mV h];rfl
def AD(h:aa s=true):∀r∈aE (aK s),2<=r.length:=by
 intro r hr;rw[mV h]at hr;have V:=vsR h;have key:∀q∈aE s,2<=q.length:=λq hq=>by have:=(V.ring hq).three;omega
 unfold aE dC at hr;rcases bO.1 hr with e|hr
 .rw[e,kl];exact key _ cE
 .have hr2:=(lV _).mem_iff.1 hr;obtain⟨q,hq,rfl⟩:=bM.1 hr2;rw[kl];exact key _ (cB _ hq)
def Ja(h:aa s=true):(mf s).map (phi (vOf s))=bW (dC s)++dOf s:=by
 unfold mf;rw[dQ,Ze λd hd=>(uY (by rw[hZ];exact h)).2 d hd]
 congr 1
 rw[nT h,JN (AD h) _ (bQ _),vl,mV h];rfl
def wv(h:aa s=true):∀p∈mf s,p.1<(vOf s).length/\p.2<(vOf s).length:=by
 intro p hp;unfold mf at hp;rcases bq.1 hp with hp|hp
 .rw[nT h];exact KG _ (bQ _) p hp
 .exact Bh (by rw[hZ];exact h) hp
end
end
section
section
variable {s:Shape}
def wZ(h:aa s=true):(vOf s).Perm (bl s):=by rw[lj h];exact mR s
def Dc(h:aa s=true):(vOf s).Nodup:=(wZ h).nodup_iff.2 (vsR h).nodup
def tgR(h:aa s=true):Tg s (dOf s):=by rw[Am h];exact PR (vsR h) (λx=>(wZ h).mem_iff) (Dc h)
def I9{D:List S}(T:Tg s D){e:S}(he:e∈bW s):swp e∉bW s:=λhf=>by
 unfold bW at he hf;obtain⟨r,hr,her⟩:=dI.1 he;obtain⟨q,hq,heq⟩:=dI.1 hf;by_cases hrq:r=q
 .subst hrq;unfold aE at hr;rcases bO.1 hr with g|g
  .subst g;exact(zK T her).2 (zK T heq).1
  .exact(zu T g her).2 (zu T g heq).1
 .exact(wQ T hr hq hrq (v:=e.a) (NI her).1 heq).2 rfl
def Kq{r:aD}(h:2<=r.length):(aJ r).map S.a=r:=by unfold aJ;rw[if_neg (by omega),cv];refine List.ext_getElem (by simp) λi h1 h2=> ?_;rw[iZ,qC];exact nth_eq h2
def Et:∀{l:List aD},(∀r∈l,2<=r.length)->(l.flatMap aJ).map S.a=l.flatten
 |[],_=>rfl
 |r::l,h=>by
  rw[fX,dQ,Kq (h r cE),Et λq hq=>h q (cB _ hq),lN]
def So(h:aa s=true):(bW (dC s)).Nodup:=by
 have e:(bW (dC s)).map S.a=vOf s:=by rw[nT h,<-Et (AD h),mV h];rfl
 have hn:=Dc h;rw[<-e]at hn;exact CS (λ{a b} hne (e:a=b)=>hne (by rw[e])) (ia.1 hn)
def Ue(h:aa s=true):(mf s).Pairwise λp q=>p≠q/\p≠(q.2,q.1):=by
 have T:=tgR h;have key:((mf s).map (phi (vOf s))).Pairwise λe f=>e≠f/\e≠swp f:=by
  rw[Ja h,List.pairwise_append];refine⟨?_,?_,?_⟩
  .refine yV (λ{e f} he hf hne=>⟨hne,λg=> ?_⟩) (So h);rw[yt]at he hf;rw[g]at he;exact I9 T hf he
  .exact T.once.imp λ{a b} h=>h
  .intro e he d hd;rw[yt]at he;exact nP T hd he
 rw[ia]at key;exact key.imp λ{p q} h=>⟨λe=>h.1 (by rw[e]),λe=>h.2 (by rw[e];rfl)⟩
def pB(h:aa s=true){i j:Nat}(hi:i<(vOf s).length)(hj:j<(vOf s).length)(e:aEn (vOf s) i=aEn (vOf s) j):i=j:=ll (Dc h) hi hj e
def Dw(h:aa s=true){i j:Nat}(hi:i<(vOf s).length)(hj:j<(vOf s).length):((i,j)∈mf s\/(j,i)∈mf s)↔sides s (dOf s) (aEn (vOf s) i) (aEn (vOf s) j):=by
 have m:∀{a b:Nat},a<(vOf s).length->b<(vOf s).length->((a,b)∈mf s↔(⟨aEn (vOf s) a,aEn (vOf s) b⟩:S)∈bW s++dOf s):=λ{a b} ha hb=>by
  rw[bq,<-yt,<-bq,<-Ja h,bM];constructor
  .intro g;exact⟨_,g,rfl⟩
  .rintro⟨⟨c,d⟩,g,e⟩;obtain⟨g1,g2⟩:=wv h _ g;have e1:aEn (vOf s) c=aEn (vOf s) a:=congrArg S.a e;have e2:aEn (vOf s) d=aEn (vOf s) b:=congrArg S.b e;have e1:=pB h g1 ha e1;have e2:=pB h g2 hb e2;grind
 rw[m hi hj,m hj hi];rfl
def BG(n c:Nat):ae (cO n ([] :List Int)) c=[] :=by unfold ae;grind
def uS(h:aa s=true){i:Nat}(hi:i<(vOf s).length){x:Int}:x∈ae (oD s) i↔∃j:Nat,x=j/\j<(vOf s).length/\sides s (dOf s) (aEn (vOf s) i) (aEn (vOf s) j):=by
 rw[Nf,MC _ (λp hp=>by rw[yg];exact wv h p hp),BG];constructor
 .rintro(g|⟨j,rfl,g⟩)
  .cases g
  .have hj:j<(vOf s).length:=by
    rcases g with g|g
    .exact(wv h _ g).2
    .exact(wv h _ g).1
   exact⟨j,rfl,hj,(Dw h hi hj).1 g⟩
 .rintro⟨j,rfl,hj,g⟩;exact .inr ⟨j,rfl,(Dw h hi hj).2 g⟩
def Ab(h:aa s=true){a b:V}(g:sides s (dOf s) a b):a≠b:=(tgR h).segs.ne g
def Xd(h:aa s=true)(c:Nat):(ae (oD s) c).Nodup:=by rw[Nf];refine Jb _ (λp hp=> ?_) (λc=>by rw[BG];grind) (λp hp=>by rw[BG,BG];grind) (Ue h) c;rw[yg];obtain⟨h1,h2⟩:=wv h p hp;refine⟨h1,h2,λe=> ?_⟩;have:=(Dw h h1 h2).1 (.inl hp);rw[e]at this;exact Ab h this rfl
def xV(v:List V)(p x y:Nat):j4 v p x y<0↔alt (aEq (aEn v x) (aEn v p)) (aEq (aEn v y) (aEn v p)):=by
 unfold j4;dsimp only;generalize aEq (aEn v x) (aEn v p)=a;generalize aEq (aEn v y) (aEn v p)=b;have ht:0<turn ⟨0,0⟩ a b↔0<cross a b:=by
  have e:cross (aEq a ⟨0,0⟩) (aEq b ⟨0,0⟩)=cross a b:=by unfold cross aEq;simp
  unfold turn sgn;rw[e];split
  .omega
  .omega
 have hh:∀u:V,gr u=if gK u then 0 else 1:=λu=>by unfold gr gK;omega
 rw[hh,hh];unfold alt;grind
end
end
section
def vtx(v:List V)(x:Int):V:=aEn v x.toNat
def eS(v:List V)(L:List (List Int))(i:Nat):List V:=(ae L i).map (vtx v)
section
variable {s:Shape}
def oR(h:aa s=true):Net (bl s) (sides s (dOf s)):=(tgR h).segs.net
def Lt(h:aa s=true){i:Nat}(hi:i<(vOf s).length):∃j,j<(vOf s).length/\(⟨aEn (vOf s) i,aEn (vOf s) j⟩:S)∈bW s:=by
 have hm:aEn (vOf s) i∈(bW (dC s)).map S.a:=by
  have e:(bW (dC s)).map S.a=vOf s:=by rw[nT h,<-Et (AD h),mV h];rfl
  rw[e];exact dD hi
 obtain⟨⟨a,b⟩,he,e⟩:=bM.1 hm;have e:a=aEn (vOf s) i:=e;subst e;have hb:b∈vOf s:=by unfold bW at he;obtain⟨r,hr,her⟩:=dI.1 he;rw[lj h];exact kh.2 ⟨r,hr,(NI her).2⟩
 obtain⟨j,hj,e⟩:=fO.1 hb;rw[yt,e]at he;grind
def gok(h:aa s=true):GOk s:=λk hk=>by
 have N:=oR h;have cell:∀x∈ae (oD s) k,∃j:Nat,x=j/\j<(vOf s).length/\sides s (dOf s) (aEn (vOf s) k) (aEn (vOf s) j):=λx hx=>(uS h hk).1 hx;have nzz:∀{j:Nat},sides s (dOf s) (aEn (vOf s) k) (aEn (vOf s) j)->nz (aEq (aEn (vOf s) j) (aEn (vOf s) k)):=λg=>kD (N.ne g).symm;refine⟨?_,λx hx=> ?_,⟨?_,?_,?_⟩⟩
 .obtain⟨j,hj,he⟩:=Lt h hk;exact IQ ((uS h hk).2 ⟨j,rfl,hj,.inl (gZ _ he)⟩)
 .grind
 .intro x hx y hy z hz h1 h2;obtain⟨a,rfl,ha,ga⟩:=cell x hx;obtain⟨b,rfl,hb,gb⟩:=cell y hy;obtain⟨c,rfl,hc,gc⟩:=cell z hz;unfold ltA at*;rw[decide_eq_true_eq,xV,i7,i7]at*;exact Wn (nzz ga) (nzz gb) (nzz gc) h1 h2
 .intro x hx y hy h1;obtain⟨a,rfl,ha,ga⟩:=cell x hx;obtain⟨b,rfl,hb,gb⟩:=cell y hy;unfold ltA at*;rw[decide_eq_true_eq,xV]at h1;rw[decide_eq_false_iff_not,xV];exact E8 h1
 .intro x hx y hy h1 h2;obtain⟨a,rfl,ha,ga⟩:=cell x hx;obtain⟨b,rfl,hb,gb⟩:=cell y hy;unfold ltA at*;rw[decide_eq_false_iff_not,xV,i7,i7]at h1 h2;by_cases e:a=b
  .rw[e]
  .exfalso;have hne:aEn (vOf s) a≠aEn (vOf s) b:=λg=>e (pB h ha hb g);exact h2 (Zx (nzz ga) (nzz gb) (N.fanApart ga gb hne) h1)
def FX(h:aa s=true){i:Nat}(hi:i<(vOf s).length):(ae (oG s) i).Perm (ae (oD s) i):=by unfold oG;rw[sD _ _ _ _ (by rw[xf];exact hi),if_pos hi];exact rU _ _
def aCY(h:aa s=true){i:Nat}(hi:i<(vOf s).length):aEz (aEn (vOf s) i) (eS (vOf s) (oG s) i):=by
 have N:=oR h;have P:=FX h hi;have g:=(gok h i hi).2.2;refine aAI N (λx hx=> ?_) ?_
 .obtain⟨y,hy,rfl⟩:=bM.1 hx;obtain⟨j,rfl,_,gj⟩:=(uS h hi).1 (P.mem_iff.1 hy);unfold vtx;grind
 .unfold eS;rw[ia];have hs:(ae (oG s) i).Pairwise λa b=>ltA (vOf s) i b a=false:=by unfold oG;rw[sD _ _ _ _ (by rw[xf];exact hi),if_pos hi];exact Cz g _ λ_ h=>h
  have hn:(ae (oG s) i).Nodup:=P.nodup_iff.2 (Xd h i);refine yV (λ{a b} ha hb q=> ?_) (List.Pairwise.and hs hn);have ha:=P.mem_iff.1 ha;have hb:=P.mem_iff.1 hb;cases e:ltA (vOf s) i a b with
  |true=>
   unfold ltA at e;rw[decide_eq_true_eq,xV]at e;exact e
  |false=>exact absurd (g.tot a ha b hb e q.1) q.2
def X9(h:aa s=true){i:Nat}(hi:i<(vOf s).length){x:V}:x∈eS (vOf s) (oG s) i↔sides s (dOf s) (aEn (vOf s) i) x:=by
 have P:=FX h hi;unfold eS;rw[bM];constructor
 .rintro⟨y,hy,rfl⟩;obtain⟨j,rfl,_,gj⟩:=(uS h hi).1 (P.mem_iff.1 hy);unfold vtx;grind
 .intro g;have hx:x∈vOf s:=(wZ h).mem_iff.2 ((oR h).mem ((oR h).symm g));obtain⟨j,hj,rfl⟩:=fO.1 hx;exact⟨j,P.mem_iff.2 ((uS h hi).2 ⟨j,rfl,hj,g⟩),by unfold vtx;grind⟩
end
end
section
def WH{l:List S}{p x:V}(h:∀e∈l,e.a≠e.b):x∈oF l p↔eR l p x:=by
 unfold oF eR;rw[dI];constructor
 .rintro⟨⟨a,b⟩,he,hx⟩;unfold CI at hx;grind
 .rintro(g|g)
  .exact⟨_,g,by unfold CI;grind⟩
  .refine⟨_,g,?_⟩;have:=h _ g;unfold CI;grind
def Nz{l:List Int}{x:Int}(h:x∈l):∃ha:fL l x<l.length,l[fL l x] =x:=by have ha:=Ny h;refine⟨ha,?_⟩;have:=List.findIdx_getElem (xs:=l) (p:=λu=>decide (x=u)) (w:=ha);exact(of_decide_eq_true this).symm
def JC{v:List V}{L:List (List Int)}{i j:Nat}{p:V}{l:List V}(F:aEz p (eS v L i))(hl:∀x,x∈l↔x∈eS v L i)(hm:(j:Int)∈ae L i):aEn v (iB L i j (-1))=fJ l p (aEn v j) true:=by
 obtain⟨ha,e⟩:=Nz hm;have hlen:(eS v L i).length=(ae L i).length:=cL ..;have ha2:fL (ae L i) (j:Int)<(eS v L i).length:=by omega
 have e2:(eS v L i)[fL (ae L i) (j:Int)] =aEn v j:=by simp only[eS,iZ,e,vtx,i7]
 have hk:(fL (ae L i) (j:Int)+(eS v L i).length-1) % (eS v L i).length<(eS v L i).length:=bk _ (by omega);have:=F.prev hl ha2 hk rfl;rw[e2]at this;rw[this];unfold iB;dsimp only;have e3:((fL (ae L i) (j:Int):Int)+ -1+(ae L i).length).toNat=fL (ae L i) (j:Int)+(ae L i).length-1:=by omega
 rw[e3];simp only[eS,iZ,cL,vtx]
 congr 2
 exact ng (by grind)
def T7{v:List V}{L:List (List Int)}{i j:Nat}{p:V}{l:List V}(F:aEz p (eS v L i))(hl:∀x,x∈l↔x∈eS v L i)(hm:(j:Int)∈ae L i):aEn v (iB L i j 1)=fJ l p (aEn v j) false:=by
 obtain⟨ha,e⟩:=Nz hm;have hlen:(eS v L i).length=(ae L i).length:=cL ..;have ha2:fL (ae L i) (j:Int)<(eS v L i).length:=by omega
 have e2:(eS v L i)[fL (ae L i) (j:Int)] =aEn v j:=by simp only[eS,iZ,e,vtx,i7]
 have hk:(fL (ae L i) (j:Int)+1) % (eS v L i).length<(eS v L i).length:=bk _ (by omega);have:=F.next hl ha2 hk rfl;rw[e2]at this;rw[this];unfold iB;dsimp only;have e3:((fL (ae L i) (j:Int):Int)+1+(ae L i).length).toNat % (ae L i).length=(fL (ae L i) (j:Int)+1) % (ae L i).length:=by rw[show((fL (ae L i) (j:Int):Int)+1+(ae L i).length).toNat=fL (ae L i) (j:Int)+1+(ae L i).length by omega,od]
 rw[e3];simp only[eS,iZ,cL,vtx]
 congr 2
 exact ng (by grind)
def ZG{v:List V}{L:List (List Int)}{i j:Nat}{A:List S}(F:aEz (aEn v i) (eS v L i))(hl:∀x,x∈oF A (aEn v i)↔x∈eS v L i)(hm:(j:Int)∈ae L i):fo v L i j=sU A (aEn v i) (aEn v j):=by unfold fo sU;rw[JC F hl hm,T7 F hl hm]
section
variable {s:Shape}
def ZT(h:aa s=true){i:Nat}(hi:i<(vOf s).length):∃u,(⟨u,aEn (vOf s) i⟩:S)∈bW s:=by
 have hm:aEn (vOf s) i∈bl s:=(wZ h).mem_iff.1 (dD hi);unfold bl at hm;obtain⟨r,hr,hx⟩:=kh.1 hm;obtain⟨t,ht,e⟩:=fO.1 hx;have h3:=((vsR h).ring hr).three;refine⟨aEn r ((t+r.length-1) % r.length),dI.2 ⟨r,hr,?_⟩⟩;unfold aJ;rw[if_neg (by omega)];refine bM.2 ⟨(t+r.length-1) % r.length,bz.2 (bk _ (by omega)),?_⟩;have e2:((t+r.length-1) % r.length+1) % r.length=t:=by rw[kN,show t+r.length-1+1=t+r.length by omega,od,dj ht]
 show bL r ((t+r.length-1) % r.length)=_;unfold bL nxt;rw[e2,e]
end
end
section
abbrev AK(s:Shape)(k:Nat):List aEp:=m9 s (kpR s k) k
def HK(s:Shape)(k:Nat)(e:aEp):Prop:=e∈lI (lJ s) (kpR s k++(dOf s).drop k)
def nxK(s:Shape)(k:Nat)(e:aEp):V:=fJ (oF (AK s k) e.b) e.b e.a true
structure Stg(s:Shape)(k:Nat):Prop where
 fan:∀i,i<(vOf s).length->aEz (aEn (vOf s) i) (eS (vOf s) (sG s k).1 i)
 rng:∀i,i<(vOf s).length->∀x∈ae (sG s k).1 i,∃j:Nat,x=j/\j<(vOf s).length
 mem:∀i,i<(vOf s).length->∀x,eR (AK s k) (aEn (vOf s) i) x↔x∈eS (vOf s) (sG s k).1 i
 kept:(sG s k).2.map (phi (vOf s))=kpR s k
 face:∃F,aEA (nxK s k) (HK s k) F
def Fan.sub{p:V}{L M:List V}(F:aEz p L)(h:M.Sublist L):aEz p M where
 nz:=λx hx=>F.nz x (h.subset hx)
 apart:=λx hx y hy=>F.apart x (h.subset hx) y (h.subset hy)
 sorted:=F.sorted.sublist h
def Fan.nil(p:V):aEz p [] :=⟨λ_ h=>(cl h).elim,λ_ h=>(cl h).elim,rE⟩
def Faces.congr{nx:aEp->V}{H G:aEp->Prop}{F:List (List V)}(Fc:aEA nx H F)(h:∀e,H e↔G e):aEA nx G F:=⟨Fc.cx,Fc.once,λe=>(Fc.all e).trans (h e),Fc.next⟩
section
variable {s:Shape}
def MD(s:Shape):∀k,k<=(dOf s).length->∀e∈kpR s k,∃m,∃hm:m<(dOf s).length,m<k/\(dOf s)[m] =e
 |0,_,e,he=>by cases he
 |k+1,h,e,he=>by
  unfold kpR at he;have up:∀e∈kpR s k,∃m,∃hm:m<(dOf s).length,m<k+1/\(dOf s)[m] =e:=λe he=>by obtain⟨m,hm,h1,h2⟩:=MD s k (by omega) e he;grind
  split at he
  .rcases bq.1 he with he|he
   .exact up e he
   .rw[bh.1 he,jD (by omega)];grind
  grind
def PM{k:Nat}(hk:k<=(dOf s).length):∀e∈AK s k,e∈bW s++dOf s:=λe he=>by
 unfold AK m9 at he;rcases bq.1 he with he|he
 .rcases bq.1 he with he|he
  .grind
  .exact fY _ (Fa s k hk e he)
 grind
def qg{k:Nat}(hk:k<=(dOf s).length){a b:V}(h:eR (AK s k) a b):sides s (dOf s) a b:=h.imp (PM hk _) (PM hk _)
def aBs(h:aa s=true){k:Nat}(hk:k<=(dOf s).length):∀e∈AK s k,e.a≠e.b:=λe he=>Ab h (qg hk (.inl he))
def NZ(h:aa s=true){m k:Nat}(hm:m<(dOf s).length)(hk:k<(dOf s).length)(hne:m≠k):(dOf s)[m]≠(dOf s)[k]/\(dOf s)[m]≠swp (dOf s)[k] :=by
 have T:=(tgR h).once;rw[nB]at T;rcases Nat.lt_or_gt_of_ne hne with g|g
 .exact T m k hm hk g
 .have:=T k m hk hm g;exact⟨this.1.symm,λe=>this.2 (by rw[e];rfl)⟩
def uO(h:aa s=true){k:Nat}(hk:k<=(dOf s).length){e:aEp}(he:HK s k e):eR (AK s k) e.a e.b:=by
 unfold HK lI at he;rw[bq,bq,lm,AO (tgR h)]at he;unfold AK m9 eR;rw[kO];rcases he with⟨g,_⟩|g|g
 .exact g.imp (gZ _) (gZ _)
 .simp_all
 .exact .inr (fY _ g)
def xG(h:aa s=true){k:Nat}(hk:k<=(dOf s).length){p x:V}:x∈oF (AK s k) p↔eR (AK s k) p x:=WH (aBs h hk)
def LC(h:aa s=true){a b:V}(g:sides s (dOf s) a b):a∈vOf s:=(wZ h).mem_iff.2 ((oR h).mem g)
def Stg.start(h:aa s=true):Stg s 0:=by
 have T:=tgR h;have N:=oR h;have e0:AK s 0=bW s++dOf s:=by unfold AK m9 kpR;simp
 refine⟨λi hi=>aCY h hi,λi hi x hx=> ?_,λi hi x=> ?_,rfl,?_⟩
 .obtain⟨j,e,hj,_⟩:=(uS h hi).1 ((FX h hi).mem_iff.1 hx);grind
 .rw[e0];exact(X9 h hi).symm
 .obtain⟨TL,A⟩:=K9 N (fK s) (vsR h).nodup;have eD:kpR s 0++(dOf s).drop 0=dOf s:=by unfold kpR;simp
  refine⟨_,Faces.congr (aAJ T.filled A (DS:=lI (lJ s) (dOf s)) ?_ (MX T (AO T)) ?_) λe=>by unfold HK;rw[eD]⟩
  .refine Jv T (U2 T) λe he=> ?_;rcases((AO T e).1 he).1 with g|g
   .exact .inl g
   .exact .inr g
  .intro a b c t;exact Tri.next N t λx=>by rw[xG h (i5 _),e0];rfl
def Stg.ar(h:aa s=true){k:Nat}(S:Stg s k){i j:Nat}(hi:i<(vOf s).length)(hj:j<(vOf s).length)(g:eR (AK s k) (aEn (vOf s) i) (aEn (vOf s) j)):ArOk (vOf s) (sG s k).1 i j:=by
 refine⟨by rw[uR];exact hi,?_,λx hx=> ?_,?_⟩
 .obtain⟨y,hy,e⟩:=bM.1 ((S.mem i hi _).1 g);obtain⟨m,rfl,hm⟩:=S.rng i hi y hy;unfold vtx at e;rw[i7]at e;rw[<-pB h hm hj e];exact hy
 .obtain⟨m,rfl,hm⟩:=S.rng i hi x hx;omega
 .have hn:=(S.fan i hi).nodup;have e:eS (vOf s) (sG s k).1 i=((ae (sG s k).1 i).map Int.toNat).map (aEn (vOf s)):=by unfold eS;rw[cv];rfl
  rw[e]at hn;have hn2:((ae (sG s k).1 i).map Int.toNat).Nodup:=CS (λ{a b} hne (e:a=b)=>hne (by rw[e])) (ia.1 hn);have:=AG (vOf s).length _ hn2 λx hx=>by obtain⟨y,hy,rfl⟩:=bM.1 hx;obtain⟨m,rfl,hm⟩:=S.rng i hi y hy;omega
  rw[cL]at this;have:=pP s;omega
def NU(h:aa s=true){k:Nat}(hk:k<(dOf s).length):(aX (pG s) k).1<(vOf s).length/\(aX (pG s) k).2<(vOf s).length/\aEn (vOf s) (aX (pG s) k).1=(dOf s)[k].a/\aEn (vOf s) (aX (pG s) k).2=(dOf s)[k].b:=by
 have hd:=(uY (s:=s) (by rw[hZ];exact h)).2 _ (mN hk);have hp:k<(pG s).length:=by rw[qj];exact hk
 have e:aX (pG s) k=(ci (vOf s) (dOf s)[k].a,ci (vOf s) (dOf s)[k].b):=by rw[mZ hp];simp only[pG,dgP,iZ]
 rw[e];exact⟨lr hd.1,lr hd.2,qU hd.1,qU hd.2⟩
def Stg.need(h:aa s=true){k:Nat}(hk:k<=(dOf s).length)(S:Stg s k){i j:Nat}(hi:i<(vOf s).length)(hj:j<(vOf s).length)(g:eR (AK s k) (aEn (vOf s) i) (aEn (vOf s) j)):fo (vOf s) (sG s k).1 i j=sU (AK s k) (aEn (vOf s) i) (aEn (vOf s) j):=
 ZG (S.fan i hi) (λx=>by rw[xG h hk,S.mem i hi]) (S.ar h hi hj g).mem
end
end
section
def Ww{α:Type}{l:List α}{a b c:α}(ha:a∈l)(hb:b∈l)(hc:c∈l)(h1:a≠b)(h2:b≠c)(h3:a≠c):3<=l.length:=by obtain⟨i,hi,rfl⟩:=ib.1 ha;obtain⟨j,hj,rfl⟩:=ib.1 hb;obtain⟨k,hk,rfl⟩:=ib.1 hc;grind
def Ir{l:List Int}{q x:Int}:x∈uH l q↔x∈l/\x≠q:=by unfold uH;grind
open Classical in
noncomputable def u9(v:List V)(L:List (List Int))(p:V):List V:=if p∈v then eS v L (ci v p)else []
section
variable {s:Shape}
def uA(h:aa s=true){k:Nat}(hk:k<=(dOf s).length)(S:Stg s k)(p x:V):eR (AK s k) p x↔x∈u9 (vOf s) (sG s k).1 p:=by
 unfold u9;by_cases hp:p∈vOf s
 .rw[if_pos hp,<-S.mem _ (lr hp),qU hp]
 .rw[if_neg hp];exact⟨λg=>(hp (LC h (qg hk g))).elim,λg=>(cl g).elim⟩
def X8{k:Nat}(S:Stg s k)(p:V):aEz p (u9 (vOf s) (sG s k).1 p):=by
 unfold u9;by_cases hp:p∈vOf s
 .rw[if_pos hp];have:=S.fan _ (lr hp);rw[qU hp]at this;exact this
 .rw[if_neg hp];exact Fan.nil p
def LJ(h:aa s=true){k:Nat}(hk:k<=(dOf s).length)(S:Stg s k){i:Nat}(hi:i<(vOf s).length){x:V}{d:aEp}(hd:d∈dOf s)(hx:eR (AK s k) (aEn (vOf s) i) x)(he:d=⟨aEn (vOf s) i,x⟩\/d=⟨x,aEn (vOf s) i⟩):3<=(u9 (vOf s) (sG s k).1 (aEn (vOf s) i)).length:=by
 have T:=tgR h;obtain⟨j,hj,e1⟩:=Lt h hi;obtain⟨u,e2⟩:=ZT h hi;have up:∀e∈bW s,e∈AK s k:=λe he=>by unfold AK m9;grind
 have m1:=(uA h hk S _ _).1 (.inl (up _ e1));have m2:=(uA h hk S _ _).1 (.inr (up _ e2));have m3:=(uA h hk S _ _).1 hx;refine Ww m1 m2 m3 (λe=> ?_) (λe=> ?_) (λe=> ?_)
 .rw[<-e]at e2;exact I9 T e1 e2
 .subst e;have g:=nP T hd e2;rcases he with he|he
  .exact g.2 (by rw[he];rfl)
  grind
 .have g:=nP T hd e1;rw[e]at g;rcases he with he|he
  .grind
  .exact g.2 (by rw[he];rfl)
def ry{k:Nat}(hk:k<(dOf s).length):(dOf s).drop k=(dOf s)[k] ::(dOf s).drop (k+1):=(List.drop_eq_getElem_cons hk)
def aAV(h:aa s=true){k:Nat}(hk:k<(dOf s).length):∀e∈bW s++(kpR s k++(dOf s).drop (k+1)),e≠(dOf s)[k]/\e≠swp (dOf s)[k] :=λe he=>by
 rcases bq.1 he with he|he
 .exact nP (tgR h) (mN hk) he
 .rcases bq.1 he with he|he
  .obtain⟨m,hm,h1,rfl⟩:=MD s k (by omega) e he;exact NZ h hm hk (by omega)
  .obtain⟨m,hm,rfl⟩:=ib.1 he;rw[List.getElem_drop];rw[Ht]at hm;exact NZ h (by omega) hk (by omega)
def Stg.step(h:aa s=true){k:Nat}(hk:k<(dOf s).length)(S:Stg s k):Stg s (k+1):=by
 obtain⟨hi,hj,ea,eb⟩:=NU h hk;have hd:=mN hk;have eN:az (dOf s) k=(dOf s)[k] :=jD hk;have gd:eR (AK s k) (dOf s)[k].a (dOf s)[k].b:= .inl (by unfold AK m9;rw[ry hk];grind);have gd':eR (AK s k) (dOf s)[k].b (dOf s)[k].a:=gd.symm;have n1:=S.need h (by omega) hi hj (by grind);have n2:=S.need h (by omega) hj hi (by grind);rw[ea,eb]at n1 n2;have kd:kpR s (k+1)=if x5 (AK s k) (dOf s)[k] =true then kpR s k++[(dOf s)[k]]else kpR s k:=by rw[<-eN];rfl
 by_cases hkeep:x5 (AK s k) (dOf s)[k] =true
 .rw[if_pos hkeep]at kd;have eA:AK s (k+1)=AK s k:=by unfold AK m9;rw[kd,ry hk];simp
  have eH:kpR s (k+1)++(dOf s).drop (k+1)=kpR s k++(dOf s).drop k:=by rw[kd,ry hk];simp
  have eG:=xw (s:=s) (k:=k) (by rw[n1,n2];unfold x5 at hkeep;grind)
  refine⟨λi hi=>by rw[eG];exact S.fan i hi,λi hi=>by rw[eG];exact S.rng i hi,λi hi x=>by rw[eG,eA];exact S.mem i hi x,?_,?_⟩
  .rw[eG,kd,dQ,S.kept]
   congr 1
   show [phi (vOf s) (aX (pG s) k)] =_;unfold phi;rw[ea,eb]
  .obtain⟨F,Fc⟩:=S.face;have e1:nxK s (k+1)=nxK s k:=by unfold nxK;rw[eA]
   rw[e1];exact⟨F,Faces.congr Fc λe=>by unfold HK;rw[eH]⟩
 .rw[if_neg hkeep]at kd;have hn:sU (AK s k) (dOf s)[k].a (dOf s)[k].b=true/\sU (AK s k) (dOf s)[k].b (dOf s)[k].a=true:=by unfold x5 at hkeep;rw[Bool.or_eq_true,CN,CN,not_or,Bool.not_eq_false,Bool.not_eq_false]at hkeep;exact hkeep
  have eG:=GG (s:=s) (k:=k) (by grind) (by grind);have hneV:=Ab h (qg (by omega) gd);have hij:(aX (pG s) k).1≠(aX (pG s) k).2:=λe=>hneV (by grind);have off:=aAV h hk;have eA:AK s (k+1)=bW s++(kpR s k++(dOf s).drop (k+1)):=by unfold AK m9;rw[kd,kO]
  have eA0:∀e,e∈AK s k↔e∈AK s (k+1)\/e=(dOf s)[k] :=λe=>by rw[eA];unfold AK m9;rw[ry hk];grind
  have sd:∀p x,eR (AK s (k+1)) p x↔eR (AK s k) p x/\¬((p=(dOf s)[k].a/\x=(dOf s)[k].b)\/(p=(dOf s)[k].b/\x=(dOf s)[k].a)):=λp x=>by
   unfold eR;rw[eA0,eA0];rw[<-eA]at off;constructor
   .intro g;refine⟨g.imp .inl .inl,?_⟩;rintro(⟨rfl,rfl⟩|⟨rfl,rfl⟩)
    .rcases g with g|g
     .grind
     .exact(off _ g).2 rfl
    .rcases g with g|g
     .exact(off _ g).2 rfl
     grind
   grind
  have lenG:=uR s k;have at':∀c,ae (sG s (k+1)).1 c=if c=(aX (pG s) k).1 then uH (ae (sG s k).1 (aX (pG s) k).1) (aX (pG s) k).2 else if c=(aX (pG s) k).2 then uH (ae (sG s k).1 (aX (pG s) k).2) (aX (pG s) k).1 else ae (sG s k).1 c:=λc=>by
   rw[eG];unfold Bn;dsimp only;rw[tq];by_cases h1:c=(aX (pG s) k).1
   .grind
   .rw[if_neg λg=>h1 g.1,if_neg h1,tq];grind
  have sub':∀c,(ae (sG s (k+1)).1 c).Sublist (ae (sG s k).1 c):=λc=>by
   rw[at'];split
   .rename_i e;rw[e];exact List.filter_sublist
   .split
    .rename_i e;rw[e];exact List.filter_sublist
    grind
  have vin:∀{c m:Nat},c<(vOf s).length->m<(vOf s).length->∀x∈ae (sG s k).1 c,(vtx (vOf s) x=aEn (vOf s) m↔x=(m:Int)):=λ{c m} hc hm x hx=>by obtain⟨t,rfl,ht⟩:=S.rng c hc x hx;unfold vtx;rw[i7];exact⟨λe=>by rw[pB h ht hm e],λe=>by grind⟩
  have S':∀c,c<(vOf s).length->∀x,eR (AK s (k+1)) (aEn (vOf s) c) x↔x∈eS (vOf s) (sG s (k+1)).1 c:=λc hc x=>by
   rw[sd,S.mem c hc,<-ea,<-eb];unfold eS;rw[at'];by_cases h1:c=(aX (pG s) k).1
   .subst h1;rw[if_pos rfl];simp only[bM,Ir];grind
   .rw[if_neg h1];by_cases h2:c=(aX (pG s) k).2
    .subst h2;rw[if_pos rfl];simp only[bM,Ir];grind
    .rw[if_neg h2];constructor
     .grind
     .refine λg=>⟨g,?_⟩;rintro(⟨g,_⟩|⟨g,_⟩)
      .exact h1 (pB h hc hi g)
      .exact h2 (pB h hc hj g)
  refine⟨λc hc=>Fan.sub (S.fan c hc) ((sub' c).map _),λc hc x hx=>S.rng c hc x ((sub' c).subset hx),S',?_,?_⟩
  .rw[eG,kd];exact S.kept
  .obtain⟨F,Fc⟩:=S.face;have hs:∀e,HK s k e->sides s (dOf s) e.a e.b:=λe he=>qg (by omega) (uO h (by omega) he);have inD:(dOf s)[k]∈kpR s k++(dOf s).drop k:=by rw[ry hk];exact fY _ cE
   have h1:HK s k ⟨(dOf s)[k].a,(dOf s)[k].b⟩:=by unfold HK lI;exact fY _ (gZ _ inD)
   have h2:HK s k ⟨(dOf s)[k].b,(dOf s)[k].a⟩:=by unfold HK lI;refine fY _ (fY _ (lm.2 inD))
   have t1:=LJ h (by omega) S hi hd (by rw[ea];exact gd) (.inl (by rw[ea]));have t2:=LJ h (by omega) S hj hd (by rw[eb];exact gd') (.inr (by rw[eb]));rw[ea]at t1;rw[eb]at t2;obtain⟨F',Fc'⟩:=aEA.dropR (oR h) (l:=oF (AK s k)) (l':=oF (AK s (k+1))) (L:=u9 (vOf s) (sG s k).1) Fc (X8 S) (λp x=>by rw[xG h (by omega),uA h (by omega) S]) hs
    (λe he=>(uA h (by omega) S _ _).1 (uO h (by omega) he).symm) (λp x=>by rw[xG h (by omega),sd,uA h (by omega) S]) h1 h2 t1 t2 (of_decide_eq_true hn.1) (of_decide_eq_true hn.2)
   refine⟨F',Faces.congr Fc' λe=> ?_⟩;unfold HK lI;rw[kd,ry hk];simp only[bq,bO,lm];have o1:e∈lJ s->e≠(dOf s)[k]/\e≠swp (dOf s)[k] :=λg=>by
    rcases((AO (tgR h) e).1 g).1 with q|q
    .simp_all
    .have:=off _ (gZ _ q);exact⟨λe'=>this.2 (by rw[e'];rfl),λe'=>this.1 (by rw[e'];rfl)⟩
   have o2:e∈kpR s k\/e∈(dOf s).drop (k+1)->e≠(dOf s)[k]/\e≠swp (dOf s)[k] :=λg=>off _ (fY _ (bq.2 g));have o3:swp e∈kpR s k\/swp e∈(dOf s).drop (k+1)->e≠(dOf s)[k]/\e≠swp (dOf s)[k] :=λg=>by have:=off _ (fY _ (bq.2 g));exact⟨λe'=>this.2 (by rw[e']),λe'=>this.1 (by rw[e'];rfl)⟩
   constructor
   .rintro⟨g|(g|g|g)|(g|g|g),q1,q2⟩
    .exact .inl g
    .grind
    .simp_all
    .grind
    .grind
    .exact absurd (show e=⟨(dOf s)[k].b,(dOf s)[k].a⟩ by rw[<-g];rfl) q2
    grind
   .rintro(g|(g|g)|(g|g))
    .exact⟨.inl g,o1 g⟩
    .exact⟨.inr (.inl (.inl g)),o2 (.inl g)⟩
    .exact⟨.inr (.inl (.inr (.inr g))),o2 (.inr g)⟩
    .exact⟨.inr (.inr (.inl g)),o3 (.inl g)⟩
    .exact⟨.inr (.inr (.inr (.inr g))),o3 (.inr g)⟩
end
end
section
section
variable {s:Shape}
def pF(h:aa s=true):∀k,k<=(dOf s).length->Stg s k
 |0,_=>Stg.start h
 |k+1,hk=>Stg.step h (by omega) (pF h k (by omega))
def sok(h:aa s=true):SOk s:=λk hk=>by rw[qj]at hk;have S:=pF h k (by omega);obtain⟨hi,hj,ea,eb⟩:=NU h hk;have gd:eR (AK s k) (dOf s)[k].a (dOf s)[k].b:= .inl (by unfold AK m9;rw[ry hk];grind);refine⟨S.ar h hi hj (by grind),S.ar h hj hi (by rw[ea,eb];exact gd.symm),λe=> ?_⟩;exact Ab h (qg (by omega) gd) (by grind)
end
end
section
def AF(l:List Int)(a c:Nat)(x:Int):cu (l.set a x) c=if c=a/\a<l.length then x else cu l c:=by unfold cu;grind
def FP(n base m:Nat)(N:List Int):∀i,i<=m->∀c,¬(base<=c/\c<base+m)->cu (rgN n base m i N) c=cu N c
 |0,_,c,_=>rfl
 |i+1,hi,c,hc=>by
  have ih:=FP n base m N i (by omega) c hc;have:=bk (i+1) (show 0<m by omega);unfold rgN;split
  .rw[AF,if_neg (by omega)];exact ih
  .rw[AF,if_neg (by omega)];exact ih
def Li(base m:Nat)(N:List Int)(hN:base+m<=N.length):∀i,i<=m->∀t,t<i->cu (rgN 0 base m i N) (base+t)=((base+(t+1) % m:Nat):Int)
 |0,_,t,ht=>by omega
 |i+1,hi,t,ht=>by
  unfold rgN;rw[if_pos rfl,AF];by_cases e:t=i
  .subst e;rw[if_pos ⟨rfl,by rw[xO];omega⟩]
  .rw[if_neg (by omega)];exact Li base m N hN i (by omega) t (by omega)
def aAw{m t i:Nat}(h:t<i)(hi:i<m):(t+1) % m≠(i+1) % m:=by
 rw[dj (show t+1<m by omega)];by_cases e:i+1=m
 .simp_all
 .rw[dj (by omega)];omega
def NH{n:Nat}(hn:n≠0)(base m:Nat)(N:List Int)(hN:base+m<=N.length):∀i,i<=m->∀t,t<i->cu (rgN n base m i N) (base+(t+1) % m)=((base+t:Nat):Int)
 |0,_,t,ht=>by omega
 |i+1,hi,t,ht=>by
  have:=bk (i+1) (show 0<m by omega);unfold rgN;rw[if_neg hn,AF];by_cases e:t=i
  .subst e;rw[if_pos ⟨rfl,by rw[xO];omega⟩]
  .have:=aAw (m:=m) (show t<i by omega) (by omega);rw[if_neg (by omega)];exact NH hn base m N hN i (by omega) t (by omega)
def Zq{R:List aD}{a b:Nat}(h:a<b)(hb:b<=R.length):bs R a+(aC R a).length<=bs R b:=by
 rw[qe (by omega)];obtain⟨d,rfl⟩:∃d,b=a+1+d:=⟨b-(a+1),by omega⟩;clear h hb;induction d with
 |zero=>grind
 |succ d ih=>
  refine cR ih ?_;unfold bs;rw[show a+1+(d+1)=a+1+d+1 by omega,rL,vo,fw];omega
def Od{R:List aD}{N:List Int}(hN:R.flatten.length<=N.length):∀k,k<=R.length->∀a,a<k->∀t,t<(aC R a).length->
  (a=0->cu (rsN R k N) (bs R a+t)=((bs R a+(t+1) % (aC R a).length:Nat):Int))/\(a≠0->cu (rsN R k N) (bs R a+(t+1) % (aC R a).length)=((bs R a+t:Nat):Int))
 |0,_,a,ha,t,ht=>by omega
 |k+1,hk,a,ha,t,ht=>by
  have hl:bs R k+(aC R k).length<=(rsN R k N).length:=by rw[FN];have h1:=qe (R:=R) (k:=k) (by omega);have h2:=ut R (k+1);omega
  have hm:=bk (t+1) (show 0<(aC R a).length by omega);unfold rsN;by_cases e:a=k
  .subst e;refine⟨λh0=> ?_,λh0=>NH h0 _ _ _ hl _ (bQ _) t ht⟩;subst h0;exact Li _ _ _ hl _ (bQ _) t ht
  .have ih:=Od hN k (by omega) a (by omega) t ht;have hb:=Zq (R:=R) (a:=a) (b:=k) (by omega) (by omega);exact⟨λh0=>by rw[FP _ _ _ _ _ (bQ _) _ (by omega)];exact ih.1 h0,λh0=>by rw[FP _ _ _ _ _ (bQ _) _ (by omega)];exact ih.2 h0⟩
def Jq:∀(R:List aD) (i:Nat),i<R.flatten.length->∃k,k<R.length/\∃t,t<(aC R k).length/\i=bs R k+t
 |[],i,h=>by simp at h
 |r::R,i,h=>by
  by_cases h1:i<r.length
  .exact⟨0,by simp,i,h1,by show i=0+i;omega⟩
  .rw[lN,fw]at h;obtain⟨k,hk,t,ht,e⟩:=Jq R (i-r.length) (by omega);refine⟨k+1,by grind,t,ht,?_⟩;have e2:bs (r::R) (k+1)=r.length+bs R k:=by unfold bs;rw[List.take_succ_cons,lN,fw]
   omega
section
variable {s:Shape}
def Bj(h:aa s=true){a t:Nat}(ha:a<(aE (aK s)).length)(ht:t<(aC (aE (aK s)) a).length):
  (a=0->cu (nG s) (bs (aE (aK s)) a+t)=((bs (aE (aK s)) a+(t+1) % (aC (aE (aK s)) a).length:Nat):Int))/\(a≠0->cu (nG s) (bs (aE (aK s)) a+(t+1) % (aC (aE (aK s)) a).length)=((bs (aE (aK s)) a+t:Nat):Int)):=
 Od (by rw[yg,nT h];omega) _ (bQ _) a ha t ht
def Sx(h:aa s=true){a:Nat}(ha:a<(aE (aK s)).length)(h0:a≠0):∃q∈s.holes,aC (aE (aK s)) a=co q:=by
 rw[mV h]at ha|-;obtain⟨b,rfl⟩:∃b,a=b+1:=⟨a-1,by omega⟩;have hb:b<(dC s).holes.length:=by unfold aE at ha;simpa using ha
 have hm:aC (dC s).holes b∈(dC s).holes:=gG hb;obtain⟨q,hq,e⟩:=bM.1 ((lV _).mem_iff.1 hm);exact⟨q,hq,e.symm⟩
def KH(h:aa s=true):aC (aE (aK s)) 0=co s.outer:=by rw[mV h];rfl
def N9{r:aD}{e:S}(he:e∈aJ r):∃t,t<r.length/\e=⟨aEn r t,aEn r ((t+1) % r.length)⟩:=by
 unfold aJ at he;split at he
 .cases he
 .obtain⟨t,ht,rfl⟩:=bM.1 he;exact⟨t,bz.1 ht,rfl⟩
def Nu{r:aD}(h2:2<=r.length){t:Nat}(ht:t<r.length):(⟨aEn r t,aEn r ((t+1) % r.length)⟩:S)∈aJ r:=by unfold aJ;rw[if_neg (by omega)];exact bM.2 ⟨t,bz.2 ht,rfl⟩
def GK(h:aa s=true){i:Nat}(hi:i<(vOf s).length):∃j:Nat,cu (nG s) i=j/\j<(vOf s).length/\(⟨aEn (vOf s) i,aEn (vOf s) j⟩:S)∈lJ s:=by
 have hi2:=hi;rw[nT h]at hi2;obtain⟨k,hk,t,ht,e⟩:=Jq _ i hi2;have h2:=AD h _ (gG hk);have hl:bs (aE (aK s)) k+(aC (aE (aK s)) k).length<=(vOf s).length:=by have h1:=qe hk;have h3:=ut (aE (aK s)) (k+1);rw[nT h];omega
 have fl:∀u,u<(aC (aE (aK s)) k).length->aEn (vOf s) (bs (aE (aK s)) k+u)=aEn (aC (aE (aK s)) k) u:=λu hu=>by rw[nT h];exact xF _ k u hk hu
 have hm:∀u,u % (aC (aE (aK s)) k).length<(aC (aE (aK s)) k).length:=λu=>bk _ (by omega);by_cases h0:k=0
 .refine⟨_,by rw[e];exact(Bj h hk ht).1 h0,by have:=hm (t+1);omega,?_⟩;rw[e,fl t ht,fl _ (hm _)];have g:=Nu h2 ht;unfold lJ;refine gZ _ ((rO s.outer _).1 ?_);subst h0;rw[KH h]at g|-;exact g
 .have ht0:=hm (t+(aC (aE (aK s)) k).length-1);have et:((t+(aC (aE (aK s)) k).length-1) % (aC (aE (aK s)) k).length+1) % (aC (aE (aK s)) k).length=t:=by rw[kN,show t+(aC (aE (aK s)) k).length-1+1=t+(aC (aE (aK s)) k).length by omega,od,dj ht]
  have g:=(Bj h hk ht0).2 h0;have g2:=Nu h2 ht0;rw[et]at g g2;refine⟨_,by rw[e];exact g,by omega,?_⟩;rw[e,fl t ht,fl _ ht0];obtain⟨q,hq,eq⟩:=Sx h hk h0;unfold lJ;refine fY _ (lm.2 (dI.2 ⟨q,hq,(rO q _).1 ?_⟩));rw[<-eq];exact g2
end
end
end Go.Proofs.YtdaeofhdgabhjaaGreat
