/- What the statement stands on: contracts of functions, plain laws. Part 5 of 6, no condition of its own. (J6 J7 J8 K18 K41 N0 N00 Shelf J9 J10 J12 K13 K14 K26 L2 K27 K28 K29 K30 J15 K31 K32 K33 K34 Q0 K37) -/
import Derived.Test.YtdaeofhdgabhjaaGreatCP4
import Derived.Deep.DeepCutAuto
import Derived.Calls
import Derived.Test.YtdaeofhdgabhjaaGreatRows
import Derived.ProofKit
import Derived.Carry
import Derived.SizedLaws
import Derived.Deep.SlicePairs
import Derived.Lib.SmallJoins
set_option linter.all false
set_option maxRecDepth 100000
set_option maxHeartbeats 8000000
open Go.Oper renaming semAt_some->yy
open Go.Proofs.Tryz renaming prog->bE,func179->Ct,underlying24->Cu,underlying3->rY,underlying23->Sd,underlying26->Sf
open Go.Value renaming int->cg
open List renaming map_flatMap->IW,size_toArray->rW,length_cons->gk,length_nil->lv,push_toArray->wF,append_toArray->wG,nil_append->qT,cons_append->kM,map_map->dq,length->dA,mem_append->bg,foldl_cons->yX,map_cons->dB,mem_cons_self->cI,getElem?_take->pD,getElem?_drop->vX,getElem?_eq_getElem->dp,length_eq_zero_iff->ni,mem_cons->bT,getElem?_eq_some_iff->rX,flatMap_cons->fM,length_map->da,getElem?_map->gW,mem_of_getElem?->IP,mem_map->bZ,Perm.refl->CU,Pairwise.nil->tT,pairwise_map->kK,pairwise_iff_getElem->nU,Perm.eq_of_pairwise->SK,mem_cons_of_mem->cE,nodup_append->nV,map->dS,take->aP,take_succ_eq_append_getElem->iR,map_append->dM,take_of_length_le->fT,any->fe,all->tg,flatten->ff,flatten_append->te,flatten_singleton->Se,take_append_drop->vu,length_append->eW,getElem_mem->lI,getElem_map->jG,pairwise_cons->iB,replicate->cS,length_set->vw,length_replicate->rZ,getD->j0,set->kO,length_singleton->tU,length_take->l6,length_pos_of_mem->IY,not_mem_nil->cn,mem_singleton->bi,filter->re,range->bQ,range_succ->qS,filter_append->pI,drop->cY,Nodup->rh,flatMap->kN,flatMap_append->pH,take_add_one->lJ,foldl_append->vz,any_eq_true->l0,take_length->ke,mem_range->cG,getElem_of_mem->jX,all_eq_false->v6,all_eq_true->bk,mem_flatMap->cZ,length_filter_le->yt,length_range->yf,cons.injEq->pP,getElem_range->qO,reverse->ic
open Nat renaming lt_of_lt_of_le->vl,reduceAdd->v8,reduceSub->wA,le_refl->bI,le_trans->cF,eq_zero_or_pos->qN,zero_le->iY,le_of_eq->y4,zero_add->jy,le_antisymm->tf,mul_le_mul->tX,mod_lt->bq
open Go.World renaming cell?_of_block->jI,block_lt_of_cell?->jz,cell?_spot->IZ
open Array renaming replicate_succ->wC,replicate_zero->wD,getElem?_eq_some_iff->v7
open Go.Act renaming put->mh
open Go.IntKind renaming i64->i7,wrap->yx
open Option renaming map_some->eO,some.injEq->fc
open And renaming intro->bl
open Decidable renaming of_not_not->rb
open Go.Sem renaming run->fo
open Go.Result renaming ok->yz
open Go.Sort renaming grow->Cv
open Bool renaming eq_false_iff->vZ,and_eq_true->bw,true_and->nT,eq_iff_iff->fm
open Function renaming comp->CW
open Int renaming tmod->cD,tdiv->eP,toNat_of_nonneg->IX,toNat_natCast->iF
open Go.DataW renaming weights->ml,weightsEach->Sh
open Go.Addr renaming add->Cj,add_mid->vj
open Go.RowKit
open Go.Proofs.YtdaeofhdgabhjaaGreat.Geo
open Go.Proofs.YtdaeofhdgabhjaaGreat.Geo renaming V->aEZ,nth->aEY,rowP->aE6,sub->aE1,S->aE0,aJ->aE7,fF->aE2,eI->aE8
namespace Go.Proofs.YtdaeofhdgabhjaaGreat
section
open Go.RowKit Go.Shelf
attribute [local go_sem] yy
def Ww(a:Option Addr)(c:Nat)(xs:List aEZ)(w:World)(h:RdV w a xs)(h0:0<xs.length)(hl:Len ⟨a,c,xs⟩):
  Calls bE 125 #[.slice a xs.length c] w λe w'=>∃a' c',e= .returned (.slice a' xs.length c')/\Rd w' a' (kB xs)/\jV w.heap.size a'/\(a'=none->c'=0)/\xs.length<=c'/\Below w.heap.size w w':=by
 have e1:kB xs=(xs.flatMap λv=>[v.x,v.y]).map (cg .i64):=by unfold kB;rw[IW];rfl
 rw[e1];exact Nh (t:= .V) (l:=xs) (n:=xs.flatMap λv=>[v.x,v.y]) (by unfold LT.enc;rw[IW];rfl) h hl (Rz [.lst .V xs] xs rfl ((jd (l:=R8.pre xs)).1 ⟨h0,hl.1⟩))
def RdV.grown{w w':World}{a:Option Addr}{xs:List aEZ}{row:Option Nat}(h:RdV w a xs)(hr:0<xs.length->∀b,a=some b->row≠some b.block)(hg:w.grownBy w' row):RdV w' a xs:=by intro i hi;obtain⟨b,off,rfl,hb,h0,h1⟩:=h i hi;have e:=hg.block b hb (λe=>hr (by omega) _ rfl e.symm);exact⟨b,off,rfl,vl hb hg.size,(jI (a:=⟨b,_,none⟩) e).trans h0,(jI (a:=⟨b,_,none⟩) e).trans h1⟩
def RdV.iy{w:World}{a:Option Addr}{xs:List aEZ}{p:Addr}{u:Value}(h:RdV w a xs)(hp:0<xs.length->∀b,a=some b->p.block≠b.block):RdV (w.setCell p u) a xs:=by intro i hi;obtain⟨b,off,rfl,hb,h0,h1⟩:=h i hi;have e:=Below.heap_setCell w p u b (λe=>hp (by omega) _ rfl (by grind));exact⟨b,off,rfl,by grind,(jI (a:=⟨b,_,none⟩) e).trans h0,(jI (a:=⟨b,_,none⟩) e).trans h1⟩
def RdV.own{W W':World}{a:Option Addr}{xs:List aEZ}{row:Option Nat}(h:RdV W a xs)(hg:W.grownBy W' row)(hr:∀r,row=some r->∃o:Obj,W.heap[r]? =some o/\o.isCells=false):RdV W' a xs:=by intro i hi;obtain⟨b,off,rfl,hb,h0,h1⟩:=h i hi;exact⟨b,off,rfl,vl hb hg.size,cell_kept h0 hg hr,cell_kept h1 hg hr⟩
def RdV.lt{w:World}{a:Option Addr}{xs:List aEZ}(h:RdV w a xs)(h0:0<xs.length):∀b,a=some b->b.block<w.heap.size:=by intro b e;obtain⟨b',off,he,hb,_⟩:=h 0 h0;grind
structure RingOk(base:Nat)(w:World)(v:Value)(x:RV):Prop where
 rd:RdV w x.a x.r
 fresh:jV base x.a
 cap:x.r.length<=x.c
 len:x.r.length<=1000
 sep:0<x.r.length->∀b,x.a=some b->v.ownBlock≠some b.block
structure Rings(base bx:Nat)(w:World)(v:Value)(rs:List RV):Prop where
 box:Blk w bx 24 #[v]
 row:w.ownsRow base 23 1 v rs.length (rs.map RV.enc)
 ok:∀x∈rs,RingOk base w v x
def V4{β:Type}{B base bx:Nat}{p:β->List RV->Prop}:OwnFrom B (λ(s:β) W=>∃v rs,Rings base bx W v rs/\p s rs):=λs W W' row ⟨v,rs,h,hp⟩ hg hr=>
 ⟨v,rs,⟨mz (cs:=λ_:β=> #[v]) s W W' row h.box hg hr,DL h.row hg (λr e=>(hr r e).2),λx hx=>⟨(h.ok x hx).rd.own hg (λr e=>(hr r e).2),(h.ok x hx).fresh,(h.ok x hx).cap,(h.ok x hx).len,(h.ok x hx).sep⟩⟩,hp⟩
def Sv(o:RV)(ah:Option Addr)(ch:Nat)(hs:List RV)(w:World)(H:RdSh w o ah hs)(hp0:∀x∈o::hs,0<x.r.length):
  Calls bE 56 #[.agg #[RV.enc o,.slice ah hs.length ch]] w λe w'=>∃(v:Value) (rs:List RV),e= .returned v/\rs.map RV.r=aD (eK o hs)/\w'.ownsRow w.heap.size 23 1 v rs.length (rs.map RV.enc)/\(∀x∈rs,RingOk w.heap.size w' v x)/\Below w.heap.size w w':=by
 refine(callsIn_wide (n:=9)).1 (callsIn_of_wp_marks Tryz.func56 rfl trivial ((wpIn_wide (n:=9)).2 ?_) rfl);simp only[Tryz.ntmps56,rW,gk,lv,v8,wA,wC,wD,wF,wG,qT,kM];dsimp only[RV.enc]
 go_wp2_with fail
 refine(zm o ah hs.length ch _).mono ?_;rintro e w1 ⟨rfl,rfl⟩
 go_wp2_with fail
 have B3:=(Blk.new (w.alloc (.cells #[.slice o.a o.r.length o.c,.slice ah hs.length ch] 26)) 24 #[.slice none 0 0]).alloc (.cells #[RV.enc o,.slice ah hs.length ch] 26);have B4:=Blk.new ((w.alloc (.cells #[.slice o.a o.r.length o.c,.slice ah hs.length ch] 26)).alloc (.cells #[.slice none 0 0] 24)) 26 #[RV.enc o,.slice ah hs.length ch];have hBW:Below w.heap.size w ((((w.alloc (.cells #[.slice o.a o.r.length o.c,.slice ah hs.length ch] 26)).alloc (.cells #[.slice none 0 0] 24))).alloc (.cells #[RV.enc o,.slice ah hs.length ch] 26)):=(((Below.refl _ _).alloc (bI _) _).alloc (by simp) _).alloc (by simp;omega) _;have hs0:w.heap.size+3=((((w.alloc (.cells #[.slice o.a o.r.length o.c,.slice ah hs.length ch] 26)).alloc (.cells #[.slice none 0 0] 24))).alloc (.cells #[RV.enc o,.slice ah hs.length ch] 26)).heap.size:=by simp
 simp only[World.size_alloc]at B3 B4;generalize (((w.alloc (.cells #[.slice o.a o.r.length o.c,.slice ah hs.length ch] 26)).alloc (.cells #[.slice none 0 0] 24))).alloc (.cells #[RV.enc o,.slice ah hs.length ch] 26)=W0 at B3 B4 hBW hs0|-;refine(wpIn_wide (n:=9)).1 ?_
 refine' wpIn_rangeFunc_ownF (F:=Fence.wide) (n:=9) rfl (by omega) (gf:=179) (lb:= #[.pointer (some ⟨w.heap.size+1+1,0,none⟩)]) rfl trivial (enters_of Ct (by kernel_rfl) rfl)
  (zA Fence.wide 8 trivial rfl (by omega) (w.heap.size+1+1) w.heap.size o ah ch hs H.n W0 (by omega) B4 (H.h.below hBW)) Kp2.trans (Bv (by omega) (by omega)) (Below.refl _ _) (λ_=>rfl)
  (λpre W=>(Blk W (w.heap.size+1+1) 26 #[RV.enc o,.slice ah hs.length ch]/\∃v rs,Rings (w.heap.size+3) (w.heap.size+1) W v rs/\rs.map RV.r=pre.map λx=>x.1.r)/\(w.heap.size+3<=W.heap.size/\Below w.heap.size w W))
  (λc pre W=>False/\False)
  (OwnFrom.and (OwnFrom.and mz V4) (OwnFrom.and (λs A B row h hg _=>cF h hg.size) (ownFrom_below (bI _) (by omega))))
  (λc=>OwnFrom.and qy qy)
  ⟨⟨B4,_,[],⟨B3,World.ownsRow_nil _ _ _ _,λx hx=>by cases hx⟩,rfl⟩,by omega,hBW⟩ _ ?assign ?body ?done ?stop
 case assign=>
  intro l x W K hK;dsimp only[RV.enc]
  gi_wp2
  exact hK
 case stop=>
  grind
 case done=>
  rintro D xs W hD hxs ⟨⟨b4,v,rs,hR,hm⟩,_,hb⟩ hK;have c3:=hR.box.cell 0;simp at c3;have hD2:w.heap.size<=D:=by omega
  have hm2:rs.map RV.r=aD (eK o hs):=by
   have e:(xs.map λx=>x.1.r)=(xs.map (·.1)).map RV.r:=by rw[dq];rfl
   rw[hm,e,hxs];rfl
  clear hxs b4 B3 B4 hBW hs0 hD hm;have hmk:∀x∈rs,RingOk w.heap.size (W.putObj D (.deferred none)) v x:=λx hx=>⟨(hR.ok x hx).rd.own (grownBy_putObj' W D _) (λr e=>by cases e;exact⟨_,hK,rfl⟩),(hR.ok x hx).fresh.mono (by omega),(hR.ok x hx).cap,(hR.ok x hx).len,(hR.ok x hx).sep⟩;have hrow:=hR.row;clear hR
  go_wp2
  exact D7 (v:=v) rfl rfl hK ⟨v,rs,rfl,hm2,Ir (Iq hrow hK _) (by omega),hmk,hb.trans (mq hD2 hK)⟩
 case body=>
  rintro l pre ⟨⟨xa,xc,xr⟩,hxm⟩ W ⟨⟨b4,u3,rs,hR,hm⟩,hsz,hb⟩ hlen;obtain⟨hxr,hxl⟩:=H.v _ hxm;dsimp only at hxr hxl;have hxn:xr.length<=1000:=hxl.1;have hrl:rs.length<=1001:=by have h1:=congrArg dA hm;have h2:=H.n;simp at h1;omega
  have HE:Hid (∀rs':List RV,rs'.map RV.r=rs.map RV.r++[xr]->rs'.map RV.r=(pre++[(⟨⟨xa,xc,xr⟩,hxm⟩:Mem o hs)]).map λx=>x.1.r):=Lib.hid (λrs' h=>by grind);have b3:=hR.box;have hrow:=hR.row;clear hm B3 B4 hBW hs0;refine wpIn_block ?_;dsimp only[RV.enc];refine C3 (by kernel_rfl) (by kernel_rfl) [8,9,10,11,12] [[],[],[1],[1,2],[0,1,2,3],[0,1,2,3,4]] (by kernel_rfl) (by kernel_rfl) (by simp_all)
   (WR3 4 5 (λwx=>Below W.heap.size W wx) (λwx=>(∀x∈rs,RdV wx x.a x.r)/\Blk wx (w.heap.size+1) 24 #[u3]/\Blk wx (w.heap.size+1+1) 26 #[RV.enc o,.slice ah hs.length ch]/\Below w.heap.size w wx/\KeepsOthers W wx/\Below w.heap.size W wx/\w.heap.size+3<=wx.heap.size) (λwx=>∃v rs',Rings (w.heap.size+3) (w.heap.size+1) wx v rs'/\rs'.map RV.r=rs.map RV.r++[xr]/\Blk wx (w.heap.size+1+1) 26 #[RV.enc o,.slice ah hs.length ch]/\Below w.heap.size w wx/\KeepsOthers W wx/\Below w.heap.size W wx/\w.heap.size+3<=wx.heap.size))
   (λi v wx=>match i with
     |0=>v=u3
     |1=>v= .slice xa xr.length xc
     |2=>∃a c,v= .slice a xr.length c/\RdV wx a xr/\jV W.heap.size a/\xr.length<=c
     |3=>∃a c g,v= .slice (some ⟨g,0,none⟩) 1 1/\Blk wx g 23 #[.slice a xr.length c]/\W.heap.size<=g/\RdV wx a xr/\jV W.heap.size a/\xr.length<=c
     |4=>∃a c,wx.ownsRow (w.heap.size+3) 23 1 v (rs.length+1) (rs.map RV.enc++[.slice a xr.length c])/\RdV wx a xr/\jV W.heap.size a/\xr.length<=c/\(∀k,v.ownBlock=some k->u3.ownBlock=some k\/W.heap.size<=k)/\(0<xr.length->∀b,a=some b->v.ownBlock≠some b.block)
     |5=>True
     |_=>True)
   (WR3.start (Below.refl _ _).drew) ?_ ?_ ?_
  .intro j v wx wy hf hxy;match j with
   |0=>exact hf
   |1=>exact hf
   |2=>obtain⟨a,c,h1,h2,h3⟩:=hf;exact⟨a,c,h1,h2.below hxy,h3⟩
   |3=>obtain⟨a,c,g,h1,h2,h3,h4,h5⟩:=hf;exact⟨a,c,g,h1,h2.then_ hxy,h3,h4.below hxy,h5⟩
   |4=>obtain⟨a,c,h1,h2,h3⟩:=hf;exact⟨a,c,th h1 hxy,h2.below hxy,h3⟩
   |5=>exact hf
   |_+6=>exact trivial
  .refine⟨?_,?_,?_,?_,?_,?_,trivial⟩
   .intro D V wx hD hanc hdesc hin hWR;have hA:=hWR.lo (hdesc 4 (by kernel_rfl)) (hdesc 5 (by kernel_rfl));have e3:=hin 3 (by kernel_rfl);simp at e3;have q0:=(Blk.then_ b3 hA).cell 0;simp at q0;refine opK ?_;intro K hK;simp[cN,execOp,bK,e3,q0,go_sem];exact hK _ _ ⟨rfl,(hWR.keep (by decide) (by decide)),.inl rfl⟩
   .intro D V wx hD hanc hdesc hin hWR;have hA:=hWR.lo (hdesc 4 (by kernel_rfl)) (hdesc 5 (by kernel_rfl));have e4:=hin 4 (by kernel_rfl);simp at e4;refine opK ?_;intro K hK;simp[cN,execOp,bK,e4,go_sem];exact hK _ _ ⟨rfl,(hWR.keep (by decide) (by decide)),.inl rfl⟩
   .intro D V wx hD hanc hdesc hin hWR;have hA:=hWR.lo (hdesc 4 (by kernel_rfl)) (hdesc 5 (by kernel_rfl));have e9:V 9= .slice xa xr.length xc:=(hanc 1 (by kernel_rfl)).2;refine opK ?_;intro K hK;simp[cN,execOp,bK,e9,go_sem];refine(Ww xa xc xr _ (hxr.below (hb.trans (hA.mono hb.size))) (hp0 _ hxm) hxl).mono ?_;rintro e w1 ⟨a,c,rfl,hR',hF,hN,hC,hc⟩;exact⟨_,rfl,hK _ _ ⟨⟨a,c,rfl,RdV.aBe hR',hF.mono hA.size,hC⟩,(.mkLo (hdesc 4 (by kernel_rfl)) (hdesc 5 (by kernel_rfl)) (by decide) (by decide) (Below.then_ hA hc)),.inr (.inl hc)⟩⟩
   .intro D V wx hD hanc hdesc hin hWR;have hA:=hWR.lo (hdesc 4 (by kernel_rfl)) (hdesc 5 (by kernel_rfl));have e10:=(hanc 2 (by kernel_rfl)).2;refine opK ?_;intro K hK;obtain⟨a,c,e10,r1,r2,r3⟩:=e10;have e10:V 10=_:=e10;simp[cN,execOp,bK,e10,go_sem];refine hK _ _ ⟨⟨a,c,_,rfl,Blk.new _ _ _,hA.size,r1.below ((Below.refl _ _).alloc (bI _) _),r2,r3⟩,(.mkLo (hdesc 4 (by kernel_rfl)) (hdesc 5 (by kernel_rfl)) (by decide) (by decide) (hA.alloc hA.size _)),.inr (.inl ((Below.refl _ _).alloc (bI _) _))⟩
   .intro D V wx hD hanc hdesc hin hWR;have hA:=hWR.lo hD (hdesc 5 (by kernel_rfl));have e8:V 8=u3:=(hanc 0 (by kernel_rfl)).2;have e11:=(hanc 3 (by kernel_rfl)).2;refine opK ?_;intro K hK;obtain⟨a,c,g,e11,k1,k2,k3,k4,k5⟩:=e11;have e11:V 11=_:=e11;refine D8 (.tmp 8) (.tmp 11) 24 rfl (w.heap.size+3) 23 (.slice none 0 0) 1 24 Cu (by kernel_rfl) rfl (by decide) u3 _ _ e8 (th hrow hA) _ _ _ [.slice a xr.length c] e11 rfl (Rd.aAH k1) (λh=>by cases h) (by intro u hu;simp at hu;subst hu;rfl) (by omega) (by omega) (by have:=hA.size;omega) ?_;intro v' w' h1 h2 h3 h4;have hbx:=(Blk.then_ b3 hA);have hbr:=(Blk.then_ b4 hA);have hro:=th hrow hA;have hlt:=k3.lt;refine hK _ _ ⟨⟨a,c,h1,k3.grown (λ_ b hb e=>by have:=k4 b hb;have:=(qU hrow _ e).2;omega) h3,k4,k5,(λk hk=>(h4 k hk).imp id (λh=>cF hA.size h)),(λh0 b hb e=>by have:=hlt h0 b hb;have:=k4 b hb;rcases h4 _ e with h|h<;>first|omega|(have:=(qU hrow _ h).2;omega))⟩,.mkMid (hdesc 5 (by kernel_rfl)) (by decide) ⟨(λx hx=>((hR.ok x hx).rd.below hA).grown (hR.ok x hx).sep h3),wP h3 hbx (AR hro (by omega)),wP h3 hbr (AR hro (by omega)),(hb.trans (hA.mono hb.size)).trans (h2.mono (by omega)),(zL hA).trans (LB hro h3),((Below.refl w.heap.size W).trans (hA.mono hb.size)).trans (h2.mono (by omega)),by have:=hA.size;have:=h2.size;omega⟩,.inr (.inr ?_)⟩;intro j hj hf;match j with
    |0=>exact hf
    |1=>exact hf
    |2=>obtain⟨a,c,g1,g2,g3,g4⟩:=hf;exact⟨a,c,g1,g2.grown (λ_ b hb e=>by have:=g3 b hb;have:=(qU hrow _ e).2;omega) h3,g3,g4⟩
    |3=>obtain⟨a,c,g,g1,g2,g5,g6,g3,g4⟩:=hf;exact⟨a,c,g,g1,wP h3 g2 (λe=>by have:=(qU hrow _ e).2;omega),g5,g6.grown (λ_ b hb e=>by have:=g3 b hb;have:=(qU hrow _ e).2;omega) h3,g3,g4⟩
    |4=>grind
    |5=>omega
    |_+6=>exact trivial
   .intro D V wx hD hanc hdesc hin hWR;have hB:=hWR.mid (hanc 4 (by kernel_rfl)).1 hD;have e3:=hin 3 (by kernel_rfl);simp at e3;have e12:=(hanc 4 (by kernel_rfl)).2;refine opK ?_;intro K hK;have q0:=hB.2.1.cell 0;have f0:=hB.2.1.frozen 0;simp at q0;obtain⟨a,c,e12,k2,k3,k4,k5,k6⟩:=e12;have e12:wx.ownsRow (w.heap.size+3) 23 1 (V 12) (rs.length+1) (rs.map RV.enc++[.slice a xr.length c]):=e12;have e3:V 3=_:=e3;have k5:∀k,(V 12).ownBlock=some k->_:=k5;have k6:0<xr.length->∀b,a=some b->(V 12).ownBlock≠some b.block:=k6;obtain⟨ra,rc,hv,_,_,_⟩:=Rd.GU e12;rw[hv]at e12 k5 k6;simp[cN,execOp,bK,e3,hv,q0,f0,go_sem];have HRK:∀x∈rs++[(⟨a,c,xr⟩:RV)],RingOk (w.heap.size+3) (wx.setCell ⟨w.heap.size+1,0,none⟩ (.slice ra (rs.length+1) rc)) (.slice ra (rs.length+1) rc) x:=by
     intro x hx;rcases bg.1 hx with h|h
     .have ok:=hR.ok x h;refine⟨(hB.1 x h).iy (λ_ b hb=>by have:=ok.fresh b hb;grind),ok.fresh,ok.cap,ok.len,λh0 b hb e=> ?_⟩;rcases k5 _ e with e2|e2
      .exact ok.sep h0 b hb e2
      .have:=ok.rd.lt h0 b hb;omega
     .simp at h;subst h;exact⟨k2.iy (λ_ b hb=>by have:=k3 b hb;grind),k3.mono hsz,k4,hxn,k6⟩
    refine hK _ _ ⟨trivial,.mkHi ⟨_,rs++[⟨a,c,xr⟩],⟨by simpa using hB.2.1.iy 0 (.slice ra (rs.length+1) rc),by simpa[RV.enc]using zK e12 (by grind),HRK⟩,by simp,hB.2.2.1.far (by simp) _,hB.2.2.2.1.setCell (p:=⟨w.heap.size+1,0,none⟩) (by simp) _,hB.2.2.2.2.1.trans (KeepsOthers.setCell _ _ _),hB.2.2.2.2.2.1.setCell (p:=⟨w.heap.size+1,0,none⟩) (by simp) _,by simpa using hB.2.2.2.2.2.2⟩,.inr (.inr ?_)⟩;intro j hj hf;match j with
    |0=>exact hf
    |1=>exact hf
    |2=>obtain⟨a,c,g1,g2,g3,g4⟩:=hf;exact⟨a,c,g1,g2.iy (λ_ b hb=>by have:=g3 b hb;grind),g3,g4⟩
    |3=>obtain⟨a,c,g,g1,g2,g5,g6,g3,g4⟩:=hf;exact⟨a,c,g,g1,g2.far (by grind) _,g5,g6.iy (λ_ b hb=>by have:=g3 b hb;grind),g3,g4⟩
    |4=>obtain⟨a,c,g1,g2,g3,g4,g5,g6⟩:=hf;exact⟨a,c,zK g1 (by grind),g2.iy (λ_ b hb=>by have:=g3 b hb;grind),g3,g4,g5,g6⟩
    |5=>omega
    |_+6=>exact trivial
  intro D V wx hall hf hWR;replace hWR:=hWR.hi (hall 5 (by decide));have f0:V 8=u3:=hf 0 (by decide);have f1:V 9= .slice xa xr.length xc:=hf 1 (by decide);have f2:=hf 2 (by decide);have f3:=hf 3 (by decide);have f4:=hf 4 (by decide);clear hf hall;simp only[iK,yX,List.foldl_nil,f0,f1];simp only[mh,List.setIfInBounds_toArray,List.set_cons_succ,List.set_cons_zero];clear f0 f1;obtain⟨v',rs',k1,k2,k3,k4,k5,k6,k7⟩:=hWR;exact⟨k5,⟨k6,Eq.trans k3 (Eq.symm b4)⟩,⟨k3,v',rs',k1,HE.out _ k2⟩,k7,k4⟩
end
section
open Go.RowKit Go.Shelf
attribute [local go_sem] yy
def nA(s:Shape):Int:=area s.outer-(s.holes.map area).sum
def GD{xs:List aEZ}(h:co xs=true): -8000000000<=area xs/\area xs<=8000000000:=by have V:=(jZ xs).1 h;have h:=vE V.near xs.length (bI _);have e:ar xs xs.length=area xs:=rfl;have:=V.most;omega
def jg{o:RV}{hs:List RV}(pre:List (Mem o hs)):Int:=(pre.map λx=>area x.1.r).sum
def Td{o:RV}{hs:List RV}(pre:List (Mem o hs))(x:Mem o hs):jg (pre++[x])=jg pre+area x.1.r:=by unfold jg;simp
def VZ{o:RV}{hs:List RV}(hv:∀x∈o::hs,co x.r=true)(pre:List (Mem o hs)): -(8000000000*(pre.length:Int))<=jg pre/\jg pre<=8000000000*(pre.length:Int):=by
 induction pre with
 |nil=>simp[jg]
 |cons x l ih=>
  have:=GD (hv x.1 x.2);unfold jg at*;grind
def UR{o:RV}{hs:List RV}{xs:List (Mem o hs)}(h:xs.map (·.1)=o::hs):area o.r*2-jg xs=nA (eK o hs):=by
 have e:(xs.map λx=>area x.1.r)=(xs.map (·.1)).map λx=>area x.r:=by rw[dq];rfl
 unfold jg nA eK;rw[e,h];simp only[dB,List.sum_cons,dq,Function.comp_def];omega
def TN{s:Shape}(h:ak s=true):∀r∈aD s,co r=true:=by rw[wM]at h;grind
def S9(o:RV)(ah:Option Addr)(ch:Nat)(hs:List RV)(w:World)(H:RdSh w o ah hs)(hch:hs.length<=ch):
  Calls bE 90 #[.agg #[RV.enc o,.slice ah hs.length ch]] w λe w'=>e= .returned (.int .i64 (if ak (eK o hs)then nA (eK o hs)else 0))/\Below w.heap.size w w':=by
 have HB0:=Blk.new w 26 #[RV.enc o,.slice ah hs.length ch];have hB0:Below w.heap.size w (w.alloc (.cells #[RV.enc o,.slice ah hs.length ch] 26)):=(Below.refl _ _).alloc (bI _) _;cases hv:ak (eK o hs)with
 |false=>
  refine(callsIn_wide (n:=9)).1 (callsIn_of_wp_marks Tryz.func90 rfl trivial ((wpIn_wide (n:=9)).2 ?_) rfl);simp only[Tryz.ntmps90,rW,gk,lv,v8,wA,wC,wD,wF,wG,qT,kM]
  go_wp2_with fail
  refine(Cz o ah ch hs _ (H.below hB0) hch).mono ?_;rintro e w1 ⟨rfl,hb1⟩;rw[hv]
  go_wp2_with fail
  exact JW (v:= .int .i64 0) (by simp[results,Tryz.f90]) rfl ⟨rfl,hB0.trans (hb1.mono hB0.size)⟩
 |true=>
  have hval:∀x∈o::hs,co x.r=true:=λx hx=>TN hv x.r (by unfold aD eK;grind)
  have hAO:=GD (hval o cI);have hAO2:(if co o.r then area o.r else 0)=area o.r:=by rw[hval o cI];rfl
  refine(callsIn_wide (n:=9)).1 (callsIn_of_wp_marks Tryz.func90 rfl trivial ((wpIn_wide (n:=9)).2 ?_) rfl);simp only[Tryz.ntmps90,rW,gk,lv,v8,wA,wC,wD,wF,wG,qT,kM]
  go_wp2_with fail
  refine(Cz o ah ch hs _ (H.below hB0) hch).mono ?_;rintro e w1 ⟨rfl,hb1⟩;rw[hv];have B1:=HB0.then_ hb1;have hB1:=hB0.trans (hb1.mono hB0.size);have hsz1:w.heap.size+1<=w1.heap.size:=by simpa using hb1.size
  clear HB0 hB0 hb1;have c0:=B1.cell 0;have c1:=B1.cell 1;simp at c0 c1
  go_wp2_with fail
  refine(K9 o.a o.c o.r _ ((H.v o cI).1.below hB1) (H.v o cI).2).mono ?_;rintro e w2 ⟨rfl,hb2⟩;rw[hAO2];have B2:=B1.then_ hb2;have hB2:=hB1.trans (hb2.mono hB1.size);have hsz2:w.heap.size+1<=w2.heap.size:=cF hsz1 hb2.size;clear B1 hB1 hb2 c0 c1 hsz1 hAO2;generalize hAe:area o.r=A at hAO;have B2a:=B2.alloc (.cells #[.int .i64 (2*A)] 3);have B3:=Blk.new w2 3 #[.int .i64 (2*A)];have hB2a:=hB2.alloc hB2.size (.cells #[.int .i64 (2*A)] 3);have hsz3:w.heap.size+1<=(w2.alloc (.cells #[.int .i64 (2*A)] 3)).heap.size:=by simp;omega
  have hp3:w2.heap.size<(w2.alloc (.cells #[.int .i64 (2*A)] 3)).heap.size:=by simp
  have c0:=B2a.cell 0;have c1:=B2a.cell 1;simp at c0 c1;obtain⟨p3,hp3e⟩:∃p,p=w2.heap.size:=⟨_,rfl⟩;rw[<-hp3e]at B3 hp3 hsz2
  go_wp2_with fail
  rw[<-hp3e];clear hp3e;generalize w2.alloc (.cells #[.int .i64 (2*A)] 3)=w3 at B2a B3 hB2a hsz3 hp3 c0 c1|-;clear B2 hB2;refine(zm o ah hs.length ch _).mono ?_;rintro e w4 ⟨rfl,rfl⟩
  go_wp2_with fail
  have B3':=B3.alloc (.cells #[RV.enc o,.slice ah hs.length ch] 26);have B4:=Blk.new w3 26 #[RV.enc o,.slice ah hs.length ch];have hB4:=hB2a.alloc hB2a.size (.cells #[RV.enc o,.slice ah hs.length ch] 26);have hsz4:w3.heap.size<(w3.alloc (.cells #[RV.enc o,.slice ah hs.length ch] 26)).heap.size:=by simp
  obtain⟨p4,hp4e⟩:∃p,p=w3.heap.size:=⟨_,rfl⟩;rw[<-hp4e]at B4 hp3 hsz3 hsz4;rw[<-hp4e];clear hp4e B3 B2a c0 c1 hB2a;generalize w3.alloc (.cells #[RV.enc o,.slice ah hs.length ch] 26)=W0 at B3' B4 hB4 hsz4|-;refine(wpIn_wide (n:=9)).1 ?_
  refine' wpIn_rangeFunc_ownF (F:=Fence.wide) (n:=9) rfl (by omega) (gf:=179) (lb:= #[.pointer (some ⟨p4,0,none⟩)]) rfl trivial (enters_of Ct (by kernel_rfl) rfl)
   (zA Fence.wide 8 trivial rfl (by omega) p4 w.heap.size o ah ch hs H.n W0 (by omega) B4 (H.h.below hB4)) Kp2.trans (Bv (by omega) (by omega)) (Below.refl _ _) (λ_=>rfl)
   (λpre W=>(Blk W p4 26 #[RV.enc o,.slice ah hs.length ch]/\Blk W p3 3 #[.int .i64 (2*A-jg pre)])/\Below w.heap.size w W)
   (λc pre W=>False/\False)
   (OwnFrom.and (OwnFrom.and mz mz) (ownFrom_below (bI _) (by omega)))
   (λc=>OwnFrom.and qy qy)
   ⟨⟨B4,by simpa[jg]using B3'⟩,hB4⟩ _ ?assign ?body ?done ?stop
  case assign=>
   intro l x W K hK;dsimp only[RV.enc]
   gi_wp2
   exact hK
  case stop=>
   grind
  case done=>
   rintro D xs W hD hxs ⟨⟨b4,b3⟩,hb⟩ hK;have hres:2*A-jg xs=nA (eK o hs):=by have:=UR hxs;rw[hAe]at this;omega
   rw[hres]at b3;have hD2:w.heap.size<=D:=by omega
   clear hxs hres b4 B4 B3' hB4;have c3:=b3.cell 0;simp at c3
   go_wp2
   exact D7 (v:= .int .i64 (nA (eK o hs))) rfl rfl hK ⟨rfl,hb.trans (mq hD2 hK)⟩
  case body=>
   rintro l pre ⟨⟨xa,xc,xr⟩,hxm⟩ W ⟨⟨b4,b3⟩,hb⟩ hlen;obtain⟨hxr,hxl⟩:=H.v _ hxm;have hvx:=hval _ hxm;have hA:=GD hvx;dsimp only at hxr hxl hvx hA;have HE:Hid (jg (pre++[(⟨⟨xa,xc,xr⟩,hxm⟩:Mem o hs)])=jg pre+area xr):=Lib.hid (Td _ _);have hbd:=VZ hval pre;have hN:=H.n;have hX2:(if co xr then area xr else 0)=area xr:=by rw[hvx];rfl
   have hwrap:i7.wrap (2*A-jg pre-area xr)=2*A-jg pre-area xr:=IntWalk.i64_in _ ⟨by omega,by omega⟩;generalize jg pre=S at HE hbd b3 hwrap;have hX:=Lib.hid hX2;clear hX2 hvx hval B4 B3' hB4;refine wpIn_block ?_;dsimp only[RV.enc];refine C3 (by kernel_rfl) (by kernel_rfl) [15,16,17,18] [[],[],[1],[0,1,2],[0,1,2,3]] (by kernel_rfl) (by kernel_rfl) (by simp_all)
    (WR2 4 (λwx=>Below W.heap.size W wx) (λwx=>Blk wx p3 3 #[.int .i64 (2*A-S-area xr)]/\Blk wx p4 26 #[RV.enc o,.slice ah hs.length ch]/\Below w.heap.size w wx/\KeepsOthers W wx/\Below w.heap.size W wx))
    (λi v wx=>match i with
      |0=>v= .int .i64 (2*A-S)
      |1=>v= .slice xa xr.length xc
      |2=>v= .int .i64 (area xr)
      |3=>v= .int .i64 (2*A-S-area xr)
      |4=>True
      |_=>True)
    (WR2.start (Below.refl _ _).drew) ?_ ?_ ?_
   .grind
   .refine⟨?_,?_,?_,?_,?_,trivial⟩
    .intro D V wx hD hanc hdesc hin hWR;have hA:=hWR.lo (hdesc 4 (by kernel_rfl));have e3:=hin 3 (by kernel_rfl);simp at e3;have q0:=(Blk.then_ b3 hA).cell 0;simp at q0;refine opK ?_;intro K hK;simp[cN,execOp,bK,e3,q0,go_sem];exact hK _ _ ⟨rfl,(hWR.keep (by decide)),.inl rfl⟩
    .intro D V wx hD hanc hdesc hin hWR;have hA:=hWR.lo (hdesc 4 (by kernel_rfl));have e4:=hin 4 (by kernel_rfl);simp at e4;refine opK ?_;intro K hK;simp[cN,execOp,bK,e4,go_sem];exact hK _ _ ⟨rfl,(hWR.keep (by decide)),.inl rfl⟩
    .intro D V wx hD hanc hdesc hin hWR;have hA:=hWR.lo (hdesc 4 (by kernel_rfl));have e16:V 16= .slice xa xr.length xc:=(hanc 1 (by kernel_rfl)).2;refine opK ?_;intro K hK;simp[cN,execOp,bK,e16,go_sem];refine(K9 xa xc xr _ (hxr.below (hb.trans (hA.mono hb.size))) hxl).mono ?_;rintro e w1 ⟨rfl,hc⟩;rw[hX.out];exact⟨_,rfl,hK _ _ ⟨rfl,(.mkLo (hdesc 4 (by kernel_rfl)) (by decide) (Below.then_ hA hc)),.inr (.inl hc)⟩⟩
    .intro D V wx hD hanc hdesc hin hWR;have hA:=hWR.lo (hdesc 4 (by kernel_rfl));have e15:V 15= .int .i64 (2*A-S):=(hanc 0 (by kernel_rfl)).2;have e17:V 17= .int .i64 (area xr):=(hanc 2 (by kernel_rfl)).2;refine opK ?_;intro K hK;simp[cN,execOp,bK,e15,e17,hwrap,go_sem];exact hK _ _ ⟨rfl,(hWR.keep (by decide)),.inl rfl⟩
    .intro D V wx hD hanc hdesc hin hWR;have hA:=hWR.lo hD;have e3:=hin 3 (by kernel_rfl);simp at e3;have e18:V 18= .int .i64 (2*A-S-area xr):=(hanc 3 (by kernel_rfl)).2;refine opK ?_;intro K hK;have q0:=(Blk.then_ b3 hA).cell 0;have f0:=(Blk.then_ b3 hA).frozen 0;simp at q0;simp[cN,execOp,bK,e3,e18,q0,f0,go_sem];refine hK _ _ ⟨trivial,.mkHi ⟨by simpa using(Blk.then_ b3 hA).iy 0 (.int .i64 (2*A-S-area xr)),(Blk.then_ b4 hA).far (by grind) _,(hb.trans (hA.mono hb.size)).setCell (p:=⟨p3,0,none⟩) (by grind) _,(zL hA).trans (KeepsOthers.setCell _ _ _),((Below.refl w.heap.size W).trans (hA.mono hb.size)).setCell (p:=⟨p3,0,none⟩) (by grind) _⟩,.inr (.inr ?_)⟩;grind
   intro D V wx hall hf hWR;replace hWR:=hWR.hi (hall 4 (by decide));have f0:V 15= .int .i64 (2*A-S):=hf 0 (by decide);have f1:V 16= .slice xa xr.length xc:=hf 1 (by decide);have f2:V 17= .int .i64 (area xr):=hf 2 (by decide);have f3:V 18= .int .i64 (2*A-S-area xr):=hf 3 (by decide);clear hf hall;simp only[iK,yX,List.foldl_nil,f0,f1,f2,f3];simp only[mh,List.setIfInBounds_toArray,List.set_cons_succ,List.set_cons_zero];clear f0 f1 f2 f3;obtain⟨k1,k2,k3,k4,k5⟩:=hWR;refine⟨k4,⟨k5,Eq.trans k2 (Eq.symm b4)⟩,⟨k2,?_⟩,k3⟩;rw[HE.out,show 2*A-(S+area xr)=2*A-S-area xr by omega];exact k1
end
section
section
variable {C:bG} {w:World}
def cP.rdV(hC:∀b o v,C b o v->w.cell? ⟨b,o,none⟩=some v){r:List V}{b o:Nat}(h:cP C (fZ r) b o):RdV w (some ⟨b,o,none⟩) r:=by
 intro i hi;have h1:=ur.at r i hi;have g0:(fZ r)[i*2]? =some (.int .i64 r[i].x):=by have:=congrArg (λl=>l[0]?) h1;simpa[pD,vX]using this
 have g1:(fZ r)[i*2+1]? =some (.int .i64 r[i].y):=by have:=congrArg (λl=>l[1]?) h1;simpa[pD,vX]using this
 obtain⟨v0,a1,_,a3⟩:=cP.get _ _ _ h _ _ g0;obtain⟨v1,b1,_,b3⟩:=cP.get _ _ _ h _ _ g1;unfold aX at a3 b3;subst a3 b3;have en:aEY r i=r[i] :=by unfold aEY;rw[List.getD_eq_getElem?_getD,dp hi];rfl
 refine⟨b,o,rfl,jz w ⟨b,_,none⟩ (hC _ _ _ a1),?_,?_⟩
 .grind
 grind
def Em(hC:∀b o v,C b o v->w.cell? ⟨b,o,none⟩=some v){r:List V}{v:Value}(h:aX C (gR r) v):∃a c,v= .slice a r.length c/\RdV w a r/\r.length<=c/\(a=none->c=0):=by
 unfold gR aX at h;obtain⟨a,c,rfl,h1,h2,h3⟩:=h;refine⟨a,c,rfl,?_,h1,λe=>(h2 e).1⟩;cases a with
 |none=>
  have:r=[] :=by have:=congrArg dA (h2 rfl).2;rw[ur.length]at this;exact ni.1 (by grind)
  subst this;intro i hi;simp at hi
 |some ad=>
  obtain⟨b,o,sp⟩:=ad;obtain⟨h4,h5⟩:=h3 _ rfl;dsimp only at h4 h5;rcases qN r.length with hr0|hr0
  .intro i hi;omega
  .have h4:=h4 hr0;subst h4;exact h5.rdV hC
def I3(hC:∀b o v,C b o v->w.cell? ⟨b,o,none⟩=some v):∀(l:List aH) (b o:Nat),cP C (l.map gR) b o->∃hs:List RV,hs.map RV.r=l/\(∀i,i<hs.length->b<w.heap.size/\w.cell? ⟨b,o+i,none⟩=some (RV.enc (hs.getD i default)))/\∀x∈hs,RdV w x.a x.r/\x.r.length<=x.c/\(x.a=none->x.c=0)
 |[],b,o,_=>⟨[],rfl,(λi h=>by simp at h),λx h=>by cases h⟩
 |r::l,b,o,h=>by
  rw[dB]at h;unfold cP at h;obtain⟨⟨v,h1,_,h2⟩,h3⟩:=h;obtain⟨a,c,rfl,h4,h5⟩:=Em hC h2;obtain⟨hs,g1,g2,g3⟩:=I3 hC l b (o+1) h3;refine⟨⟨a,c,r⟩::hs,by simp[g1],?_,?_⟩
  .intro i hi;cases i with
   |zero=>exact⟨jz w ⟨b,_,none⟩ (hC _ _ _ h1),by simpa[RV.enc]using hC _ _ _ h1⟩
   |succ i=>
    grind
  grind
def V3(hC:∀b o v,C b o v->w.cell? ⟨b,o,none⟩=some v){l:List aH}{v:Value}(h:aX C (oR l) v):
  ∃ah ch,∃hs:List RV,v= .slice ah hs.length ch/\hs.length<=ch/\hs.map RV.r=l/\RdH w.heap.size w ah hs/\∀x∈hs,RdV w x.a x.r/\x.r.length<=x.c/\(x.a=none->x.c=0):=by
 unfold oR aX at h;obtain⟨a,c,rfl,h1,h2,h3⟩:=h;cases a with
 |none=>
  have:l=[] :=by simpa using(h2 rfl).2
  subst this;exact⟨none,c,[],rfl,iY _,rfl,(λi hi=>by simp at hi),λx hx=>by cases hx⟩
 |some ad=>
  obtain⟨b,o,sp⟩:=ad;obtain⟨h4,h5⟩:=h3 _ rfl;dsimp only at h4 h5;rcases qN l.length with hl0|hl0
  .have:l=[] :=ni.1 hl0;subst this;exact⟨_,c,[],rfl,iY _,rfl,(λi hi=>by simp at hi),λx hx=>by cases hx⟩
  have h4:=h4 hl0;subst h4;obtain⟨hs,g1,g2,g3⟩:=I3 hC l b o h5;have hl:hs.length=l.length:=by rw[<-g1];simp
  exact⟨_,c,hs,by rw[hl],by omega,g1,λi hi=>⟨b,o,rfl,(g2 i hi).1,(g2 i hi).2⟩,g3⟩
def zh(hC:∀b o v,C b o v->w.cell? ⟨b,o,none⟩=some v){s:Shape}{v:Value}(hf:Fit s)(h:aX C (kS s) v):
  ∃o ah ch hs,v= .agg #[RV.enc o,.slice ah hs.length ch]/\RdSh w o ah hs/\hs.length<=ch/\(∀x∈o::hs,x.r.length<=x.c)/\eK o hs=s:=by
 unfold kS aX at h;obtain⟨vs,rfl,h1,_⟩:=h;unfold az at h1;obtain⟨v1,r1,rfl,h2,h3⟩:=h1;unfold az at h3;obtain⟨v2,r2,rfl,h4,h5⟩:=h3;unfold az at h5;subst h5;obtain⟨a,c,rfl,g1,g2⟩:=Em hC h2;obtain⟨ah,ch,hs,rfl,k1,k2,k3,k4⟩:=V3 hC h4;have hl:hs.length=s.holes.length:=by rw[<-k2];simp
 refine⟨⟨a,c,s.outer⟩,ah,ch,hs,rfl,⟨k3,?_,by rw[hl];have:=hf.2.1;omega⟩,k1,?_,by unfold eK;rw[k2]⟩
 .intro x hx;rcases bT.1 hx with rfl|hx
  .exact⟨g1,hf.1,g2.1,g2.2⟩
  .exact⟨(k4 x hx).1,hf.2.2 _ (by grind),(k4 x hx).2.1,(k4 x hx).2.2⟩
 grind
def D4{cs:List PV}{us:List Value}{a:Option Addr}{n c N:Nat}(hr:Rd w a us)(hf:jV N a)(hn:a=none->c=0)(hc:n<=c)(hu:us.length=cs.length)(hsp:cs=[]->∀ad,a=some ad->ad.spot=none)
  (hv:∀(i:Nat) x u,cs[i]? =some x->us[i]? =some u->u.oneCell'=true/\aX (λb o x=>N<=b/\w.cell? ⟨b,o,none⟩=some x) x u):aX (λb o x=>N<=b/\w.cell? ⟨b,o,none⟩=some x) (.sl n cs) (.slice a n c):=by
 unfold aX;refine⟨a,c,rfl,hc,λha=>⟨hn ha,?_⟩,λad ha=> ?_⟩
 .cases cs with
  |nil=>rfl
  |cons x cs=>
   cases us with
   |nil=>simp at hu
   |cons u us=>obtain⟨b,off,h1,_⟩:=hr 0 u rfl;grind
 .subst ha;cases cs with
  |nil=>
   exact⟨λ_=>hsp rfl _ rfl,by unfold cP;trivial⟩
  |cons x cs=>
   cases us with
   |nil=>simp at hu
   |cons u us=>
    obtain⟨b,off,h1,_⟩:=hr 0 u rfl;cases h1;refine⟨λ_=>rfl,cP.of _ _ _ λi y hi=> ?_⟩;have hlt:i<(u::us).length:=by rw[hu];exact(rX.1 hi).1
    have hui:(u::us)[i]? =some (u::us)[i] :=dp hlt;obtain⟨b',off',h2,_,h3⟩:=hr i _ hui;cases h2;obtain⟨g1,g2⟩:=hv i y _ hi hui;exact⟨_,⟨hf _ rfl,h3⟩,g1,g2⟩
end
def VL{C:bG}(r:List V):(kB r).length=(fZ r).length/\∀(i:Nat) x u,(fZ r)[i]? =some x->(kB r)[i]? =some u->u.oneCell'=true/\aX C x u:=by
 refine⟨by rw[DB,ur.length],?_⟩;have key:∀(l:List V) (i:Nat) x u,(l.flatMap λv=>[PV.int .i64 v.x,PV.int .i64 v.y])[i]? =some x->(l.flatMap λv=>[cg .i64 v.x,cg .i64 v.y])[i]? =some u->u.oneCell'=true/\aX C x u:=by
  intro l;induction l with
  |nil=>grind
  |cons v l ih=>
   intro i x u h1 h2;simp only[fM,kM,qT]at h1 h2;match i with
   |0=>simp at h1 h2;subst h1 h2;exact⟨rfl,by unfold aX;rfl⟩
   |1=>simp at h1 h2;subst h1 h2;exact⟨rfl,by unfold aX;rfl⟩
   |i+2=>grind
 exact key r
def VM{C:bG}(r:List S):(ir r).length=(CQ r).length/\∀(i:Nat) x u,(CQ r)[i]? =some x->(ir r)[i]? =some u->u.oneCell'=true/\aX C x u:=by
 refine⟨by rw[Iv,aA8.length],?_⟩;have key:∀(l:List S) (i:Nat) x u,(l.flatMap λs=>[PV.int .i64 s.a.x,PV.int .i64 s.a.y,PV.int .i64 s.b.x,PV.int .i64 s.b.y])[i]? =some x->(l.flatMap λs=>[cg .i64 s.a.x,cg .i64 s.a.y,cg .i64 s.b.x,cg .i64 s.b.y])[i]? =some u->u.oneCell'=true/\aX C x u:=by
  intro l;induction l with
  |nil=>grind
  |cons v l ih=>
   intro i x u h1 h2;simp only[fM,kM,qT]at h1 h2;match i with
   |0=>simp at h1 h2;subst h1 h2;exact⟨rfl,by unfold aX;rfl⟩
   |1=>simp at h1 h2;subst h1 h2;exact⟨rfl,by unfold aX;rfl⟩
   |2=>simp at h1 h2;subst h1 h2;exact⟨rfl,by unfold aX;rfl⟩
   |3=>simp at h1 h2;subst h1 h2;exact⟨rfl,by unfold aX;rfl⟩
   |i+4=>grind
 exact key r
def Xk{w:World}{N:Nat}{v:Value}{xs:List S}(h:w.ownsRow N 46 4 v xs.length (ir xs)):aX (λb o x=>N<=b/\w.cell? ⟨b,o,none⟩=some x) (Gz xs) v:=by
 have hsp:∀a c,v= .slice a xs.length c->∀ad,a=some ad->ad.spot=none:=by
  intro a c hv ad ha;rcases h.2 with⟨h1,_⟩|⟨g,cap,cur,h1,_⟩
  .grind
  .grind
 obtain⟨a,c,rfl,h1,h2,h3,h4⟩:=Rd.Nn h;obtain⟨g1,g2⟩:=VM (C:=λb o x=>N<=b/\w.cell? ⟨b,o,none⟩=some x) xs;exact D4 h1 h2 h3 h4 g1 (λ_=>hsp a c rfl) g2
def Xr{w:World}{N:Nat}{a:Option Addr}{c:Nat}{xs:List V}(h:RdV w a xs)(hf:jV N a)(hc:xs.length<=c)(h0:0<xs.length):aX (λb o x=>N<=b/\w.cell? ⟨b,o,none⟩=some x) (gR xs) (.slice a xs.length c):=by
 obtain⟨b0,o0,rfl,_⟩:=h 0 h0;obtain⟨g1,g2⟩:=VL (C:=λb o x=>N<=b/\w.cell? ⟨b,o,none⟩=some x) xs;refine D4 (us:=kB xs) ?_ hf (λh=>by cases h) hc g1 (λ_ ad ha=>by cases ha;rfl) g2;intro i u hi;have hlt:i<xs.length*2:=by rw[<-DB];exact(rX.1 hi).1
 obtain⟨k,hk⟩:∃k,i=k*2\/i=k*2+1:=⟨i/2,by omega⟩;obtain⟨b,o,he,h1,h2,h3⟩:=h k (by omega);cases he;obtain⟨f0,f1⟩:=EN xs k (by omega);grind
section
variable {fr:Bool}
def Sx(s:Shape)(hf:Fit s):Sat bE true 55 [kS s] (.bool (ak s)):=by refine⟨by kernel_rfl,λC w vs hC h=> ?_⟩;unfold az at h;obtain⟨v,r,rfl,h1,h2⟩:=h;unfold az at h2;subst h2;obtain⟨o,ah,ch,hs,rfl,H,hch,_,rfl⟩:=zh hC hf h1;refine(Cz o ah ch hs w H hch).mono ?_;rintro e w' ⟨rfl,hb⟩;exact⟨_,rfl,by unfold aX;rfl,hb⟩
def Sz(s:Shape)(hf:Fit s):Sat bE true 131 [kS s] (Gz (aa s)):=by
 refine⟨by kernel_rfl,λC w vs hC h=> ?_⟩;unfold az at h;obtain⟨v,r,rfl,h1,h2⟩:=h;unfold az at h2;subst h2;obtain⟨o,ah,ch,hs,rfl,H,hch,_,rfl⟩:=zh hC hf h1;have hn:hs.length<=900:=by have:=hf.2.1;simpa[eK]using this
 refine(Sw o ah ch hs w H hn).mono ?_;rintro e w' ⟨v,rfl,hrow,hb⟩;exact⟨_,rfl,aX.mono (λb o x h=> .inr h) _ _ (Xk hrow),hb⟩
def TA(s:Shape)(hf:Fit s):Sat bE true 90 [kS s] (.int .i64 (if ak s then nA s else 0)):=by refine⟨by kernel_rfl,λC w vs hC h=> ?_⟩;unfold az at h;obtain⟨v,r,rfl,h1,h2⟩:=h;unfold az at h2;subst h2;obtain⟨o,ah,ch,hs,rfl,H,hch,_,rfl⟩:=zh hC hf h1;refine(S9 o ah ch hs w H hch).mono ?_;rintro e w' ⟨rfl,hb⟩;exact⟨_,rfl,by unfold aX;rfl,hb⟩
def Ul{w:World}{N:Nat}{v:Value}{rs:List RV}(h:w.ownsRow N 23 1 v rs.length (rs.map RV.enc))(hx:∀x∈rs,RdV w x.a x.r/\jV N x.a/\x.r.length<=x.c/\0<x.r.length):
  aX (λb o x=>N<=b/\w.cell? ⟨b,o,none⟩=some x) (oR (rs.map RV.r)) v:=by
 have hsp:∀a c,v= .slice a rs.length c->∀ad,a=some ad->ad.spot=none:=by
  intro a c hv ad ha;rcases h.2 with⟨h1,_⟩|⟨g,cap,cur,h1,_⟩
  .grind
  .grind
 obtain⟨a,c,rfl,h1,h2,h3,h4⟩:=Rd.Nn h;unfold oR;rw[da];refine D4 h1 h2 h3 h4 (by simp) (λ_=>hsp a c rfl) ?_;intro i x u hi hu;rw[gW,gW]at hi;rw[gW]at hu;cases hr:rs[i]? with
 |none=>grind
 |some y=>
  rw[hr]at hi hu;simp only[eO,fc]at hi hu;subst hi hu;obtain⟨k1,k2,k3,k4⟩:=hx y (IP hr);exact⟨rfl,Xr k1 k2 k3 k4⟩
def Sy(s:Shape)(hf:Fit s)(hp:0<s.outer.length/\∀r∈s.holes,0<r.length):Sat bE true 56 [kS s] (oR (aD s)):=by
 refine⟨by kernel_rfl,λC w vs hC h=> ?_⟩;unfold az at h;obtain⟨v,r,rfl,h1,h2⟩:=h;unfold az at h2;subst h2;obtain⟨o,ah,ch,hs,rfl,H,hch,_,rfl⟩:=zh hC hf h1;refine(Sv o ah ch hs w H λx hx=>by rcases bT.1 hx with rfl|hx;exact hp.1;exact hp.2 _ (bZ.2 ⟨x,hx,rfl⟩)).mono ?_;rintro e w' ⟨v,rs,rfl,hrs,hrow,hok,hb⟩;refine⟨_,rfl,aX.mono (λb o x h=> .inr h) _ _ ?_,hb⟩;rw[<-hrs];refine Ul hrow λx hx=>⟨(hok x hx).rd,(hok x hx).fresh,(hok x hx).cap,?_⟩;have hm:x.r∈aD (eK o hs):=by rw[<-hrs];exact bZ.2 ⟨x,hx,rfl⟩
 unfold aD at hm;grind
end
def yR{α:Type}(fr:Bool)(A:Arl α)(pre:α->List Prop)(res:α->SV):Con:=⟨α,A.dec,pre,.val fr res⟩
def A7{f:FuncId}{fr:Bool}{α:Type}{A:Arl α}{pre:α->List Prop}{res:α->SV}(B:α->List PV)(q:α->PV)(hB:∀x,avs (A.enc x)=(B x).map .p)(hq:∀x,(res x).av= .p (q x))(h:∀x,o8 (pre x)->Sat bE fr f (B x) (q x)):(yR fr A pre res).Okz f:=by intro s x hd hp;exact⟨B x,q x,(A.ok s x hd).trans (hB x),hq x,h x (jd.2 hp)⟩
def tG(l:List aH):LT.R.enc l=l.map gR:=by
 unfold LT.enc;induction l with
 |nil=>rfl
 |cons r l ih=>rw[fM,ih];rfl
def Ba(s:Shape):avs ((a1 aSh).enc s)=[kS s].map .p:=by show [SV.av (.agg [.lst .V s.outer,.lst .R s.holes])] =_;show [eR [.p (.sl s.outer.length (fZ s.outer)),.p (.sl s.holes.length (LT.R.enc s.holes))]] =_;rw[tG];rfl
def c55:Con:=yR true (a1 aSh) (λs=>[Fit s]) (λs=> .bool (ak s))
def k55:c55.Okz 55:=A7 (λs=>[kS s]) (λs=> .bool (ak s)) Ba (λ_=>rfl) λs h=>Sx s h
def aEy:Con:=yR true (a1 aSh) (λs=>[Fit s]) (λs=> .lst .S (aa s))
def aCW:aEy.Okz 131:=A7 (λs=>[kS s]) (λs=>Gz (aa s)) Ba (λ_=>rfl) λs h=>Sz s h
def c90:Con:=yR true (a1 aSh) (λs=>[Fit s]) (λs=> .int .i64 (if ak s=true then nA s else 0))
def k90:c90.Okz 90:=A7 (λs=>[kS s]) (λs=> .int .i64 (if ak s=true then nA s else 0)) Ba (λ_=>rfl) λs h=>TA s h
def c56:Con:=yR true (a1 aSh) (λs=>[Fit s,0<s.outer.length,∀r∈s.holes,0<r.length]) (λs=> .lst .R (aD s))
def k56:c56.Okz 56:=A7 (λs=>[kS s]) (λs=>oR (aD s)) Ba (λs=>by show AV.p (.sl _ (LT.R.enc _))=_;rw[tG];rfl) λs h=>Sy s h.1 h.2
noncomputable def tS:=(((B9.adk k56).adk k90).adk aCW).adk k55
end
noncomputable def c77:Con:=con (ac (aL .V) (ac (aL .V) (a1 (aF 78)))) (λ(a,b,_)=>[a.length<=1000000,b.length<=1000000]) (λ(a,b,_)=> .iqz (cL a b))
def k77:c77.Okz 77:=ag B9 (λ(a,b,_)=>[lp 2 13 a.length (λk=>[k<=b.length,aM (λj=>bn (aEY a j) (aEY b j)=0) k]) [] bW bW]
  ) (λ(_,_,_)=>⟨_,rfl⟩) λ(a,b,u) hp=>aY (aA (b.length:Int) λD=>aA (a.length:Int) λE=>(0=(0:Int)/\(0:Nat)<=a.length/\(0:Nat)<=b.length/\aM (λj=>bn (aEY a j) (aEY b j)=0) 0)/\
 (∀x:Nat,aA (x:Int) λA=>aA (aEY a x) λB=>aA (aEY b x) λC=>x<=a.length/\x<=b.length/\aM (λj=>bn (aEY a j) (aEY b j)=0) x->(A<a.length->ix A a.length/\(D<=x->1=cL a b)/\
   (¬D<=x->ix A b.length/\(¬bn B C=0->bn B C=cL a b)/\
    (¬(¬bn B C=0)->aE (A+1)/\A+1=((x+1:Nat):Int)/\x+1<=a.length/\x+1<=b.length/\aM (λj=>bn (aEY a j) (aEY b j)=0) (x+1)/\a.length-(x+1)<a.length-x)))/\
  (¬A<a.length->(E<b.length-> -1=cL a b)/\
   (¬E<b.length->0=cL a b)))) (by kernel_rfl) (by
  change a.length<=1000000/\b.length<=1000000 at hp;have g1:∀x:Nat,(x:Int)<a.length->x<=b.length->aM (λj=>bn (aEY a j) (aEY b j)=0) x->(b.length:Int)<=x->1=cL a b:=λx h1 h2 h3 h4=>by rw[zN (k:=x) (by omega) h2 (.inr (by omega)) h3];unfold sgn;omega
  have g2:∀x:Nat,¬(x:Int)<a.length->x<=a.length->x<=b.length->aM (λj=>bn (aEY a j) (aEY b j)=0) x->cL a b=sgn ((a.length:Int)-b.length):=λx h1 h2 h3 h4=>zN h2 h3 (.inl (by omega)) h4;have s1:(a.length:Int)<b.length-> -1=sgn ((a.length:Int)-b.length):=λh=>by unfold sgn;omega
  have s2:(a.length:Int)=b.length->0=sgn ((a.length:Int)-b.length):=λh=>by unfold sgn;omega
  with_reducible ((repeat' first|apply bl|intro);all_goals repeat cases‹_/\_›)
  all_goals first|rfl|exact(Dl ‹_› ‹_› (by omega) (by omega)).symm|exact g1 _ ‹_› ‹_› ‹_› ‹_› |(rw[g2 _ ‹_› ‹_› ‹_› ‹_›];first|exact s1 ‹_› |omega)|exact bz ‹_› (rb ‹¬¬_›)|grind)
noncomputable def t77:=B9.adk k77
noncomputable def c26:Con:=con (ac (aL .V) (a1 (aL .V))) (λ(a,b)=>[a.length<=1000000,b.length<=1000000]) (λ(a,b)=> .iqz (cL a b))
def k26:c26.Okz 26:=ag t77 (λ(_,_)=>[]
 ) (λ(_,_)=>⟨_,rfl⟩) λ(a,b) hp=>aY (a.length<=1000000/\b.length<=1000000/\cL a b=cL a b) (by kernel_rfl) (by
 change a.length<=1000000/\b.length<=1000000 at hp;omega)
noncomputable def t26:=t77.adk k26
noncomputable def R7:Con:=con (ac (aL .V) (a1 (aL .V))) (λ(a,b)=>[a.length<=1000,b.length<=1000,0<a.length,0<b.length]) (λ(a,b)=> .iqz (bn (aEY a 0) (aEY b 0)))
def aC0:R7.Okz 127:=ag t26 (λ(_,_)=>[]
 ) (λ(_,_)=>⟨_,rfl⟩) λ(a,b) hp=>aY (ix 0 a.length/\ix 0 b.length/\bn (aEY a 0) (aEY b 0)=bn (aEY a 0) (aEY b 0)) (by kernel_rfl) (by
 change a.length<=1000/\b.length<=1000/\0<a.length/\0<b.length at hp;exact⟨by unfold ix;omega,by unfold ix;omega,rfl⟩)
def Ea{α:Type}:∀(a:Ask α) (w:World),w.drawn<=(w.ask a).2.drawn
 | .done a,w=>bI _
 | .ask what range k,w=>by
   unfold World.ask;dsimp only;split
   .exact Ea _ w
   .exact cF (Nat.le_succ w.drawn) (Ea (k _) {w with drawn:=w.drawn+1})
def KA(w:World)(c:Sys):w.drawn<=(w.sys c).2.drawn:=by have h:=Ea (Kernel.perform c w.os) w;unfold World.sys;grind
def Sn{p:Program}{w w':World}{at_:Addr}{u:TypeId}{k:Addr}{v:Value}{b:Bool}{l:List Addr}(h:w.viewStore p at_ u k v b= .ok (w',l)):w'.drawn=w.drawn:=by
 unfold World.viewStore at h;simp only[bind,Except.bind,pure,Except.pure]at h
 repeat' split at h
 all_goals first|(cases h;done)|skip
 all_goals (try cases h;try rfl)
def Result.drew{α:Type}(w:World):Result α->Prop
 | .ok _ w'=>w.drawn<=w'.drawn
 | .halt _ w'=>w.drawn<=w'.drawn
def zl{α:Type}(p:Program):∀(s:Sem α) (w:World),Result.drew w (s.run p w):=by
 intro s;induction s with
 |pure a=>intro w;exact bI _
 |load m a k ih=>
  intro w;unfold fo;split
  .exact ih _ w
  .split
   .exact ih _ w
   .exact bI _
 |store m a v k ih=>
  intro w;have key:∀w1:World,w1.drawn=w.drawn->Result.drew w (k.run p w1):=by intro w1 h;have:=ih w1;revert this;generalize fo p _ _=r;intro h2;cases r<;>(show w.drawn<=_;rw[<-h];exact h2)
  have h0:∀h,Result.drew (α:=α) w (.halt h w):=λ_=>bI _;cases v<;>simp only[fo];all_goals first|exact h0 _|skip
  all_goals
   split
   .split
    .exact h0 _
    .exact key _ rfl
   .split
    .rename_i h1;refine key _ ?_;unfold World.farStore at h1;split at h1
     .split at h1
      .rename_i h2;cases h1;exact Sn h2
      .cases h1
     .cases h1
    .exact h0 _
 |new o k ih=>intro w;unfold fo;exact ih _ _
 |shape r k ih=>intro w;unfold fo;exact ih _ _
 |freeze a n k ih=>
  intro w;unfold fo;have e:(w.freeze a n).drawn=w.drawn:=by unfold World.freeze;first|rfl|grind
  have:=ih (w.freeze a n);revert this;generalize fo p _ _=r;intro h2;cases r<;>(show w.drawn<=_;rw[<-e];exact h2)
 |frozen a k ih=>intro w;unfold fo;exact ih _ _
 |getObj r k ih=>
  intro w;unfold fo;split
  .exact bI _
  .exact ih _ _
  .exact bI _
 |setObj r o k ih=>
  intro w;unfold fo;split
  .exact bI _
  .exact ih _
  .exact bI _
 |choose q k ih=>
  intro w;unfold fo;split
  .exact ih _ w
  .have:=ih (q.cut (w.tape w.drawn q)) {w with drawn:=w.drawn+1};revert this;generalize fo p _ _=r;intro h;cases r<;>exact cF (Nat.le_succ _) h
 |sys c k ih=>
  intro w;unfold fo;have:=ih (w.sys c).1 (w.sys c).2;have h2:=KA w c;revert this;generalize fo p _ _=r;intro h;cases r<;>exact cF h2 h
 |program k ih=>intro w;unfold fo;exact ih _ _
 |mark m k ih=>intro w;unfold fo;exact ih _
 |halt h=>intro w;exact bI _
section
variable {p:Program}
def iI{α:Type}{s:Sem α}{w w':World}{a:α}(h:s.run p w= .ok a w'):w.drawn<=w'.drawn:=by have:=zl p s w;rw[h]at this;exact this
def oF{α:Type}{s:Sem α}{w w':World}{e:Halt}(h:s.run p w= .halt e w'):w.drawn<=w'.drawn:=by have:=zl p s w;rw[h]at this;exact this
def w8{α:Type}:∀(s:Sem α) (w:World) (es:Array Event),(s.runT p w es).1=s.run p w:=by simp_all
def ZK{α:Type}{s:Sem α}{w w':World}{a:α}{es es':Array Event}(h:s.runT p w es=(.ok a w',es')):w.drawn<=w'.drawn:=by have:=w8 (p:=p) s w es;rw[h]at this;exact iI this.symm
def D3{α:Type}{s:Sem α}{w w':World}{e:Halt}{es es':Array Event}(h:s.runT p w es=(.halt e w',es')):w.drawn<=w'.drawn:=by have:=w8 (p:=p) s w es;rw[h]at this;exact oF this.symm
def pk{α:Type}{s:Sem α}{w w':World}{a:α}{es:Array Event}(h:(s.runT p w es).1= .ok a w'):w.drawn<=w'.drawn:=iI ((w8 s w es).symm.trans h)
def ms{α:Type}{s:Sem α}{w w':World}{e:Halt}{es:Array Event}(h:(s.runT p w es).1= .halt e w'):w.drawn<=w'.drawn:=oF ((w8 s w es).symm.trans h)
def wd:GStep->Nat
 | .go _ w _=>w.drawn
 | .comm _ _ _ _ w _=>w.drawn
 | .spawn _ _ w _=>w.drawn
 | .count _ w _=>w.drawn
 | .timer _ _ w _=>w.drawn
 | .alone _ _ w _=>w.drawn
 | .newcoro _ _ _ w _=>w.drawn
 | .coroswitch _ _ _ w _=>w.drawn
 | .collect _ w _=>w.drawn
 | .watch _ w _=>w.drawn
 | .ended _ w _=>w.drawn
def sK(es:Array Event)(s:GStep):wd (s.after es)=wd s:=by cases s<;>rfl
def BX{c:Prop} [Decidable c]{a b:GStep}{n:Nat}(h1:n<=wd a)(h2:n<=wd b):n<=wd (if c then a else b):=by grind
def Ii(fr:Frame)(v:Value)(w:World):w.drawn<=wd (endPrinting p fr v w):=by unfold endPrinting;dsimp only;split<;>exact bI _
def JC(fr:Frame)(cs:List Frame)(d:Option Dying)(m:String)(w:World):w.drawn<=wd (endFatal p fr cs d m w):=by
 unfold endFatal;dsimp only;split
 .exact iI (by assumption)
 .exact oF (by assumption)
 .exact oF (by assumption)
def VK(fd:Nat)(t:ByteArray)(o:Outcome)(w:World):w.drawn<=wd (endWith w fd t o):=by
 have h:=KA w (.write fd t);unfold endWith;dsimp only;split
 .rename_i e;rw[e]at h;split<;>exact h
 .rename_i e;rw[e]at h;exact h
 .rename_i e;rw[e]at h;exact h
def UT(fr:Frame)(d:Dying)(f:Fatal)(w:World):w.drawn<=wd (writeOn p fr d f w):=by
 unfold writeOn;dsimp only;split
 .exact bI _
 .split
  .exact ZK (by assumption)
  .exact D3 (by assumption)
  .exact D3 (by assumption)
  .exact D3 (by assumption)
def aA1(fr:Frame)(d:Dying)(w:World):w.drawn<=wd (die p fr d w):=by
 unfold die;split
 .exact UT _ _ _ _
 .split
  .split
   .exact bI _
   .exact VK _ _ _ _
  .split
   .exact bI _
   .split
    .exact iI (by assumption)
    .exact oF (by assumption)
   .rw[sK];split
    .rename_i heq;exact pk heq
    .rename_i heq;exact pk heq
    .rename_i heq;exact ms heq
    .rename_i heq;exact cF (ms heq) (Ii _ _ _)
    .exact bI _
   .exact bI _
def Yg(fr:Frame)(cs:List Frame)(d:Option Dying)(g:Nat)(w:World):w.drawn<=wd (early p fr cs d g w):=by
 unfold early;dsimp only
 repeat' split
 all_goals first|exact bI _|(have h:=iI ‹fo p (choose (Question.early g)) w=yz _ _›;exact h)|exact oF ‹fo p (choose (Question.early g)) w=Result.halt _ _›
def DQ(main:Bool)(fr:Frame)(cs:List Frame)(d:Option Dying)(v:Value)(w:World):wd (doReturn p main fr cs d v w)=w.drawn:=by
 unfold doReturn
 repeat' split
 all_goals rfl
def Sr(fr:Frame)(cs:List Frame)(d:Option Dying)(f:Deferred)(w:World):w.drawn<=wd (callDeferred p fr cs d f w):=by
 unfold callDeferred;refine BX ?_ ?_
 .exact bI _
 .rw[sK];split;all_goals first
   |exact pk ‹_›
   |exact ms ‹_›
   |exact cF (ms ‹(Sem.runT p (invoke f.target f.args) w #[]).1=Result.halt _ _›) (JC _ _ _ _ _)
   |(split<;>exact pk ‹(Sem.runT p (invoke f.target f.args) w #[]).1=yz _ _›)
def Vf(main:Bool)(fr:Frame)(cs:List Frame)(d:Option Dying)(w:World):w.drawn<=wd (unwind p main fr cs d w):=by
 unfold unwind;split
 .rw[sK];split
  .exact pk ‹_›
  .exact ms ‹_›
 .exact Sr _ _ _ _ _
 .split
  .exact bI _
  .split
   .exact bI _
   .split
    .exact bI _
    .split
     .split
      .exact bI _
      .split
       .exact iI ‹_›
       .exact oF ‹_›
       .exact oF ‹_›
     .split
      .exact Ii _ _ _
      .exact bI _
  .split
   .exact y4 (DQ _ _ _ _ _ _).symm
   .rw[sK];split
    .exact cF (pk ‹_›) (y4 (DQ _ _ _ _ _ _).symm)
    .exact ms ‹_›
    .exact ms ‹_›
def Aj(listen:Bool)(fr:Frame)(cs:List Frame)(d:Option Dying)(s:Sem Next)(w:World):w.drawn<=wd (stepG.apply p listen fr cs d s w):=by
 unfold stepG.apply;have hr:Result.drew w (if listen=true then s.runT p w #[]else(s.run p w, #[])).1:=by
  split
  .rw[w8];exact zl _ _ _
  .exact zl _ _ _
 rw[sK];generalize (if listen=true then s.runT p w #[]else(s.run p w, #[])).1=r at hr|-;cases r with
 |ok a w'=>
  cases a;all_goals (try exact hr)
  all_goals (dsimp only;repeat' split)
  all_goals exact hr
 |halt e w'=>
  cases e with
  |unsupported u=>cases u<;>first|exact hr|exact cF hr (Yg _ _ _ _ _)
  |fatal m=>exact cF hr (JC _ _ _ _ _)
  |_=>exact hr
def ZW(listen:Bool)(fr:Frame)(cs:List Frame)(d:Option Dying)(w:World):w.drawn<=wd (stepG.oper p listen fr cs d w):=by
 unfold stepG.oper;split
 .exact bI _
 .split<;>exact Aj _ _ _ _ _ _
def Zy(main:Bool)(listen:Bool)(fr:Frame)(cs:List Frame)(d:Option Dying)(w:World):w.drawn<=wd (stepG.exec p main listen fr cs d w):=by
 have hleave:∀jump:Option Code,w.drawn<=wd (match fr.roundOf with
   |none=>if jump matches none|some .ret then GStep.go {frame:={fr with mode:= .returning},callers:=cs,status:= .running,dying:=d} w else .ended (.stuck "exit, goto: no such block or label" (fr.pos p)) w
   |some l=>GStep.after (seen p fr.fn ((Instr.endRound l jump).runT p w #[]).2)<|match((Instr.endRound l jump).runT p w #[]).1 with
    | .ok v w=>doReturn p main fr cs d v w
    | .halt _ w=> .ended (.stuck "range over a function: no such loop" (fr.pos p)) w):=by
  intro jump;split
  .refine BX ?_ ?_<;>exact bI _
  .rw[sK];split
   .exact cF (pk ‹_›) (y4 (DQ _ _ _ _ _ _).symm)
   .exact ms ‹_›
 unfold stepG.exec;dsimp only;split;all_goals (try exact bI _)
 all_goals (try exact hleave _)
 all_goals (try exact Aj _ _ _ _ _ _)
 all_goals (try exact hleave none)
 all_goals (try exact hleave (some .ret))
 .split<;>exact bI _
 .cases exitTo _ _
  .exact hleave (some (.exit _))
  .exact bI _
 .cases gotoIn _ _
  .exact hleave (some (.goto _))
  .exact bI _
 .rw[sK];split
  .exact cF (pk ‹_›) (Aj _ _ _ _ _ _)
  .exact ms ‹_›
 .split
  .exact pk ‹_›
  .exact ms ‹_›
  .exact ms ‹_›
 .cases Extern.next _
  .exact bI _
  .exact Aj _ _ _ _ _ _
 .refine BX (bI _) ?_;split
  .exact iI ‹_›
  .exact oF ‹_›
 .exact BX (ZW _ _ _ _ _) (bI _)
def XR(main:Bool)(g:Goroutine)(w:World)(listen:Bool):w.drawn<=wd (stepG p main g w listen):=by
 unfold stepG;split;split
 .exact aA1 _ _ _
 .exact Zy _ _ _ _ _ _
 .exact Vf _ _ _ _ _
def sd(n:Nat):Stepped->Prop
 | .next m=>n<=m.world.drawn
 | .ended _ _=>True
def Nz(gs:Array Goroutine)(rest:Rest)(w:World):sd w.drawn (look p gs rest w):=by
 unfold look;split
 .dsimp only
  repeat' split
  all_goals first|exact trivial|skip
  all_goals (have h:=iI (p:=p) (w:=w) (by assumption);exact h)
 .exact trivial
def UW{rest:Rest}{cases:Array CommCase}{w w':World}(h:waitingAt rest cases w=some w'):w.drawn<=w'.drawn:=by unfold waitingAt at h;grind
def Z6(rest:Rest)(gs:Array Goroutine)(i:Nat)(g:Goroutine)(cases:Array CommCase)(b:Bool)(shape:CommShape)(w:World):sd w.drawn (communicate p rest gs i g cases b shape w).1:=by
 unfold communicate;dsimp only
 repeat' split
 all_goals first
  |exact trivial
  |exact bI _
  |exact UW ‹_›
  |(have h:=iI (p:=p) (w:=w) (by assumption);first
     |exact h
     |(have h2:=oF (p:=p) ‹fo p (runtimePanic (RuntimeError.plain "send on closed channel")) _=Result.halt _ _›;exact cF h h2)
     |(have h2:=iI (p:=p) ‹fo p (choose (Question.extern "which waiting goroutine is the partner" _)) _=yz _ _›;exact cF h h2))
def Yh(w:World)(c:Nat):(drain w c).2.drawn=w.drawn:=by unfold drain;split<;>rfl
def KM(m:Machine)(k:Nat)(t:Timer)(a b:Nat):(retime m k t a b).2.world.drawn=m.world.drawn:=by
 unfold retime;cases t.chan with
 |none=>rfl
 |some c=>exact Yh _ _
def WG{m m':Machine}{v:Addr}(h:timerOp.opened m v=some m'):m'.world.drawn=m.world.drawn:=by unfold timerOp.opened at h;grind
def MA{m m':Machine}{var:Addr}{f:Nat->Timer->Value×Machine}{v:Value}{n:Nat}(hf:∀k t,(f k t).2.world.drawn=n)(h:timerOp.named m var f= .ok (v,m')):m'.world.drawn=n:=by unfold timerOp.named at h;grind
def Ub{m m':Machine}{op:TimerOp}{v:Value}(h:timerOp m op= .ok (v,m')):m'.world.drawn=m.world.drawn:=by
 unfold timerOp at h;split at h
 .split at h
  .cases h;rfl
  grind
 .exact MA (λk t=>KM _ _ _ _ _) h
 .split at h
  .rename_i ho;exact(MA (λk t=>KM _ _ _ _ _) h).trans (WG ho)
  .cases h
 .cases h;rfl
def ZJ(m:Machine)(i:Nat)(listen:Bool):sd m.world.drawn (runT p m i listen).1:=by
 unfold runT;generalize (m.gs.swapAt! i {(default:Goroutine)with status:= .finished})=q;obtain⟨g,gs⟩:=q;dsimp only;have hs:=XR (p:=p) (i==0) g m.world listen;generalize stepG p (i==0) g m.world listen=s at hs|-;cases s with
 |ended o w es=>exact trivial
 |comm g cases b shape w es=>
  have:=Z6 (p:=p) m.rest gs i g cases b shape w;revert this;generalize (communicate p m.rest gs i g cases b shape w).1=r;intro h;cases r with
  |next m'=>exact cF hs h
  |ended _ _=>exact trivial
 |go g w es=>exact hs
 |spawn g c w es=>exact hs
 |count g w es=>
  dsimp only;split
  .exact trivial
  .exact hs
 |alone g on w es=>exact hs
 |collect g w es=>
  have:=Nz (p:=p) (gs.setIfInBounds i g) m.rest w;dsimp only;revert this;generalize look p (gs.setIfInBounds i g) m.rest w=r;intro h;cases r with
  |next m'=>exact cF hs h
  |ended _ _=>exact trivial
 |watch g w es=>exact hs
 |newcoro g c d w es=>exact hs
 |coroswitch g c exit w es=>
  dsimp only;split
  .exact hs
  .exact hs
  .exact trivial
 |timer g op w es=>
  dsimp only;split
  .rename_i h;exact cF hs (y4 (Ub h).symm)
  .exact hs
  .exact trivial
  .exact trivial
def md(n:Nat):Move->Prop
 | .goroutine m _=>n<=m.world.drawn
 | .machine s _=>sd n s
def Xd(m:Machine)(k:Nat):sd m.world.drawn (serve p m k):=by
 unfold serve;split
 .exact trivial
 .exact bI _
 .dsimp only;split
  .exact trivial
  .exact bI _
def G6{a b:Nat}{x:Move}(h:a<=b)(hx:md b x):md a x:=by
 cases x with
 |goroutine m i=>exact cF h hx
 |machine s ops=>cases s with
  |next m=>exact cF h hx
  |ended _ _=>exact trivial
def FK(m:Machine):md m.world.drawn (askOn p m):=by
 unfold askOn;dsimp only
 repeat' split
 all_goals first
  |exact trivial
  |(have h:=iI (p:=p) (w:=m.world) (by assumption);first
     |exact h
     |exact G6 h (Xd (p:=p) _ _)
     |exact cF h (iI (p:=p) (by assumption))
     |exact cF h (cF (iI (p:=p) (by assumption)) (iI (p:=p) (by assumption)))
     |exact cF h (cF (iI (p:=p) (by assumption)) (cF (iI (p:=p) (by assumption)) (iI (p:=p) (by assumption))))
     |(have h2:=iI (p:=p) ‹fo p (choose (Question.extern "clock.wait" _)) _=yz _ _›;first
        |exact cF h h2
        |(have h3:=iI (p:=p) ‹fo p (choose (Question.sched _)) _=yz _ _›;first
           |exact cF h (cF h2 h3)
           |(have h4:=iI (p:=p) ‹fo p (choose (Question.extern "sched.slice" _)) _=yz _ _›;exact cF h (cF h2 (cF h3 h4))))))
  |skip
def PL(m:Machine):md m.world.drawn (ask p m):=by
 unfold ask;split
 .split
  .exact trivial
  .rename_i w1 h1;have h2:=Nz (p:=p) m.gs m.rest w1;have h1:=iI h1;split
   .rename_i h3;rw[h3]at h2;exact G6 (cF h1 h2) (FK _)
   .cases hl:look p m.gs m.rest w1 with
    |next m'=>grind
    |ended _ _=>exact trivial
  .rename_i h1;exact G6 (iI h1) (FK _)
 .exact FK m
def Zf(m:Machine):md m.world.drawn (move p m):=by
 unfold move;split
 .split
  .exact bI _
  .exact trivial
 .split
  .split
   .exact bI _
   .exact PL _
  .exact PL _
def Uc{m m':Machine}(h:step p m= .next m'):m.world.drawn<=m'.world.drawn:=by
 have hm:=Zf (p:=p) m;unfold step stepT at h;cases hv:move p m with
 |goroutine m1 i=>
  rw[hv]at hm h;have:=ZJ (p:=p) m1 i true;rw[h]at this;exact cF hm this
 |machine s ops=>
  rw[hv]at hm h;dsimp only at h;rw[h]at hm;exact hm
def DY:∀(n:Nat) {m m':Machine},runN p n m= .next m'->m.world.drawn<=m'.world.drawn
 |0,m,m',h=>by cases h;omega
 |n+1,m,m',h=>by
  unfold runN at h;split at h
  .rename_i m1 h1;exact cF (Uc h1) (DY n h)
  grind
def JG{f:FuncId}{args:Array Value}{w:World}{R:Ending->World->Prop}(h:Calls p f args w R)(hn:∀w',¬R .outgrown w'):Calls p f args w λe w'=>R e w'/\w.drawn<=w'.drawn:=by
 intro cs;obtain⟨e,w',fr,h1,h2,h3⟩:=h cs;refine⟨e,w',fr,⟨h1,?_⟩,h2,h3⟩;cases e with
 |returned v=>obtain⟨n,hn⟩:=h2;exact DY n hn
 |panicked c=>obtain⟨n,hn⟩:=h2;exact DY n hn
 |outgrown=>grind
end
end Go.Proofs.YtdaeofhdgabhjaaGreat
namespace Go.Proofs
open Go.Shelf
def Tryz.sort68_ren:Go.Shelf.Ren:=⟨λ|6=>68|15=>143|14=>142|28=>195|29=>196|20=>187|21=>188|22=>189|23=>190|24=>191|25=>192|26=>193|27=>194|46=>210|47=>211|48=>212|49=>213|50=>214|57=>226|n=>n,λ|22=>24|24=>23|25=>40|3=>3|39=>134|0=>0|53=>170|55=>172|4=>4|46=>163|45=>162|50=>167|5=>5|9=>9|66=>180|70=>184|76=>193|77=>60|n=>n,λ|n=>n⟩
def Tryz.sort68:Go.Proofs.SlLaysF.n6 bE Tryz.sort68_ren:={
 mixed:=by kernel_rfl
 f6:=⟨Tryz.f68.name,by decide,Tryz.func68.trans (congrArg some (by kernel_rfl))⟩
 f14:=⟨Tryz.f142.name,by decide,Tryz.func142.trans (congrArg some (by kernel_rfl))⟩
 f15:=Tryz.func143.trans (congrArg some (by kernel_rfl))
 f20:=⟨Tryz.f187.name,by decide,Tryz.func187.trans (congrArg some (by kernel_rfl))⟩
 f21:=⟨Tryz.f188.name,by decide,Tryz.func188.trans (congrArg some (by kernel_rfl))⟩
 f22:=⟨Tryz.f189.name,by decide,Tryz.func189.trans (congrArg some (by kernel_rfl))⟩
 f23:=⟨Tryz.f190.name,by decide,Tryz.func190.trans (congrArg some (by kernel_rfl))⟩
 f24:=⟨Tryz.f191.name,by decide,Tryz.func191.trans (congrArg some (by kernel_rfl))⟩
 f25:=⟨Tryz.f192.name,by decide,Tryz.func192.trans (congrArg some (by kernel_rfl))⟩
 f26:=⟨Tryz.f193.name,by decide,Tryz.func193.trans (congrArg some (by kernel_rfl))⟩
 f27:=⟨Tryz.f194.name,by decide,Tryz.func194.trans (congrArg some (by kernel_rfl))⟩
 f28:=Tryz.func195.trans (congrArg some (by kernel_rfl))
 f29:=Tryz.func196.trans (congrArg some (by kernel_rfl))
 f46:=⟨Tryz.f210.name,by decide,Tryz.func210.trans (congrArg some (by kernel_rfl))⟩
 f47:=Tryz.func211.trans (congrArg some (by kernel_rfl))
 f48:=Tryz.func212.trans (congrArg some (by kernel_rfl))
 f49:=⟨Tryz.f213.name,by decide,Tryz.func213.trans (congrArg some (by kernel_rfl))⟩
 f50:=⟨Tryz.f214.name,by decide,Tryz.func214.trans (congrArg some (by kernel_rfl))⟩
 f57:=⟨Tryz.f226.name,by decide,Tryz.func226.trans (congrArg some (by kernel_rfl))⟩
 t0:=Tryz.underlying0
 a0:=Tryz.isAgg0
 z0:=Tryz.sizeOf0
 v0:=Tryz.zeroValue0
 t3:=rY
 a3:=Tryz.isAgg3
 z3:=Tryz.sizeOf3
 v3:=Tryz.zeroValue3
 t4:=Tryz.underlying4
 a4:=Tryz.isAgg4
 z4:=Tryz.sizeOf4
 v4:=Tryz.zeroValue4
 t5:=Tryz.underlying5
 a5:=Tryz.isAgg5
 z5:=Tryz.sizeOf5
 v5:=Tryz.zeroValue5
 t9:=Tryz.underlying9
 a9:=Tryz.isAgg9
 z9:=Tryz.sizeOf9
 v9:=Tryz.zeroValue9
 t22:=Cu
 a22:=Tryz.isAgg24
 z22:=Tryz.sizeOf24
 v22:=Tryz.zeroValue24
 a24:=Tryz.isAgg23
 z24:=Tryz.sizeOf23
 t25:=Tryz.underlying40
 a25:=Tryz.isAgg40
 z25:=Tryz.sizeOf40
 v25:=Tryz.zeroValue40
 t39:=Tryz.underlying134
 a39:=Tryz.isAgg134
 z39:=Tryz.sizeOf134
 v39:=Tryz.zeroValue134
 t45:=Tryz.underlying162
 a45:=Tryz.isAgg162
 z45:=Tryz.sizeOf162
 v45:=Tryz.zeroValue162
 t46:=Tryz.underlying163
 a46:=Tryz.isAgg163
 z46:=Tryz.sizeOf163
 v46:=Tryz.zeroValue163
 t50:=Tryz.underlying167
 a50:=Tryz.isAgg167
 z50:=Tryz.sizeOf167
 v50:=Tryz.zeroValue167
 t53:=Tryz.underlying170
 a53:=Tryz.isAgg170
 z53:=Tryz.sizeOf170
 v53:=Tryz.zeroValue170
 t55:=Tryz.underlying172
 a55:=Tryz.isAgg172
 z55:=Tryz.sizeOf172
 v55:=Tryz.zeroValue172
 t66:=Tryz.underlying180
 a66:=Tryz.isAgg180
 z66:=Tryz.sizeOf180
 v66:=Tryz.zeroValue180
 t70:=Tryz.underlying184
 a70:=Tryz.isAgg184
 z70:=Tryz.sizeOf184
 v70:=Tryz.zeroValue184
 t76:=Tryz.underlying193
 a76:=Tryz.isAgg193
 z76:=Tryz.sizeOf193
 v76:=Tryz.zeroValue193
 t77:=Tryz.underlying60
 a77:=Tryz.isAgg60
 z77:=Tryz.sizeOf60
 v77:=Tryz.zeroValue60}
end Go.Proofs
namespace Go.Proofs.YtdaeofhdgabhjaaGreat
structure Lay(w w':World):Prop where
 below:Below w.heap.size w w'
 drawn:w.drawn<=w'.drawn
def Lay.grow{w w':World}(h:Lay w w'):∃q os,w'=Cv (w.drewN q) os:=by
 obtain⟨p,hp⟩:=It h.below;refine⟨w'.drawn-w.drawn,p.os,?_⟩;have hd:=h.drawn;have hn:w'.drawn=p.n:=by rw[hp];rfl
 rw[hp];unfold grD Cv World.drewN;grind
def N5{f:Nat}{xa ya:Option Addr}{xc yc:Nat}{xs ys:aH}{w:World}{i:Int}(hk:∃A q,avs [SV.lst .V xs,.lst .V ys] =A.map .p/\(SV.int .i64 i).av= .p q/\Sat bE false f A q)(hx:RdV w xa xs)(hy:RdV w ya ys)(lx:Len ⟨xa,xc,xs⟩)(ly:Len ⟨ya,yc,ys⟩):
  Calls bE f #[.slice xa xs.length xc,.slice ya ys.length yc] w λe w'=>e= .returned (.int .i64 i)/\Lay w w':=
 (JG (xI hk (B:=[.sl xs.length (fZ xs),.sl ys.length (fZ ys)]) rfl rfl (λC v h=>by unfold aX at h;exact h)
   ((az.one (pU hy ly)).By (pU hx lx))) (by grind)).mono λe w' h=>⟨h.1.1,h.1.2,h.2⟩
def yS(x y:aH):Int:=bn (aEY x 0) (aEY y 0)
section
open Go.RowKit Go.Sort Go.Shelf Go.Lib
section
variable {α:Type} [Inhabited α]
def Ie{enc:α->Value}{w:World}{g n:Nat}{d:Array α}{os:Array Obj}{cur:Array Value}{t:TypeId}(hb:w.heap[g]? =some (.cells cur t (0,0))):(sortWorld enc w g 0 n d os).heap[g]? =some (.cells (putCells enc 0 d cur) t (0,0)):=by have hlt:=(v7.1 hb).1;unfold sortWorld Cv putRow mapBlock;simp only[heap_ahead];rw[Array.getElem?_append_left (by grind),Array.getElem?_modify,if_pos rfl,hb];rfl
def Cw{enc:α->Value}{w:World}{g n:Nat}{d:Array α}{os:Array Obj}:w.grownBy (sortWorld enc w g 0 n d os) (some g):=by
 refine⟨rfl,rfl,rfl,?_,?_⟩
 .unfold sortWorld Cv putRow mapBlock;simp
 .intro k hk hne;unfold sortWorld Cv putRow mapBlock;simp only[heap_ahead];grind
def TG{enc:α->Value}{d:Array α}{cur:Array Value}(h:d.size<=cur.size):(putCells enc 0 d cur).toList.take d.size=d.toList.map enc:=by
 apply List.ext_getElem?;intro i;rw[pD];by_cases hi:i<d.size
 .rw[if_pos hi];unfold putCells;grind
 grind
end
def Il(g:Nat)(hg:∀args w,(callFunc g args).run bE w= .ok (.enter g args) w)(cf:aH->aH->Int)(base:Nat)(v:Value)(rs:List RV)(w:World)(hl:rs.length<=1000000)
  (hrow:w.ownsRow base 23 1 v rs.length (rs.map RV.enc)) (hok:∀x∈rs,RingOk base w v x) (hO:SWO (ltOf λx y:{x:RV//x∈rs}=>cf x.1.r y.1.r))
  (hcmp:∀x∈rs,∀y∈rs,∀wx,RdV wx x.a x.r->RdV wx y.a y.r->Calls bE g #[x.enc,y.enc] wx λe w'=>e= .returned (.int .i64 (cf x.r y.r))/\Lay wx w'):
  Calls bE 68 #[v,.func (.func g) #[] #[]] w λe w'=>e= .returned (.tuple #[])/\∃rs':List RV,rs'.Perm rs/\rs'.Pairwise (λa b=>¬cf b.r a.r<0)/\w'.ownsRow base 23 1 v rs'.length (rs'.map RV.enc)/\(∀x∈rs',RingOk base w' v x)/\w.grownBy w' v.ownBlock:=by
 by_cases hr0:rs=[]
 .subst hr0;have hv:∃p cap,v= .slice p 0 cap:=by
   rcases hrow.2 with⟨h1,_⟩|⟨gb,cap,cur,h1,_⟩
   .grind
   .grind
  obtain⟨p,cap,rfl⟩:=hv;have h:=AnyF.slices_SortFunc_none (P:=bE) (ρ:=Tryz.sort68_ren) {Tryz.sort68 with} p cap (.func (.func g) #[] #[]) w;change Calls bE 68 _ _ _ at h;refine h.mono ?_;rintro e w' ⟨rfl,rfl⟩;exact⟨rfl,[],CU _,tT,hrow,hok,⟨rfl,rfl,rfl,bI _,λ_ _ _=>rfl⟩⟩
 .obtain⟨x0,hx0⟩:=List.exists_mem_of_ne_nil _ hr0;have:Inhabited {x:RV//x∈rs}:=⟨⟨x0,hx0⟩⟩;rcases hrow.2 with⟨_,h1⟩|⟨gb,cap,cur,rfl,hbb,hh,hn,hcap,hsz,htk⟩
  .grind
  .obtain⟨d,hd⟩:∃d:Array {x:RV//x∈rs},d=rs.attach.toArray:=⟨_,rfl⟩;have hds:d.size=rs.length:=by rw[hd];simp
   have hdm:d.toList.map (·.1)=rs:=by rw[hd];simp
   have hcs:rs.length<=cur.size:=by rw[hsz];omega
   have hH:Holds (λx:{x:RV//x∈rs}=>RV.enc x.1) w gb 0 d:=by
    intro j hj;have e1:cur[j]? =some (RV.enc d[j]!.1):=by
     have e2:(cur.toList.take (rs.length*1))[j]? =(rs.map RV.enc)[j]? :=by rw[htk]
     rw[pD,if_pos (by omega)]at e2;have e3:(rs.map RV.enc)[j]? =some (RV.enc d[j]!.1):=by
      have e4:((d.toList.map (·.1)).map RV.enc)[j]? =some (RV.enc d[j]!.1):=by rw[dq,gW];simp[hj]
      rw[hdm]at e4;exact e4
     rw[e3]at e2;simpa using e2
    refine⟨?_,?_⟩
    .rw[jy];exact(cell_of_row w gb j cur 23 (0,0) hh).trans e1
    .simp[World.frozen?,hh]
   have hblk:gb<w.heap.size:=(v7.1 hh).1;have h:=Any.slices_SortFunc (P:=bE) (ρ:=Tryz.sort68_ren) Tryz.sort68 (λx:{x:RV//x∈rs}=>RV.enc x.1) (λ_=>rfl) (λx y=>cf x.1.r y.1.r) hO g #[] gb 0 cap d w hg (by intro m os dk hdk x y;have hG:=Cw (enc:=λx:{x:RV//x∈rs}=>RV.enc x.1) (w:=w) (g:=gb) (n:=m) (d:=dk) (os:=os);have h1:=hcmp x.1 x.2 y.1 y.2 _ ((hok x.1 x.2).rd.grown (hok x.1 x.2).sep hG) ((hok y.1 y.2).rd.grown (hok y.1 y.2).sep hG);rw[show(#[RV.enc x.1,RV.enc y.1] ++(#[] :Array Value))= #[RV.enc x.1,RV.enc y.1] by simp];exact h1.mono λe w' ⟨he,hL⟩=>⟨he,hL.grow⟩) hH hblk (by omega)
   change Calls bE 68 _ _ _ at h;rw[hds]at h;refine h.mono ?_;rintro e w' ⟨rfl,d',n,os,hp,hs,rfl⟩;obtain⟨p1,_,p3⟩:=hp;have hG:=Cw (enc:=λx:{x:RV//x∈rs}=>RV.enc x.1) (w:=w) (g:=gb) (n:=n) (d:=d') (os:=os);have hperm:d'.toList.Perm d.toList:=by
    have e1:(d'.extract 0 rs.length).toList=d'.toList:=by rw[<-hds,<-p1];simp
    have e2:(d.extract 0 rs.length).toList=d.toList:=by rw[<-hds];simp
    rwa[e1,e2]at p3
   have hpr:(d'.toList.map (·.1)).Perm rs:=by have:=hperm.map (·.1);rwa[hdm]at this
   have hlen:(d'.toList.map (·.1)).length=rs.length:=hpr.length_eq;refine⟨rfl,d'.toList.map (·.1),hpr,?_,?_,?_,hG⟩
   .rw[kK,nU];intro i j hi hj hij;have hj':j<d'.size:=by simpa using hj
    have:=hs i j (iY _) hij (by omega);unfold ltOf at this;grind
   .refine⟨by simp,.inr ⟨gb,cap,_,by rw[hlen],hbb,Ie hh,by omega,hcap,by unfold putCells;grind,?_⟩⟩;rw[hlen,Nat.mul_one,<-hds,<-p1,TG (by omega),dq];rfl
   .intro x hx;have hx2:=hpr.mem_iff.1 hx;have ok:=hok x hx2;exact⟨ok.rd.grown ok.sep hG,ok.fresh,ok.cap,ok.len,ok.sep⟩
end
def UO{rs:List RV}:Sort.SWO (ltOf λx y:{x:RV//x∈rs}=>cL x.1.r y.1.r):=by
 have h:∀x y:{x:RV//x∈rs},ltOf (λx y:{x:RV//x∈rs}=>cL x.1.r y.1.r) x y=true↔cL x.1.r y.1.r<0:=by intro x y;unfold ltOf;rw[decide_eq_true_eq]
 refine⟨?_,?_,?_⟩
 .intro x;rw[vZ,ne_eq,h];have:=Ta x.1.r;omega
 .intro x y z h1 h2;rw[h]at*;exact C6 _ _ _ h1 h2
 .intro x y z h1 h2;rw[vZ,ne_eq,h]at*;have e1:=qV x.1.r y.1.r;have e2:=qV y.1.r z.1.r;have e3:=qV x.1.r z.1.r;have:= @Is z.1.r y.1.r x.1.r;unfold jS at this;omega
def VV{a b:aH}(h:¬cL b a<0):jS a b:=by have:=qV a b;unfold jS;omega
def V6{C:bG}{w:World}{b:Nat}(hC:∀b' o v,C b' o v->w.cell? ⟨b',o,none⟩=some v/\b'≠b){r:List V}{v:Value}(h:aX C (gR r) v):
  ∃a c,v= .slice a r.length c/\RdV w a r/\r.length<=c/\(0<r.length->∀ad,a=some ad->ad.block≠b)/\(a=none->c=0):=by
 obtain⟨a,c,hv,h1,h2,h0n⟩:=Em (λb' o v h=>(hC b' o v h).1) h;refine⟨a,c,hv,h1,h2,λh0 ad ha=> ?_,h0n⟩;unfold gR aX at h;obtain⟨a',c',hv',_,_,h3⟩:=h;rw[hv]at hv';simp only[Value.slice.injEq,true_and]at hv';obtain⟨rfl,rfl⟩:=hv';obtain⟨_,h5⟩:=h3 _ ha;have hl:0<(fZ r).length:=by rw[ur.length];omega
 obtain⟨u,h6,_⟩:=h5.get _ _ _ 0 _ (dp hl);grind
structure RingIn(C:bG)(w:World)(b:Nat)(x:RV):Prop where
 rep:aX C (gR x.r) x.enc
 rd:RdV w x.a x.r
 cap:x.r.length<=x.c
 sep:0<x.r.length->∀ad,x.a=some ad->ad.block≠b
 nn:x.a=none->x.c=0
def KI{C:bG}{w:World}{b:Nat}(hC:∀b' o v,C b' o v->w.cell? ⟨b',o,none⟩=some v/\b'≠b):∀(l:List aH) (us:List Value),
  (∀(i:Nat) x,(l.map gR)[i]? =some x->∃v,us[i]? =some v/\aX C x v)->∃rs:List RV,rs.map RV.r=l/\rs.map RV.enc=us.take l.length/\∀x∈rs,RingIn C w b x
 |[],us,_=>⟨[],rfl,by simp,by simp⟩
 |r::l,us,h=>by
  obtain⟨v,h1,h2⟩:=h 0 (gR r) rfl;cases us with
  |nil=>simp at h1
  |cons u us=>
   simp at h1;subst h1;obtain⟨rs,h3,h4,h5⟩:=KI hC l us λi x hi=>by simpa using h (i+1) x (by grind)
   obtain⟨a,c,rfl,g1,g2,g3,g4⟩:=V6 hC h2;refine⟨⟨a,c,r⟩::rs,by simp[h3],by simp[h4,RV.enc],?_⟩;intro x hx;rcases bT.1 hx with rfl|hx
   .exact⟨h2,g1,g2,g3,g4⟩
   grind
def VE{w w':World}(h:w.grownBy w' none):Below w.heap.size w w':=⟨h.os,h.tape,h.output,h.size,λk hk=>h.block k hk (by simp)⟩
def aBb(args:Array Value)(w:World):(callFunc 26 args).run bE w= .ok (.enter 26 args) w:=lK (by kernel_rfl) args w
def aAO{rs:List RV}(h:∀x∈rs,Len x):∀x∈rs,∀y∈rs,∀wx,RdV wx x.a x.r->RdV wx y.a y.r->Calls bE 26 #[x.enc,y.enc] wx λe w'=>e= .returned (.int .i64 (cL x.r y.r))/\Lay wx w':=
 λx hx y hy wx h1 h2=>N5 (k26 [.lst .V x.r,.lst .V y.r] (x.r,y.r) rfl ((jd (l:=c26.pre (x.r,y.r))).1 ⟨cF (h x hx).1 (by decide),cF (h y hy).1 (by decide)⟩)) h1 h2 (h x hx) (h y hy)
def KH(g:Nat)(hg:∀args w,(callFunc g args).run bE w= .ok (.enter g args) w)(cf:aH->aH->Int)(l m:List aH)(hn:l.length<=1000000)(hl:∀r∈l,r.length<=1000)(hlen:m.length=l.length)
  (hO:∀rs:List RV,rs.map RV.r=l->Sort.SWO (ltOf λx y:{x:RV//x∈rs}=>cf x.1.r y.1.r))
  (hc:∀rs:List RV,rs.map RV.r=l->(∀x∈rs,Len x)->∀x∈rs,∀y∈rs,∀wx,RdV wx x.a x.r->RdV wx y.a y.r->Calls bE g #[x.enc,y.enc] wx λe w'=>e= .returned (.int .i64 (cf x.r y.r))/\Lay wx w')
  (hu:∀k:List aH,k.Perm l->k.Pairwise (λa b=>¬cf b a<0)->k=m):mX bE 68 (some l.length) [.fn (.func g) [] []] 23 1 (l.map gR) (m.map gR):=by
 have hfn:∀(C:bG) (vs:List Value),az C [.fn (.func g) [] []] vs->vs=[.func (.func g) #[] #[]] :=by intro C vs h;unfold az at h;obtain⟨v,r,rfl,h1,h2⟩:=h;unfold az at h2;subst h2;unfold aX at h1;obtain⟨a,b,rfl,h3,h4⟩:=h1;unfold az at h3 h4;subst h3;subst h4;rfl
 refine⟨by kernel_rfl,by simp[hlen],?_,?_⟩
 .intro C w b c arr vs hC hL hnc hA;rw[hfn C vs hA];have hnc:=hnc _ rfl;obtain⟨h1,h2,h3⟩:=hL.row (by decide);obtain⟨rs,g1,g2,g3⟩:=KI hC l arr.toList λi x hi=>by obtain⟨v,k1,_,k2⟩:=hL.cells i x hi;grind
  have hrl:rs.length=l.length:=by rw[<-g1,da]
  have hr1:∀x∈rs,x.r.length<=1000:=λx hx=>hl _ (by grind);have hrow:w.ownsRow 0 23 1 (.slice (some ⟨b,0,none⟩) l.length c) rs.length (rs.map RV.enc):=
   ⟨by simp,.inr ⟨b,c,arr,by rw[hrl],iY _,hL.blk,by omega,h3,h1,by grind⟩⟩
  refine(Il g hg cf 0 _ rs w (by omega) hrow ?_ (hO rs g1) (hc rs g1 λx hx=>⟨hr1 x hx,(g3 x hx).cap,(g3 x hx).nn⟩)).mono ?_
  .intro x hx;refine⟨(g3 x hx).rd,λad _=>iY _,(g3 x hx).cap,hr1 x hx,λh0 ad ha e=>(g3 x hx).sep h0 ad ha ?_⟩;simp only[Value.ownBlock,fc]at e;exact e.symm
  .rintro e w' ⟨rfl,rs',hp,hs,hrow',hok',hg⟩;have hso:rs'.map RV.r=m:=by refine hu _ (by grind) ?_;rw[kK];exact hs
   obtain⟨hz,hcase⟩:=hrow';rcases hcase with⟨e,_⟩|⟨gb,cap,cur,e,_,hblk,hnc',hcm,hsz,htk⟩
   .cases e
   .simp only[Value.slice.injEq,fc,Addr.mk.injEq,and_true]at e;obtain⟨rfl,e2,rfl⟩:=e;refine⟨cur,rfl,⟨hblk,λh=>absurd h (by decide),λ_=>⟨hsz,by grind,hcm⟩,?_⟩,hg⟩;intro i x hi;rw[<-hso,dq]at hi;rw[gW]at hi;cases hx:rs'[i]? with
    |none=>grind
    |some y=>
     rw[hx]at hi;simp only[eO,fc,CW]at hi;subst hi;have hi':i<rs'.length:=(rX.1 hx).1;have hy:y∈rs:=hp.mem_iff.1 (IP hx);have h7:(rs'.map RV.enc)[i]? =some y.enc:=by rw[gW,hx];rfl
     rw[<-htk,List.getElem?_take_of_lt (by omega)]at h7;exact⟨y.enc,by grind,rfl,(g3 y hy).rep⟩
 .intro h0 C w vs hC hA;rw[hfn C vs hA];have hl0:l=[] :=ni.1 (by grind);subst hl0;refine(Il g hg cf 0 (.slice none 0 0) [] w (by simp) ⟨by simp,.inl ⟨rfl,rfl⟩⟩ (by simp) (hO [] rfl) (hc [] rfl (by simp))).mono ?_;rintro e w' ⟨rfl,rs',_,_,_,_,hg⟩;exact⟨rfl,VE hg⟩
def OR(a b:aH):yS a b<0↔bf (aEY a 0) (aEY b 0)=true:=by unfold yS;exact xY _ _
def aAB(args:Array Value)(w:World):(callFunc 127 args).run bE w= .ok (.enter 127 args) w:=lK (by kernel_rfl) args w
def Yk{rs:List RV}:Sort.SWO (ltOf λx y:{x:RV//x∈rs}=>yS x.1.r y.1.r):=by
 have h:∀x y:{x:RV//x∈rs},ltOf (λx y:{x:RV//x∈rs}=>yS x.1.r y.1.r) x y=true↔bf (aEY x.1.r 0) (aEY y.1.r 0)=true:=by intro x y;unfold ltOf;rw[decide_eq_true_eq,OR]
 refine⟨?_,?_,?_⟩
 .intro x;rw[vZ,ne_eq,h,EE];simp
 .intro x y z h1 h2;rw[h]at*;revert h1 h2;unfold bf;grind
 .intro x y z h1 h2;rw[vZ,ne_eq,h]at*;revert h1 h2;unfold bf;grind
def Uj(l:List aH)(hn:l.length<=1000000)(hl:∀r∈l,r.length<=1000):mX bE 68 (some l.length) [.fn (.func 26) [] []] 23 1 (l.map gR) ((kq l).map gR):=
 KH 26 aBb cL l _ hn hl (zS l).length_eq (λ_ _=>UO) (λ_ _ hL=>aAO hL)
  λk hp hs=>Io hp (hs.imp λh=>VV h)
def Tv(l:List aH)(hn:l.length<=1000000)(hl:∀r∈l,0<r.length/\r.length<=1000)(ha:∀a∈l,∀b∈l,leH a b->leH b a->a=b):mX bE 68 (some l.length) [.fn (.func 127) [] []] 23 1 (l.map gR) ((p8 l).map gR):=by
 have hm:∀rs:List RV,rs.map RV.r=l->∀x∈rs,x.r∈l:=λrs hr x hx=>by grind
 refine KH 127 aAB yS l _ hn (λr hr=>(hl r hr).2) (mB l).length_eq (λ_ _=>Yk) (λrs hr hL x hx y hy wx h1 h2=> ?_) λk hp hs=> ?_
 .have g1:=hl _ (hm rs hr x hx);have g2:=hl _ (hm rs hr y hy);exact N5 (aC0 [.lst .V x.r,.lst .V y.r] (x.r,y.r) rfl ((jd (l:=R7.pre (x.r,y.r))).1 ⟨g1.2,g2.2,g1.1,g2.1⟩)) h1 h2 (hL x hx) (hL y hy)
 .have hs:k.Pairwise leH:=hs.imp λ{a b} h=>by rw[OR]at h;exact(qW _ _).1 (by simpa using h)
  exact SK (λa b h1 h2 h3 h4=>ha a (hp.mem_iff.1 h1) b ((mB l).mem_iff.1 h2) h3 h4) hs (TR l) (hp.trans (mB l).symm)
def d68:List SV->Option (List aH×Bool)
 |[.lst .R l,.fnp 26 [] []] =>some (l,true)
 |[.lst .R l,.fnp 127 [] []] =>some (l,false)
 |_=>none
def r68:List aH×Bool->List aH
 |(l,true)=>kq l
 |(l,false)=>p8 l
def p68:List aH×Bool->List Prop
 |(l,true)=>[l.length<=1000000,∀r∈l,r.length<=1000]
 |(l,false)=>[l.length<=1000000,∀r∈l,0<r.length/\r.length<=1000,∀a∈l,∀b∈l,leH a b->leH b a->a=b]
def Yi{l:List aH}{rest:List SV}{x:List aH×Bool}(h:d68 (.lst .R l::rest)=some x):(rest=[.fnp 26 [] []]/\x=(l,true))\/(rest=[.fnp 127 [] []]/\x=(l,false)):=by unfold d68 at h;grind
def c68:Con:=⟨List aH×Bool,d68,p68,.mutR .R 23 r68⟩
def k68:c68.Okz 68:=by
 intro l rest x hd hp;rcases Yi hd with⟨rfl,rfl⟩|⟨rfl,rfl⟩
 .refine⟨[.fn (.func 26) [] []],rfl,?_⟩;rw[tG];show mX _ _ _ _ _ _ _ (LT.R.enc (kq l));rw[tG];exact Uj l (hp _ cI) (hp _ (cE _ cI))
 .refine⟨[.fn (.func 127) [] []],rfl,?_⟩;rw[tG];show mX _ _ _ _ _ _ _ (LT.R.enc (p8 l));rw[tG];exact Tv l (hp _ cI) (hp _ (cE _ cI)) (hp _ (cE _ (cE _ cI)))
noncomputable def t68:=tS.adk k68
section
def EI{p:Pt}{w:Int}:∀{l:List aH} {k:Nat},k<l.length->(∀j,j<k->¬bj (aC l j) p=2/\¬bj (aC l j) p=1)->(bj (aC l k) p=2->0=jj p l w)/\(¬bj (aC l k) p=2->bj (aC l k) p=1->1=jj p l w)
 |[],k,h,_=>by simp at h
 |r::l,0,h,_=>by
  unfold jj;refine⟨λe=> ?_,λe1 e2=> ?_⟩
  .rw[if_pos (show bj r p=2 from e)]
  .rw[if_neg (show¬bj r p=2 from e1),if_pos (show bj r p=1 from e2)]
 |r::l,k+1,h,h1=>by
  unfold jj;obtain⟨e1,e2⟩:=h1 0 (by omega);rw[if_neg (show¬bj r p=2 from e1),if_neg (show¬bj r p=1 from e2)];exact EI (l:=l) (k:=k) (by simpa using h) λj hj=>h1 (j+1) (by omega)
def Jq{p:Pt}{w:Int}:∀{l:List aH},(∀j,j<l.length->¬bj (aC l j) p=2/\¬bj (aC l j) p=1)->w=jj p l w
 |[],_=>rfl
 |r::l,h1=>by
  unfold jj;obtain⟨e1,e2⟩:=h1 0 (by simp);rw[if_neg (show¬bj r p=2 from e1),if_neg (show¬bj r p=1 from e2)];exact Jq (l:=l) λj hj=>h1 (j+1) (by grind)
noncomputable def c66:Con:=con (ac aSh (a1 aT)) (λ(s,_)=>[Fit s]) (λ(s,p)=> .iqz (fB s p))
def k66:c66.Okz 66:=ag t68 (λ(s,p)=>[cnt 7 21 s.holes.length (aM λj=>¬bj (aC s.holes j) p=2/\¬bj (aC s.holes j) p=1)]
  ) (λ(_,_)=>⟨_,rfl⟩) λ(s,p) hp=>aY (aA (!ak s) λB=>Fit s/\(B=true->0=fB s p)/\
 (B=false->s.outer.length<=1000/\(¬bj s.outer p=2->bj s.outer p=fB s p)/\
  (¬(¬bj s.outer p=2)->(0=(0:Int)/\(0:Nat)<=s.holes.length/\aM (λj=>¬bj (aC s.holes j) p=2/\¬bj (aC s.holes j) p=1) 0)/\
   (∀x:Nat,aA (x:Int) λA=>aA (aC s.holes x) λC=>x<=s.holes.length/\aM (λj=>¬bj (aC s.holes j) p=2/\¬bj (aC s.holes j) p=1) x->(A<s.holes.length->ix A s.holes.length/\C.length<=1000/\(bj C p=2->0=fB s p)/\
     (¬bj C p=2->(bj C p=1->1=fB s p)/\
      (¬bj C p=1->aE (A+1)/\A+1=((x+1:Nat):Int)/\x+1<=s.holes.length/\aM (λj=>¬bj (aC s.holes j) p=2/\¬bj (aC s.holes j) p=1) (x+1)/\s.holes.length-(x+1)<s.holes.length-x)))/\
    (¬A<s.holes.length->bj s.outer p=fB s p))))) (by kernel_rfl) (by
  change Fit s at hp;have w0:(!ak s)=true->0=fB s p:=λh=>by unfold fB;rw[if_pos h]
  have w1:(!ak s)=false->¬bj s.outer p=2->bj s.outer p=fB s p:=λh h2=>by unfold fB;grind
  have w2:(!ak s)=false->¬¬bj s.outer p=2->fB s p=jj p s.holes 2:=λh h2=>by unfold fB;grind
  have hl:∀x:Nat,(x:Int)<s.holes.length->(aC s.holes x).length<=1000:=λx h=>hp.2.2 _ (gD (by omega));have hn:=hp.2.1;have ho:=hp.1;have a2:∀x:Nat,(x:Int)<s.holes.length->aM (λj=>¬bj (aC s.holes j) p=2/\¬bj (aC s.holes j) p=1) x->bj (aC s.holes x) p=2->0=jj p s.holes 2:=λx h1 h2 h3=>(EI (by omega) h2).1 h3;have a1:∀x:Nat,(x:Int)<s.holes.length->aM (λj=>¬bj (aC s.holes j) p=2/\¬bj (aC s.holes j) p=1) x->¬bj (aC s.holes x) p=2->bj (aC s.holes x) p=1->1=jj p s.holes 2:=λx h1 h2 h3 h4=>(EI (by omega) h2).2 h3 h4;have a0:∀x:Nat,¬(x:Int)<s.holes.length->x<=s.holes.length->aM (λj=>¬bj (aC s.holes j) p=2/\¬bj (aC s.holes j) p=1) x->2=jj p s.holes 2:=λx h1 h2 h3=>by
   obtain rfl:x=s.holes.length:=by omega
   exact Jq h3
  have hf:=hp;clear hp
  repeat' first|with_reducible apply bl|with_reducible intro
  all_goals repeat with_reducible cases‹_/\aM _ _›
  all_goals first|assumption|rfl|omega|(unfold ix;omega)|(unfold aE;omega)|exact fz _|exact w0 ‹_› |exact w1 ‹_› ‹_› |exact hl _ ‹_› |(rw[w2 ‹_› ‹_›];exact a2 _ ‹_› ‹_› ‹_›)|(rw[w2 ‹_› ‹_›];exact a1 _ ‹_› ‹_› ‹_› ‹_›)|(rw[w2 ‹_› ‹_›,rb ‹¬¬bj s.outer p=2›];exact a0 _ ‹_› ‹_› ‹_›)|exact bz ‹_› ⟨‹_›,‹_›⟩)
noncomputable def t66:=t68.adk k66
def aO(s:Shape):Shape:=if ak s=true then c7 s else⟨[],[]⟩
def U7{s:Shape}(h:VS s):∀a∈s.holes.map bo,∀b∈s.holes.map bo,leH a b->leH b a->a=b:=by
 have hn:=h.nodup;unfold cT aD at hn;rw[List.flatten_cons,nV]at hn;have hn2:((s.holes.map bo).flatten).Nodup:=(Ib s.holes).nodup_iff.2 hn.2.1;have hne:∀r∈s.holes.map bo,aEY r 0∈r:=by intro r hr;obtain⟨q,hq,rfl⟩:=bZ.1 hr;have h3:=(h.ring (show q∈aD s by simp[aD,hq])).three;exact fD.2 ⟨0,by rw[j4];omega,rfl⟩
 intro a ha b hb h1 h2;have e:aEY a 0=aEY b 0:=xF h1 h2;exact y8 _ hn2 a ha b hb (aEY a 0) (hne a ha) (by grind)
def DV{s:Shape}(h:VS s):s.holes.map dd=s.holes.map bo:=List.map_congr_left λr hr=>by unfold dd;rw[(jZ r).2 (h.ring (by simp[aD,hr]))];rfl
noncomputable def c57:Con:=con (a1 aSh) (λs=>[Fit s]) (λs=>aSh.enc (aO s))
def k57:c57.Okz 57:=ag t66 (λs=>[(5,.mk Nat (λF _=>mP F 17) [15] (λk=>[k<=s.holes.length]) (λk=>[(17,.iqz (k:Int))]) (λk=>[(9,.box 26 [.lst .V (dd s.outer),.own 15 .R k]),(15,.row 23 .R ((s.holes.take k).map dd))]) (λk=>s.holes.length-k) bW)]
  ) (λ_=>⟨_,rfl⟩) λs hp=>aY (aA (aO s) λA=>aA (0:Nat) λC=>aA (!ak s) λD=>aA ([] :List (List aEZ)) λH=>Fit s/\(D=true->A.outer=([] :List aEZ)/\A.holes=H)/\
 (D=false->s.outer.length<=1000/\(0=(0:Int)/\dd s.outer=dd s.outer/\C=0/\dS dd (aP 0 s.holes)=H/\C<=s.holes.length)/\
  (∀x:Nat,aA (x:Int) λB=>aA (aC s.holes x) λE=>aA (aP x s.holes) λF=>aA (dS dd F) λG=>aA (dS dd F,false) λI=>x<=s.holes.length->(B<s.holes.length->ix B s.holes.length/\E.length<=1000/\x=G.length/\G.length+[dd E].length<=1000000/\aE (B+1)/\B+1=((x+1:Nat):Int)/\dd s.outer=dd s.outer/\(dS dd F++[dd E]).length=x+1/\dS dd F++[dd E] =dS dd (aP (x+1) s.holes)/\x+1<=s.holes.length/\s.holes.length-(x+1)<s.holes.length-x)/\
   (¬B<s.holes.length->x=G.length/\G.length<=1000000/\(∀r:aH,r∈dS dd F->C<r.length/\r.length<=1000)/\(∀a:aH,a∈dS dd F->(∀b:aH,b∈dS dd F->leH a b->leH b a->a=b))/\x=(r68 I).length/\dd s.outer=A.outer/\r68 I=A.holes)))) (by kernel_rfl) (by
  change Fit s at hp;have c0:(!ak s)=true->aO s=⟨[],[]⟩:=λh=>by unfold aO;grind
  have c1:(!ak s)=false->aO s=c7 s:=λh=>by unfold aO;grind
  have V:(!ak s)=false->VS s:=λh=>(nt s).1 (nb h);have hl:∀x:Nat,(x:Int)<s.holes.length->(aC s.holes x).length<=1000:=λx h=>hp.2.2 _ (gD (by omega));have hn:=hp.2.1;have ho:=hp.1;have e1:∀x:Nat,x<=s.holes.length->(dS dd (aP x s.holes)).length=x:=λx h=>by grind
  have e2:∀x:Nat,(x:Int)<s.holes.length->dS dd (aP x s.holes)++[dd (aC s.holes x)] =dS dd (aP (x+1) s.holes):=λx h=>by rw[iR (by omega),dM,je (by omega)];rfl
  have e3:∀x:Nat,¬(x:Int)<s.holes.length->aP x s.holes=s.holes:=λx h=>fT (by omega);have g1:(!ak s)=false->∀x:Nat,¬(x:Int)<s.holes.length->∀r∈dS dd (aP x s.holes),0<r.length/\r.length<=1000:=λh x hx r hr=>by rw[e3 x hx,DV (V h)]at hr;obtain⟨q,hq,rfl⟩:=bZ.1 hr;rw[j4];have h3:=((V h).ring (show q∈aD s by simp[aD,hq])).three;have:=hp.2.2 q hq;omega
  have g2:(!ak s)=false->∀x:Nat,¬(x:Int)<s.holes.length->∀a∈dS dd (aP x s.holes),∀b∈dS dd (aP x s.holes),leH a b->leH b a->a=b:=λh x hx=>by rw[e3 x hx,DV (V h)];exact U7 (V h)
  have g3:∀l,(r68 (l,false)).length=l.length:=λl=>(mB l).length_eq;have g4:(!ak s)=false->dd s.outer=(aO s).outer:=λh=>by rw[c1 h];unfold dd;rw[(jZ _).2 ((V h).ring (by simp[aD]))];rfl
  have g5:(!ak s)=false->∀x:Nat,¬(x:Int)<s.holes.length->r68 (dS dd (aP x s.holes),false)=(aO s).holes:=λh x hx=>by rw[e3 x hx,DV (V h),c1 h];rfl
  have hf:=hp;clear hp
  repeat' first|with_reducible apply bl|with_reducible intro
  all_goals grind)
noncomputable def t57:=t66.adk k57
noncomputable def aDQ:Con:=con (a1 aS) (λs=>[bd 1000000000 s.a,bd 1000000000 s.b]) (λs=>aT.enc (ft s))
def aCe:aDQ.Okz 183:=ag t57 (λs=>[jb 3 26 (decide ((s.a.x+s.b.x).tmod 2=0)&&decide ((s.a.y+s.b.y).tmod 2=0))]
  ) (λ_=>⟨_,rfl⟩) λs hp=>aY (aA (2:Int) λA=>aA (s.a.x+s.b.x) λB=>aA (s.a.y+s.b.y) λC=>aA (ft s) λD=>aA (decide (cD B 2=0)&&decide (cD C 2=0)) λE=>aE B/\aE C/\(A≠0/\(cD B 2=0->A≠0/\decide (cD C 2=0)=E)/\
  (¬cD B 2=0->false=E))/\
 (∀y:Unit,(E=true->A≠0/\aE (eP B 2)/\A≠0/\aE (eP C 2)/\eP B 2=D.x/\eP C 2=D.y/\1=D.den)/\
  (E=false->s.a.x+s.b.x=D.x/\s.a.y+s.b.y=D.y/\2=D.den))) (by kernel_rfl) (by
  change bd 1000000000 s.a/\bd 1000000000 s.b at hp;unfold bd at hp;have k1:aE (s.a.x+s.b.x):=bD (by omega);have k2:aE (s.a.y+s.b.y):=bD (by omega);have q1:=pT (x:=s.a.x+s.b.x) (g:=2) (B:=4000000000) (by omega);have q2:=pT (x:=s.a.y+s.b.y) (g:=2) (B:=4000000000) (by omega);have k3:aE (eP (s.a.x+s.b.x) 2):=bD (by omega);have k4:aE (eP (s.a.y+s.b.y) 2):=bD (by omega);have m1:(decide (cD (s.a.x+s.b.x) 2=0)&&decide (cD (s.a.y+s.b.y) 2=0))=true->ft s=⟨(s.a.x+s.b.x).tdiv 2,(s.a.y+s.b.y).tdiv 2,1⟩:=λh=>by simp only[bw,decide_eq_true_eq]at h;exact if_pos h
  have m2:(decide (cD (s.a.x+s.b.x) 2=0)&&decide (cD (s.a.y+s.b.y) 2=0))=false->ft s=⟨s.a.x+s.b.x,s.a.y+s.b.y,2⟩:=λh=>if_neg λh2=>by grind
  grind)
noncomputable def QZ:=t57.adk aCe
noncomputable def aEv:Con:=con (ac aS (a1 aS)) (λ(_,_)=>[]) (λ(s,t)=> .bool (cR s t)
 )
def aCT:aEv.Okz 134:=ag QZ (λ(_,_)=>[]) (λ(_,_)=>⟨_,rfl⟩) λ(s,t) _=>aY ((cC s t=0->true=cR s t)/\
 (¬cC s t=0->(cC s t=1->(s.a=t.a->true=cR s t)/\
   (¬s.a=t.a->(s.a=t.b->true=cR s t)/\
    (¬s.a=t.b->(s.b=t.a->true=cR s t)/\
     (¬s.b=t.a->decide (s.b=t.b)=cR s t))))/\
  (¬cC s t=1->false=cR s t))) (by kernel_rfl) (by
  have hd:∀a b:aEZ,(a==b)=decide (a=b):=λa b=>by grind
  unfold cR uh;grind)
noncomputable def RG:=QZ.adk aCT
def aPS:Ar S where
 enc s:= .pro [.int .i64 s.a.x,.int .i64 s.a.y,.int .i64 s.b.x,.int .i64 s.b.y] 0
 dec s:=match s with
  | .pro [.int .i64 x,.int .i64 y,.int .i64 z,.int .i64 w] 0=>some ⟨⟨x,y⟩,⟨z,w⟩⟩
  |_=>none
 ok s a h:=by grind
 pl _:=⟨_,rfl⟩
def P5:Ar (S×Unit):=aCl 133 (ac aPS a0)
noncomputable def aEw:Con:=con (ac aS (a1 aPS)) (λ(_,_)=>[]) (λ(d,c)=> .bool (!cR c d)
 )
def aCU:aEw.Okz 133:=ag RG (λ(_,_)=>[]) (λ(_,_)=>⟨_,rfl⟩) λ(d,c) _=>aY (aA (!cR c d) λA=>A=A) (by kernel_rfl) (by rfl)
noncomputable def RH:=RG.adk aCU
noncomputable def aDR:Con:=con (ac (aL .S) (a1 P5)) (λ(l,_)=>[l.length<=1000000]) (λ(l,c)=> .iqz (fI (λd=> !cR c.1 d) l))
def aCf:aDR.Okz 182:=ag RH (λ(l,c)=>[cnt 2 8 l.length (aM λj=>(!cR c.1 (aK l j))=false)]
  ) (λ(_,_)=>⟨_,rfl⟩) λ(l,c) hp=>aY ((0=(0:Int)/\(0:Nat)<=l.length/\aM (λj=>(!cR c.1 (aK l j))=false) 0)/\
 (∀x:Nat,aA (x:Int) λA=>aA (!cR c.1 (aK l x)) λB=>x<=l.length/\aM (λj=>(!cR c.1 (aK l j))=false) x->(A<l.length->ix A l.length/\(B=true->A=fI (λd=>(!cR c.1 d)) l)/\
   (B=false->aE (A+1)/\A+1=((x+1:Nat):Int)/\x+1<=l.length/\aM (λj=>(!cR c.1 (aK l j))=false) (x+1)/\l.length-(x+1)<l.length-x))/\
  (¬A<l.length-> -1=fI (λd=>(!cR c.1 d)) l))) (by kernel_rfl) (by
  change l.length<=1000000 at hp
  with_reducible ((repeat' first|apply bl|intro);all_goals repeat cases‹_/\_›)
  all_goals first|rfl|exact qE (t:= .S) (by omega) ‹_› ‹_› |(obtain rfl:_=l.length:=tf ‹_› (by omega);exact sm (t:= .S) ‹_›)|grind)
noncomputable def Qa:=RH.adk aCf
noncomputable def aEx:Con:=con (ac (aL .S) (a1 P5)) (λ(l,_)=>[l.length<=1000000]) (λ(l,c)=> .bool (l.any λd=> !cR c.1 d)
 )
def aCV:aEx.Okz 132:=ag Qa (λ(_,_)=>[]) (λ(_,_)=>⟨_,rfl⟩) λ(l,c) hp=>aY (l.length<=1000000/\decide (0<=fI (λd=>(!cR c.1 d)) l)=fe l (λd=>(!cR c.1 d))) (by kernel_rfl) (by change l.length<=1000000 at hp;exact⟨hp,um _ _⟩)
noncomputable def RI:=Qa.adk aCV
noncomputable def aEu:Con:=con (ac aSh (ac (aL .S) (a1 aS))) (λ(s,l,c)=>[Fit s,l.length<=1000000,bd 1000000000 c.a,bd 1000000000 c.b]) (λ(s,l,c)=> .bool ((l.all λe=>cR e c)&&fB s (ft c)==2))
def aCS:aEu.Okz 135:=ag RI (λ(_,l,c)=>[cnt 2 11 l.length (aM λj=>cR (aK l j) c=true)]
  ) (λ(_,_,_)=>⟨_,rfl⟩) λ(s,l,c) hp=>aY (aA (ft c) λB=>(0=(0:Int)/\(0:Nat)<=l.length/\aM (λj=>cR (aK l j) c=true) 0)/\
 (∀x:Nat,aA (x:Int) λA=>aA (!cR (aK l x) c) λC=>x<=l.length/\aM (λj=>cR (aK l j) c=true) x->(A<l.length->ix A l.length/\(C=true->false=(tg l (λe=>cR e c)&&fB s B==2))/\
   (C=false->aE (A+1)/\A+1=((x+1:Nat):Int)/\x+1<=l.length/\aM (λj=>cR (aK l j) c=true) (x+1)/\l.length-(x+1)<l.length-x))/\
  (¬A<l.length->bd 1000000000 c.a/\bd 1000000000 c.b/\Fit s/\decide (fB s B=2)=(tg l (λe=>cR e c)&&fB s B==2)))) (by kernel_rfl) (by
  change Fit s/\l.length<=1000000/\bd 1000000000 c.a/\bd 1000000000 c.b at hp;have n1:∀x:Nat,(x:Int)<l.length->(!cR (aK l x) c)=true->false=(tg l (λe=>cR e c)&&fB s (ft c)==2):=λx h1 h2=>by rw[Bd (t:= .S) (l:=l) (q:=λe=>cR e c) (j:=x) (by omega) (nb' h2)];rfl
  have n2:∀x:Nat,¬(x:Int)<l.length->x<=l.length->aM (λj=>cR (aK l j) c=true) x->decide (fB s (ft c)=2)=(tg l (λe=>cR e c)&&fB s (ft c)==2):=λx h1 h2 h3=>by
   obtain rfl:x=l.length:=by omega
   rw[BE (t:= .S) (l:=l) (q:=λe=>cR e c) h3,nT,fm];simp
  obtain⟨hf,hll,hb1,hb2⟩:=hp
  repeat' first|with_reducible apply bl|with_reducible intro
  all_goals repeat with_reducible cases‹_/\aM _ _›
  all_goals first|rfl|with_reducible solve_by_elim|exact bz ‹_› (nb ‹_›)|grind)
noncomputable def RF:=RI.adk aCS
def pK(s:Shape)(v:List aEZ)(i k:Nat):List (Nat×Nat):=aE6 s v (eY s v i) i (k-(i+1))
def tkB(s:Shape)(v:List aEZ)(i k:Nat):Bool:= !((pK s v i k).any λd=> !(cR ⟨aEY v i,aEY v k⟩ (cX v d)))&&gI s ⟨aEY v i,aEY v k⟩
section
variable {s:Shape} {v:List aEZ} {i k:Nat}
def ZV:pK s v i (i+1)=eY s v i:=by unfold pK;rw[Nat.sub_self];rfl
def Ng(h:i<k):pK s v i (k+1)=if tkB s v i k=true then pK s v i k++[(i,k)]else pK s v i k:=by unfold tkB pK;rw[show k+1-(i+1)=(k-(i+1))+1 by omega];show pw s v _ i (i+1+(k-(i+1)))=_;rw[show i+1+(k-(i+1))=k by omega];rfl
def aAG(h:¬(k:Int)<v.length)(h2:k<=v.length):pK s v i k=eY s v (i+1):=by
 obtain rfl:k=v.length:=by omega
 rfl
def El(acc:List (Nat×Nat)):∀m,(aE6 s v acc i m).length<=acc.length+m
 |0=>bI _
 |m+1=>by
  have:=El acc m;unfold aE6 pw;grind
def zJ:∀i,(eY s v i).length<=i*v.length
 |0=>by simp[eY]
 |i+1=>by
  have h1:=zJ i;have h2:=El (s:=s) (v:=v) (i:=i) (eY s v i) (v.length-(i+1));unfold eY;grind
def aAF(hv:v.length<=900)(hi:i<=v.length)(hk:k<=v.length):(pK s v i k).length<=820000:=by have h1:=zJ (s:=s) (v:=v) i;have h2:=El (s:=s) (v:=v) (i:=i) (eY s v i) (k-(i+1));have h3:i*v.length<=900*900:=tX (by omega) hv;unfold pK;omega
end
noncomputable def c60:Con:=con (ac aSh (a1 (aL .V))) (λ(s,v)=>[Fit s,v.length<=900,(∀x∈v,bd 1000000000 x),(aa s).length<=1000000]) (λ(s,v)=> .lst .P (dP s v))
def k60:c60.Okz 60:=ag RF (λ(s,v)=>[(5,.mk Nat (λF _=>mP F 16) [10,11] (λi=>[i<=v.length]) (λi=>[(16,.iqz (i:Int)),(6,.own 10 .P (eY s v i).length),(7,.own 11 .S (eY s v i).length)]) (λi=>[(10,.row 67 .P (eY s v i)),(11,.row 46 .S ((eY s v i).map (cX v)))]) (λi=>v.length-i) λi=>
  [(8,.mk Nat (λF _=>mP F 9) [10,11] (λk=>[i<k,k<=v.length]) (λk=>[(9,.iqz (k:Int)),(6,.own 10 .P (pK s v i k).length),(7,.own 11 .S (pK s v i k).length)]) (λk=>[(10,.row 67 .P (pK s v i k)),(11,.row 46 .S ((pK s v i k).map (cX v)))]) (λk=>v.length-k) λk=>[jb 13 46 (tkB s v i k)])])]
  ) (λ(_,_)=>⟨_,rfl⟩) λ(s,v) hp=>aY (aA (cX v) λF=>aA (eY s v 0) λP=>Fit s/\(0=(0:Int)/\P.length=0/\P.length=0/\eY s v 0=([] :List (Prod Nat Nat))/\dS F P=([] :List S)/\(0:Nat)<=v.length)/\
 (∀x:Nat,aA (x+1) λA=>aA (x:Int) λD=>aA (pK s v x A) λH=>aA (eY s v x) λO=>aA (eY s v A) λQ=>aA ((x+1:Nat):Int) λR=>x<=v.length->(D<v.length->aE (D+1)/\(D+1=R/\O.length=H.length/\O.length=H.length/\eY s v x=pK s v x A/\dS F O=dS F H/\x<x+1/\x+1<=v.length)/\
   (∀x_1:Nat,aA (x,x_1) λB=>aA (x_1+1) λC=>aA (x_1:Int) λE=>aA (pK s v x C) λG=>aA (pK s v x x_1) λJ=>aA (dS F J) λK=>aA (x_1+1:Nat) λM=>aA (⟨(aEY v x),(aEY v x_1)⟩:S) λN=>x<x_1/\x_1<=v.length->(E<v.length->ix D v.length/\ix E v.length/\J.length=K.length/\K.length<=1000000/\(((!fe K (λd=>(!cR N d)))=true->Fit s/\(aa s).length<=1000000/\bd 1000000000 N.a/\bd 1000000000 N.b/\(tg (aa s) (λe=>cR e N)&&fB s (ft N)==2)=tkB s v x x_1)/\
      ((!fe K (λd=>(!cR N d)))=false->false=tkB s v x x_1))/\
     (∀y:Unit,(tkB s v x x_1=true->J.length=K.length/\K.length+[N].length<=1000000/\J.length=J.length/\J.length+[B].length<=1000000/\aE (E+1)/\E+1=(M:Int)/\(pK s v x x_1++[B]).length=G.length/\(dS F J++[N]).length=G.length/\pK s v x x_1++[B] =pK s v x C/\dS F J++[N] =dS F G/\x<x_1+1/\x_1+1<=v.length/\v.length-C<v.length-x_1)/\
      (tkB s v x x_1=false->aE (E+1)/\E+1=(M:Int)/\J.length=G.length/\J.length=G.length/\pK s v x x_1=pK s v x C/\dS F J=dS F G/\x<x_1+1/\x_1+1<=v.length/\v.length-C<v.length-x_1)))/\
    (¬E<v.length->aE (D+1)/\D+1=R/\J.length=Q.length/\J.length=Q.length/\pK s v x x_1=eY s v A/\dS F J=dS F Q/\x+1<=v.length/\v.length-A<v.length-x)))/\
  (¬D<v.length->O.length=O.length/\eY s v x=dP s v))) (by kernel_rfl) (by
  change Fit s/\v.length<=900/\((∀x∈v,bd 1000000000 x))/\(aa s).length<=1000000 at hp;obtain⟨hf,hv,hb,he⟩:=hp;have hb:∀x:Nat,(x:Int)<v.length->bd 1000000000 (aEY v x):=λx h=>hb _ (dh (by omega));have hL:∀i k:Nat,(i:Int)<v.length->k<=v.length->(pK s v i k).length<=820000:=λi k h1 h2=>aAF hv (by omega) h2;have z:=λi=> @ZV s v i;have sY:∀i k:Nat,i<k->tkB s v i k=true->pK s v i k++[(i,k)] =pK s v i (k+1):=λi k h h2=>by rw[Ng h,if_pos h2]
  have sN:∀i k:Nat,i<k->tkB s v i k=false->pK s v i k=pK s v i (k+1):=λi k h h2=>by rw[Ng h,if_neg (by rw[h2];simp)]
  have sM:∀i k:Nat,i<k->tkB s v i k=true->(pK s v i k).map (cX v)++[⟨aEY v i,aEY v k⟩] =(pK s v i (k+1)).map (cX v):=λi k h h2=>by rw[<-sY i k h h2,dM];rfl
  have pE:=λ(i k:Nat) (h:¬(k:Int)<v.length) (h2:k<=v.length)=> @aAG s v i k h h2;have uE:∀i:Nat,¬(i:Int)<v.length->i<=v.length->eY s v i=dP s v:=λi h1 h2=>by rw[show i=v.length by omega];rfl
  have tA:∀i k:Nat,(dS (cX v) (pK s v i k)).any (λd=> !cR ⟨aEY v i,aEY v k⟩ d)=(pK s v i k).any (λd=> !cR ⟨aEY v i,aEY v k⟩ (cX v d)):=λi k=>by rw[List.any_map];rfl
  have tY:∀i k:Nat,(!(dS (cX v) (pK s v i k)).any (λd=> !cR ⟨aEY v i,aEY v k⟩ d))=true->((aa s).all (λe=>cR e ⟨aEY v i,aEY v k⟩)&&fB s (ft ⟨aEY v i,aEY v k⟩)==2)=tkB s v i k:=λi k h=>by unfold tkB;rw[<-tA,h];rfl
  have tN:∀i k:Nat,(!(dS (cX v) (pK s v i k)).any (λd=> !cR ⟨aEY v i,aEY v k⟩ d))=false->false=tkB s v i k:=λi k h=>by unfold tkB;grind
  repeat' first|with_reducible apply bl|with_reducible intro
  all_goals repeat with_reducible cases‹_<_/\_›
  all_goals first|rfl|with_reducible solve_by_elim|(rw[z];done)|(rw[da];done)|(rw[da];exact cF (hL _ _ ‹_› ‹_›) (by decide))|(rw[da];exact cF (Nat.add_le_add_right (hL _ _ ‹_› ‹_›) 1) (by decide))|exact cF (Nat.add_le_add_right (hL _ _ ‹_› ‹_›) 1) (by decide)|exact congrArg dA (sN _ _ ‹_› ‹_›)|exact congrArg (dS (cX v)) (sN _ _ ‹_› ‹_›)|exact congrArg dA (sY _ _ ‹_› ‹_›)|(rw[sM _ _ ‹_› ‹_›,da];done)|exact congrArg dA (pE _ _ ‹_› ‹_›)|exact congrArg (dS (cX v)) (pE _ _ ‹_› ‹_›)|grind)
noncomputable def t60:=RF.adk k60
end
def Ek{s:Shape}{v:List aEZ}{acc:List (Nat×Nat)}{i:Nat}:∀{m:Nat} {p:Nat×Nat},p∈aE6 s v acc i m->p∈acc\/(p.1=i/\i<p.2/\p.2<i+1+m)
 |0,p,h=> .inl h
 |m+1,p,h=>by
  unfold aE6 pw at h;split at h
  .rcases bg.1 h with h|h
   .rcases Ek h with h|⟨h1,h2,h3⟩
    .exact .inl h
    omega
   grind
  .rcases Ek h with h|⟨h1,h2,h3⟩
   .exact .inl h
   omega
def I4{s:Shape}{v:List aEZ}:∀{i:Nat} {p:Nat×Nat},i<=v.length->p∈eY s v i->p.1<p.2/\p.2<v.length
 |0,p,_,h=>by simp[eY]at h
 |i+1,p,hi,h=>by
  unfold eY at h;rcases Ek h with h|⟨h1,h2,h3⟩
  .exact I4 (by omega) h
  .omega
def JX{s:Shape}{v:List aEZ}{p:Nat×Nat}(h:p∈dP s v):p.1<p.2/\p.2<v.length:=I4 (bI _) h
def UK(r:aH):(aJ r).length<=r.length:=by unfold aJ;grind
def Ic:∀l:List aH,(l.flatMap aJ).length<=(l.map dA).sum
 |[] =>by simp
 |r::l=>by
  have:=Ic l;have:=UK r;grind
def zH{s:Shape}(h:VS s):(aa s).length<=80:=by have h1:=Ic (aD s);have h2:=h.corners;unfold gF at h2;unfold aa;omega
def VW{s:Shape}(h:VS s){r:aH}(hr:r∈(c7 s).holes):3<=r.length/\r.length<=40:=by unfold c7 at hr;have hr:=(mB _).subset hr;obtain⟨q,hq,rfl⟩:=bZ.1 hr;have hv:=h.ring (r:=q) (by unfold aD;grind);rw[j4];exact⟨hv.three,hv.most⟩
def AL{s:Shape}(V:VS s):0<(c7 s).outer.length/\∀r∈(c7 s).holes,0<r.length:=
 ⟨by have h:=V.outer.three;show 0<(bo s.outer).length;rw[j4];omega,λr hr=>by have:=VW V hr;omega⟩
noncomputable def c17:Con:=con (a1 aSh) (λs=>[Fit s]) (λs=> .tup [.lst .V (vOf s),.iqz (eOf s)])
def k17:c17.Okz 17:=ag t60 (λs=>[(5,.mk Nat (λF _=>mP F 14) [12] (λk=>[k<=(aD (aO s)).length]) (λk=>[(14,.iqz (k:Int)),(4,.own 12 .V ((aD (aO s)).take k).flatten.length)]) (λk=>[(12,.row 44 .V ((aD (aO s)).take k).flatten)]) (λk=>(aD (aO s)).length-k) bW)]
  ) (λ_=>⟨_,rfl⟩) λs hp=>aY (Fit s/\((!ak s)=true->vOf s=([] :List aEZ)/\11=eOf s)/\
 ((!ak s)=false->Fit s/\Fit (aO s)/\(0:Nat)<(aO s).outer.length/\(∀r:aH,r∈(aO s).holes->(0:Nat)<r.length)/\(0=(0:Int)/\(ff (aP 0 (aD (aO s)))).length=0/\ff (aP 0 (aD (aO s)))=([] :List aEZ)/\(0:Nat)<=(aD (aO s)).length)/\
  (∀x:Nat,x<=(aD (aO s)).length->((x:Int)<(aD (aO s)).length->ix (x:Int) (aD (aO s)).length/\(ff (aP x (aD (aO s)))).length=(ff (aP x (aD (aO s)))).length/\(ff (aP x (aD (aO s)))).length+(aC (aD (aO s)) x).length<=1000000/\aE ((x:Int)+1)/\(x:Int)+1=((x+1:Nat):Int)/\(ff (aP x (aD (aO s)))++aC (aD (aO s)) x).length=(ff (aP (x+1) (aD (aO s)))).length/\ff (aP x (aD (aO s)))++aC (aD (aO s)) x=ff (aP (x+1) (aD (aO s)))/\x+1<=(aD (aO s)).length/\(aD (aO s)).length-(x+1)<(aD (aO s)).length-x)/\
   (¬(x:Int)<(aD (aO s)).length->(ff (aP x (aD (aO s)))).length=(ff (aP x (aD (aO s)))).length/\ff (aP x (aD (aO s)))=vOf s/\0=eOf s)))) (by kernel_rfl) (by
  change Fit s at hp;have hq:=ii s;have v0:(!ak s)=true->vOf s=[] :=λh=>by unfold vOf;grind
  have v1:(!ak s)=true->11=eOf s:=λh=>by unfold eOf;grind
  have v2:(!ak s)=false->0=eOf s:=λh=>by unfold eOf;grind
  have c1:(!ak s)=false->aO s=c7 s:=λh=>by unfold aO;grind
  have V:(!ak s)=false->VS s:=λh=>(nt s).1 (nb h);have f1:(!ak s)=false->Fit (aO s):=λh=>by rw[c1 h];exact EQ hp
  have f2:(!ak s)=false->0<(aO s).outer.length:=λh=>by rw[c1 h];exact(AL (V h)).1
  have f3:(!ak s)=false->∀r∈(aO s).holes,0<r.length:=λh=>by rw[c1 h];exact(AL (V h)).2
  have f4:(!ak s)=false->(aD (aO s)).flatten.length<=80:=λh=>by rw[c1 h];exact LG (V h)
  have f5:(!ak s)=false->(aD (aO s)).flatten=vOf s:=λh=>by rw[c1 h];unfold vOf;rw[<-hq,nb h];rfl
  have f6:(!ak s)=false->(aD (aO s)).length<=1000:=λh=>by have:=(f1 h).2.1;unfold aD;grind
  generalize aD (aO s)=L at f4 f5 f6|-;have e1:∀x:Nat,(x:Int)<L.length->(L.take x).flatten++aC L x=(L.take (x+1)).flatten:=λx h=>by rw[iR (by omega),te,Se,je (by omega)]
  have e2:∀x:Nat,(L.take x).flatten.length<=L.flatten.length:=λx=>by
   conv=>rhs;rw[<-vu x L,te,eW]
   omega
  have e4:(!ak s)=false->∀x:Nat,(x:Int)<L.length->(L.take x).flatten.length+(aC L x).length<=1000000:=λh x hx=>by grind
  have e5:(!ak s)=false->∀x:Nat,¬(x:Int)<L.length->(L.take x).flatten=vOf s:=λh x hx=>by rw[fT (by omega),f5 h]
  have e6:(!ak s)=false->∀x:Nat,x<=L.length->aE ((x:Int)+1):=λh x hx=>bD (by grind);clear e2 c1 V
  repeat' first|with_reducible apply bl|with_reducible intro
  all_goals grind)
noncomputable def t17:=t60.adk k17
noncomputable def c19:Con:=con (a1 aSh) (λs=>[Fit s]) (λs=> .tup [.lst .S (dOf s),.iqz (eOf s)])
def k19:c19.Okz 19:=ag t17 (λs=>[(6,.mk Nat (λF _=>mP F 21) [16] (λk=>[k<=(dP s (vOf s)).length]) (λk=>[(21,.iqz (k:Int)),(6,.own 16 .S k)]) (λk=>[(16,.row 46 .S (((dP s (vOf s)).map (cX (vOf s))).take k))]) (λk=>(dP s (vOf s)).length-k) bW)]
  ) (λ_=>⟨_,rfl⟩) λs hp=>aY (Fit s/\(¬eOf s=0->dOf s=([] :List S)/\eOf s=eOf s)/\
 (¬(¬eOf s=0)->Fit s/\(vOf s).length<=900/\(∀x:aEZ,x∈vOf s->bd 1000000000 x)/\(aa s).length<=1000000/\(0=(0:Int)/\(0:Nat)=0/\aP 0 (dS (cX (vOf s)) (dP s (vOf s)))=([] :List S)/\(0:Nat)<=(dP s (vOf s)).length)/\
  (∀x:Nat,x<=(dP s (vOf s)).length->((x:Int)<(dP s (vOf s)).length->ix (x:Int) (dP s (vOf s)).length/\ix 0 2/\ix ((aZ (dP s (vOf s)) x).1:Int) (vOf s).length/\ix 1 2/\ix ((aZ (dP s (vOf s)) x).2:Int) (vOf s).length/\x=(aP x (dS (cX (vOf s)) (dP s (vOf s)))).length/\(aP x (dS (cX (vOf s)) (dP s (vOf s)))).length+[(⟨(aEY (vOf s) (aZ (dP s (vOf s)) x).1),(aEY (vOf s) (aZ (dP s (vOf s)) x).2)⟩:S)].length<=1000000/\aE ((x:Int)+1)/\(x:Int)+1=((x+1:Nat):Int)/\(aP x (dS (cX (vOf s)) (dP s (vOf s)))++[(⟨(aEY (vOf s) (aZ (dP s (vOf s)) x).1),(aEY (vOf s) (aZ (dP s (vOf s)) x).2)⟩:S)]).length=x+1/\aP x (dS (cX (vOf s)) (dP s (vOf s)))++[(⟨(aEY (vOf s) (aZ (dP s (vOf s)) x).1),(aEY (vOf s) (aZ (dP s (vOf s)) x).2)⟩:S)] =aP (x+1) (dS (cX (vOf s)) (dP s (vOf s)))/\x+1<=(dP s (vOf s)).length/\(dP s (vOf s)).length-(x+1)<(dP s (vOf s)).length-x)/\
   (¬(x:Int)<(dP s (vOf s)).length->x=(aP x (dS (cX (vOf s)) (dP s (vOf s)))).length/\aP x (dS (cX (vOf s)) (dP s (vOf s)))=dOf s/\0=eOf s)))) (by kernel_rfl) (by
  change Fit s at hp;have hq:=ii s;have d0:¬eOf s=0->dOf s=[] :=λh=>(PA h).1;have R:¬¬eOf s=0->aj s=true:=λh=>uc h;have V:¬¬eOf s=0->VS s:=λh=>vsR (R h);have hvl:=m7 s;have hvb:∀x∈vOf s,bd 1000000000 x:=λx hx=>by obtain⟨i,hi,rfl⟩:=fD.1 hx;exact sf hi (by decide)
  have he:¬¬eOf s=0->(aa s).length<=1000000:=λh=>by have:=zH (V h);omega
  have dE:¬¬eOf s=0->(dP s (vOf s)).map (cX (vOf s))=dOf s:=λh=>by rw[F4 (R h)];rw[uV (R h)];exact(Fy (V h) (λx hx=>(rq s).subset hx) ((rq s).nodup_iff.2 (V h).nodup)).1
  have pL:(dP s (vOf s)).length<=6400:=by have:=zJ (s:=s) (v:=vOf s) (vOf s).length;have h2:(vOf s).length*(vOf s).length<=80*80:=tX hvl hvl;unfold dP;omega
  have pM:∀p∈dP s (vOf s),p.1<p.2/\p.2<(vOf s).length:=λp hp=>JX hp;generalize dP s (vOf s)=P at dE pL pM|-;have pA:∀x:Nat,(x:Int)<P.length->(aZ P x).1<(vOf s).length/\(aZ P x).2<(vOf s).length:=λx h=>by
   have h2:aZ P x∈P:=by rw[mJ (by omega)];exact lI _
   grind
  have p1:∀x:Nat,(x:Int)<P.length->ix ((aZ P x).1:Int) (vOf s).length:=λx h=>dQ (pA x h).1;have p2:∀x:Nat,(x:Int)<P.length->ix ((aZ P x).2:Int) (vOf s).length:=λx h=>dQ (pA x h).2;have e1:∀x:Nat,x<=P.length->(aP x (P.map (cX (vOf s)))).length=x:=λx h=>by grind
  have e2:∀x:Nat,(x:Int)<P.length->aP x (P.map (cX (vOf s)))++[⟨aEY (vOf s) (aZ P x).1,aEY (vOf s) (aZ P x).2⟩] =aP (x+1) (P.map (cX (vOf s))):=λx h=>by rw[iR (by grind),jG,mJ (by omega)];rfl
  have e3:¬¬eOf s=0->∀x:Nat,¬(x:Int)<P.length->aP x (P.map (cX (vOf s)))=dOf s:=λh x hx=>by rw[fT (by grind),dE h]
  clear pM dE pA hq
  repeat' first|with_reducible apply bl|with_reducible intro
  all_goals grind)
noncomputable def t19:=t17.adk k19
def eB(v:List aEZ)(i j k n:Nat):Bool:=n !=i&&n !=j&&n !=k&&dN (P9 (aEY v i) (aEY v j) (aEY v k)) (aEY v n) !=0
noncomputable def aEi:Con:=con (ac (aL .V) (a1 aV)) (λ(l,_)=>[l.length<=1000000]) (λ(l,v)=> .iqz (fI (λu=>decide (v=u)) l))
def Ry:aEi.Okz 150:=ag t19 (λ(l,v)=>[cnt 2 8 l.length (aM λj=>decide (v=aEY l j)=false)]
  ) (λ(_,_)=>⟨_,rfl⟩) λ(l,v) hp=>aY ((0=(0:Int)/\(0:Nat)<=l.length/\aM (λj=>decide (v=aEY l j)=false) 0)/\
 (∀x:Nat,aA (x:Int) λA=>x<=l.length/\aM (λj=>decide (v=aEY l j)=false) x->(A<l.length->ix A l.length/\(v=(aEY l x)->A=fI (λu=>decide (v=u)) l)/\
   (¬v=(aEY l x)->aE (A+1)/\A+1=((x+1:Nat):Int)/\x+1<=l.length/\aM (λj=>decide (v=aEY l j)=false) (x+1)/\l.length-(x+1)<l.length-x))/\
  (¬A<l.length-> -1=fI (λu=>decide (v=u)) l))) (by kernel_rfl) (by
  change l.length<=1000000 at hp
  with_reducible ((repeat' first|apply bl|intro);all_goals repeat cases‹_/\_›)
  all_goals first|rfl|exact qE (t:= .V) (by omega) (decide_eq_true ‹_›) ‹_› |(obtain rfl:_=l.length:=tf ‹_› (by omega);exact sm (t:= .V) ‹_›)|grind)
noncomputable def Q2:=t19.adk Ry
def iM(v:V):Int:=if 0<v.y\/(v.y=0/\0<v.x)then 0 else 1
def aG:Ar (List V) where
 enc v:= .pro [.pro [.lst .V v,.junk,.junk] 0] 0
 dec s:=match s with
  | .pro [.pro [r,.junk,.junk] 0] 0=>ol .V r
  |_=>none
 ok s a h:=by
  split at h
  .have e1:=qt h;simp only[SV.av,avs,e1]
  .cases h
 pl _:=⟨_,rfl⟩
def aQ:Ar Nat where
 enc n:= .pro [.int .i64 (n:Int)] 0
 dec s:=match s with
  | .pro [.int .i64 (.ofNat n)] 0=>some n
  |_=>none
 ok s a h:=by split at h<;>cases h;rfl
 pl _:=⟨_,rfl⟩
def ls(v:List V)(p x y:Nat):Int:=
 let a:=aE1 (aEY v x) (aEY v p)
 let b:=aE1 (aEY v y) (aEY v p)
 if iM a-iM b=0 then-turn ⟨0,0⟩ a b else iM a-iM b
noncomputable def aDu:Con:=con (a1 aV) (λ_=>[]) (λv=> .iqz (iM v)
 )
def aBT:aDu.Okz 223:=ag Q2 bW (λ_=>⟨_,rfl⟩) λv _=>aY ((0<v.y->0=iM v)/\
 (¬0<v.y->(v.y=0->(0<v.x->0=iM v)/\
   (¬0<v.x->1=iM v))/\
  (¬v.y=0->1=iM v))) (by kernel_rfl) (by
  refine⟨λh=>(if_pos (.inl h)).symm,λh=>⟨λh2=>⟨λh3=>(if_pos (.inr ⟨h2,h3⟩)).symm,λh3=>(if_neg ?_).symm⟩,λh2=>(if_neg ?_).symm⟩⟩<;>omega)
noncomputable def QG:=Q2.adk aBT
def MO(v:V):0<=iM v/\iM v<=1:=by unfold iM;omega
def Y4(a b c:V): -1<=turn a b c/\turn a b c<=1:=by unfold turn sgn;omega
noncomputable def aDv:Con:=con (ac aN (ac aN (ac aG (a1 aQ)))) (λ(x,y,v,p)=>[x<v.length,y<v.length,p<v.length,v.length<=1000000,(∀u∈v,bd 500000000 u)]) (λ(x,y,v,p)=> .iqz (ls v p x y)
 )
def Rv:aDv.Okz 222:=ag QG (λ(_,_,_,_)=>[]) (λ(_,_,_,_)=>⟨_,rfl⟩) λ(x,y,v,p) hp=>aY (aA (aEY v p) λA=>aA (aEY v x) λB=>aA (aEY v y) λC=>aA (aE1 B A) λD=>aA (aE1 C A) λE=>aA (⟨0,0⟩:V) λF=>ix (x:Int) v.length/\ix (p:Int) v.length/\bd 1000000000 B/\bd 1000000000 A/\ix (y:Int) v.length/\ix (p:Int) v.length/\bd 1000000000 C/\bd 1000000000 A/\aE (iM D-iM E)/\(¬iM D-iM E=0->iM D-iM E=ls v p x y)/\
 (¬(¬iM D-iM E=0)->bd 1000000000 F/\bd 1000000000 D/\bd 1000000000 E/\aE (0-turn F D E)/\0-turn F D E=ls v p x y)) (by kernel_rfl) (by
  change x<v.length/\y<v.length/\p<v.length/\v.length<=1000000/\((∀u∈v,bd 500000000 u))at hp;obtain⟨hx,hy,hq,hl,hb⟩:=hp;have hb:∀i:Nat,i<v.length->bd 500000000 (aEY v i):=λi h=>hb _ (dh h);have bx:=hb x hx;have by_:=hb y hy;have bp:=hb p hq;have e1:=MO (aE1 (aEY v x) (aEY v p));have e2:=MO (aE1 (aEY v y) (aEY v p));have e3:=Y4 ⟨0,0⟩ (aE1 (aEY v x) (aEY v p)) (aE1 (aEY v y) (aEY v p));have sb:∀a b:V,bd 500000000 a->bd 500000000 b->bd 1000000000 (aE1 a b):=λa b h1 h2=>by unfold bd aE1 at*;grind
  refine⟨dQ hx,dQ hq,bx.mono,bp.mono,dQ hy,dQ hq,by_.mono,bp.mono,bD (by omega),λh=>(if_neg h).symm,λh=>⟨by unfold bd;grind,sb _ _ bx bp,sb _ _ by_ bp,bD (by omega),?_⟩⟩;rw[show ls v p x y=_ from if_pos (rb h)];omega)
noncomputable def aBH:=QG.adk Rv
section
open Go.RowKit Go.Sort Go.Shelf Go.Lib
def vK(lt:Int->Int->Bool)(x:Int):List Int->List Int
 |[] =>[x]
 |y::r=>if lt y x=true then y::vK lt x r else x::y::r
def nF(lt:Int->Int->Bool):List Int->List Int
 |[] =>[]
 |x::l=>vK lt x (nF lt l)
def EG(lt:Int->Int->Bool)(x:Int):∀l:List Int,(vK lt x l).Perm (x::l)
 |[] =>CU _
 |y::r=>by
  unfold vK;split
  .exact((EG lt x r).cons y).trans (List.Perm.swap x y r)
  grind
def tq(lt:Int->Int->Bool):∀l:List Int,(nF lt l).Perm l
 |[] =>CU _
 |x::l=>(EG lt x _).trans ((tq lt l).cons x)
structure OrdOn(lt:Int->Int->Bool)(l:List Int):Prop where
 trans:∀x∈l,∀y∈l,∀z∈l,lt x y=true->lt y z=true->lt x z=true
 asym:∀x∈l,∀y∈l,lt x y=true->lt y x=false
 tot:∀x∈l,∀y∈l,lt x y=false->lt y x=false->x=y
def OrdOn.neg{lt:Int->Int->Bool}{l:List Int}(h:OrdOn lt l){x y z:Int}(hx:x∈l)(hy:y∈l)(hz:z∈l)(h1:lt x y=false)(h2:lt y z=false):lt x z=false:=by
 cases h3:lt x z with
 |false=>rfl
 |true=>
  cases h4:lt y x with
  |false=>have:=h.tot x hx y hy h1 h4;grind
  |true=>rw[h.trans y hy x hx z hz h4 h3]at h2;cases h2
def JA{lt:Int->Int->Bool}{S:List Int}(h:OrdOn lt S){x:Int}(hx:x∈S):∀l:List Int,(∀y∈l,y∈S)->l.Pairwise (λa b=>lt b a=false)->(vK lt x l).Pairwise λa b=>lt b a=false
 |[],_,_=>List.pairwise_singleton _ _
 |y::r,hl,hs=>by
  have hy:=hl y cI;obtain⟨h1,h2⟩:=iB.1 hs;unfold vK;split
  .rename_i hlt;refine iB.2 ⟨λb hb=> ?_,JA h hx r (λz hz=>hl z (cE _ hz)) h2⟩;rcases bT.1 ((EG lt x r).mem_iff.1 hb)with rfl|hb
   .exact h.asym _ hy _ hx hlt
   grind
  .rename_i hlt;have hlt:lt y x=false:=by simpa using hlt
   refine iB.2 ⟨λb hb=> ?_,hs⟩;rcases bT.1 hb with rfl|hb
   .exact hlt
   .exact h.neg (hl b (cE _ hb)) hy hx (h1 b hb) hlt
def C8{lt:Int->Int->Bool}{S:List Int}(h:OrdOn lt S):∀l:List Int,(∀y∈l,y∈S)->(nF lt l).Pairwise λa b=>lt b a=false
 |[],_=>tT
 |x::l,hl=>JA h (hl x cI) _ (λy hy=>hl y (cE _ ((tq lt l).mem_iff.1 hy))) (C8 h l λy hy=>hl y (cE _ hy))
def TQ{lt:Int->Int->Bool}{l k:List Int}(h:OrdOn lt l)(hp:k.Perm l)(hs:k.Pairwise λa b=>lt b a=false):k=nF lt l:=
 SK (λa b h1 h2 h3 h4=>h.tot a (hp.mem_iff.1 h1) b ((tq lt l).mem_iff.1 h2) h4 h3) hs (C8 h l λ_ h=>h) (hp.trans (tq lt l).symm)
def ltA(v:List V)(p:Nat)(x y:Int):Bool:=decide (ls v p x.toNat y.toNat<0)
def Mn{C:bG}{w:World}{p:Nat}{v:List V}{vs:List Value}(h:az C [.fn (.func 222) [] [.pro [.pro [.sl v.length (LT.V.enc v),.junk,.junk] 0] 0,.pro [.int .i64 (p:Int)] 0]] vs):
  ∃cb:List Value,vs=[.func (.func 222) #[] cb.toArray]/\az C [.pro [.pro [.sl v.length (LT.V.enc v),.junk,.junk] 0] 0,.pro [.int .i64 (p:Int)] 0] cb:=by
 unfold az at h;obtain⟨u,r,rfl,h1,h2⟩:=h;unfold az at h2;subst h2;unfold aX at h1;obtain⟨a,b,rfl,h3,h4⟩:=h1;unfold az at h3;grind
def Vx(l:List Int)(v:List V)(p:Nat)(hn:l.length<=1000000)(hl:∀x∈l,0<=x/\x.toNat<v.length)(hp:p<v.length)(hv:v.length<=1000000)(hb:∀u∈v,bd 500000000 u)(hO:OrdOn (ltA v p) l):
  mX bE 221 (some l.length) [.fn (.func 222) [] [.pro [.pro [.sl v.length (LT.V.enc v),.junk,.junk] 0] 0,.pro [.int .i64 (p:Int)] 0]] 3 1 (LT.I.enc l) (LT.I.enc (nF (ltA v p) l)):=by
 have hlen:=(tq (ltA v p) l).length_eq;refine⟨by kernel_rfl,by rw[od,od,da,da,hlen],?_,?_⟩
 .intro C w b c arr vs hC hL hnc hA;obtain⟨cb,rfl,hcb⟩:=Mn (w:=w) hA;have hnc:=hnc _ rfl;obtain⟨hH,hsz⟩:=Kg hL;by_cases hl0:l=[]
  .subst hl0;have h:=AnyF.slices_SortFunc_none (P:=bE) (ρ:=Tryz.sort221_ren) {Tryz.sort221 with} (some ⟨b,0,none⟩) c (.func (.func 222) #[] cb.toArray) w;change Calls bE 221 _ _ _ at h;refine h.mono ?_;rintro e w' ⟨rfl,rfl⟩;exact⟨arr,rfl,hL,⟨rfl,rfl,rfl,bI _,λ_ _ _=>rfl⟩⟩
  obtain⟨x0,hx0⟩:=List.exists_mem_of_ne_nil _ hl0;have:Inhabited {x:Int//x∈l}:=⟨⟨x0,hx0⟩⟩;obtain⟨d,hd⟩:∃d:Array {x:Int//x∈l},d=l.attach.toArray:=⟨_,rfl⟩;have hds:d.size=l.length:=by rw[hd];simp
  have hdm:d.toList.map (·.1)=l:=by rw[hd];simp
  have hblk:b<w.heap.size:=(v7.1 hL.blk).1;have hswo:SWO (ltOf λx y:{x:Int//x∈l}=>ls v p x.1.toNat y.1.toNat):=by
   have e:∀x y:{x:Int//x∈l},ltOf (λx y:{x:Int//x∈l}=>ls v p x.1.toNat y.1.toNat) x y=ltA v p x.1 y.1:=λx y=>rfl;refine⟨λx=> ?_,λx y z h1 h2=> ?_,λx y z h1 h2=> ?_⟩
   .rw[e];cases h:ltA v p x.1 x.1 with
    |false=>rfl
    |true=>have:=hO.asym _ x.2 _ x.2 h;grind
   .rw[e]at*;exact hO.trans _ x.2 _ y.2 _ z.2 h1 h2
   .rw[e]at*;exact hO.neg x.2 y.2 z.2 h1 h2
  have hHd:Holds (λx:{x:Int//x∈l}=>cg .i64 x.1) w b 0 d:=by
   intro j hj;have hj':j<l.length:=by omega
   have:=hH j (by omega);have e:(l.toArray)[j]! =d[j]!.1:=by rw[getElem!_pos _ j (by omega),getElem!_pos d j hj];subst hd;simp
   rw[e]at this;exact this
  have h:=Any.slices_SortFunc (P:=bE) (ρ:=Tryz.sort221_ren) Tryz.sort221 (λx:{x:Int//x∈l}=>cg .i64 x.1) (λ_=>rfl) (λx y=>ls v p x.1.toNat y.1.toNat) hswo 222 cb.toArray b 0 c d w (λargs w=>lK (by kernel_rfl) args w) (by
   intro m os dk hdk x y;have hx:=hl x.1 x.2;have hy:=hl y.1 y.2;obtain⟨A,r,hA2,hr,hS⟩:=Rv [.int .i64 (x.1.toNat:Int),.int .i64 (y.1.toNat:Int),aG.enc v,aQ.enc p] (x.1.toNat,y.1.toNat,v,p) rfl (jd.1 ⟨hx.2,hy.2,hp,hv,hb⟩);have hA3:A=[.int .i64 (x.1.toNat:Int),.int .i64 (y.1.toNat:Int),.pro [.pro [.sl v.length (LT.V.enc v),.junk,.junk] 0] 0,.pro [.int .i64 (p:Int)] 0] :=by have h5:avs [SV.int .i64 (x.1.toNat:Int),.int .i64 (y.1.toNat:Int),aG.enc v,aQ.enc p] =([.int .i64 (x.1.toNat:Int),.int .i64 (y.1.toNat:Int),.pro [.pro [.sl v.length (LT.V.enc v),.junk,.junk] 0] 0,.pro [.int .i64 (p:Int)] 0] :List PV).map .p:=rfl;rw[h5]at hA2;have:=congrArg bM hA2;rw[dU,dU]at this;cases this;rfl
   have hr2:r= .int .i64 (ls v p x.1.toNat y.1.toNat):=by have h6:(SV.int .i64 (ls v p x.1.toNat y.1.toNat)).av= .p r:=hr;cases h6;rfl
   subst hA3;subst hr2;have ex:((x.1.toNat:Nat):Int)=x.1:=IX hx.1;have ey:((y.1.toNat:Nat):Int)=y.1:=IX hy.1;rw[ex,ey]at hS;have h1:=hS.2 C (sortWorld (λx:{x:Int//x∈l}=>cg .i64 x.1) w b 0 m dk os) (.int .i64 x.1:: .int .i64 y.1::cb) (λb' o u h=> ?_) ?_
   .have h2:=JG h1 (by grind);rw[show(#[cg .i64 x.1,cg .i64 y.1] ++cb.toArray)=(cg .i64 x.1:: .int .i64 y.1::cb).toArray by simp];refine h2.mono ?_;rintro e w' ⟨⟨u,rfl,hu,hbel⟩,hdr⟩;unfold aX at hu;subst hu;exact⟨rfl,(Lay.mk hbel hdr).grow⟩
   .obtain⟨h2,h3⟩:=hC _ _ _ h;unfold sortWorld;rw[cell?_grow _ _ _ (by show b'<(putRow _ _ _ _ _).heap.size;rw[size_putRow];exact jz w ⟨b',o,none⟩ h2),cell?_putRow_other _ _ b 0 _ _ (Or.inl h3)];exact h2
   .unfold az;refine⟨_,_,rfl,by unfold aX;rfl,?_⟩;unfold az;exact⟨_,_,rfl,by unfold aX;rfl,hcb⟩) hHd hblk (by omega)
  change Calls bE 221 _ _ _ at h;rw[hds]at h;refine h.mono ?_;rintro e w' ⟨rfl,d',n,os,hp,hs,rfl⟩;obtain⟨p1,_,p3⟩:=hp;have hG:=Cw (enc:=λx:{x:Int//x∈l}=>cg .i64 x.1) (w:=w) (g:=b) (n:=n) (d:=d') (os:=os);have hperm:d'.toList.Perm d.toList:=by
   have e1:(d'.extract 0 l.length).toList=d'.toList:=by rw[<-hds,<-p1];simp
   have e2:(d.extract 0 l.length).toList=d.toList:=by rw[<-hds];simp
   rwa[e1,e2]at p3
  have hpr:(d'.toList.map (·.1)).Perm l:=by have:=hperm.map (·.1);rwa[hdm]at this
  have hso:d'.toList.map (·.1)=nF (ltA v p) l:=by
   refine TQ hO hpr ?_;rw[kK,nU];intro i j hi hj hij;have hj':j<d'.size:=by simpa using hj
   have:=hs i j (iY _) hij (by omega);rw[getElem!_pos d' i (by omega),getElem!_pos d' j hj']at this;show ltOf (λx y:{x:Int//x∈l}=>ls v p x.1.toNat y.1.toNat) (d'.toList[j]) (d'.toList[i])=false;simpa using this
  refine⟨_,rfl,⟨Ie hL.blk,λh=>absurd h (by decide),λ_=> ?_,?_⟩,hG⟩
  .obtain⟨h1,h2,h3⟩:=hL.row (by decide);refine⟨by unfold putCells;grind,?_,h3⟩;rw[od,da,hlen];unfold putCells;grind
  .intro i x hi;rw[<-hso,od,dq,gW]at hi;cases hx:d'.toList[i]? with
   |none=>grind
   |some y=>
    rw[hx]at hi;cases hi;have hi':i<d'.size:=by have:=(rX.1 hx).1;simpa using this
    have hds':d'.size=l.length:=by rw[p1,hds]
    refine⟨.int .i64 y.1,?_,rfl,by unfold aX;rfl⟩;unfold putCells;grind
 .intro h0 C w vs hC hA;obtain⟨cb,rfl,_⟩:=Mn (w:=w) hA;have hl0:l=[] :=ni.1 (by grind);subst hl0;have h:=AnyF.slices_SortFunc_none (P:=bE) (ρ:=Tryz.sort221_ren) {Tryz.sort221 with} none 0 (.func (.func 222) #[] cb.toArray) w;change Calls bE 221 _ _ _ at h;refine h.mono ?_;rintro e w' ⟨rfl,rfl⟩;exact⟨rfl,Below.refl _ _⟩
def Ho:List SV->Option (List Int×List V×Nat)
 |[.lst .I l,.fnp 222 [] [.pro [.pro [.lst .V v,.junk,.junk] 0] 0,.pro [.int .i64 (.ofNat p)] 0]] =>some (l,v,p)
 |_=>none
def Wj{l:List Int}{rest:List SV}{x:List Int×List V×Nat}(h:Ho (.lst .I l::rest)=some x):∃v p,rest=[.fnp 222 [] [.pro [.pro [.lst .V v,.junk,.junk] 0] 0,.pro [.int .i64 (p:Nat)] 0]]/\x=(l,v,p):=by
 unfold Ho at h;split at h
 .grind
 .cases h
noncomputable def aDw:Con:=⟨List Int×List V×Nat,Ho,λ(l,v,p)=>[l.length<=1000000,(∀x∈l,0<=x/\x.toNat<v.length),p<v.length,v.length<=1000000,(∀u∈v,bd 500000000 u),OrdOn (ltA v p) l],.mutR .I 3 λ(l,v,p)=>nF (ltA v p) l⟩
def aBU:aDw.Okz 221:=by intro l rest x hd hp;obtain⟨v,p,rfl,rfl⟩:=Wj hd;obtain⟨h1,h2,h3,h4,h5,h6⟩:=jd.2 hp;exact⟨[.fn (.func 222) [] [.pro [.pro [.sl v.length (LT.V.enc v),.junk,.junk] 0] 0,.pro [.int .i64 (p:Int)] 0]],rfl,Vx l v p h1 h2 h3 h4 h5 h6⟩
noncomputable def tD:=(aBH.adk aBU).adk aB5
end
def c6(l:List V)(v:V):Nat:=l.findIdx λu=>decide (v=u)
def fS(l:List Int)(q:Int):Nat:=l.findIdx λu=>decide (q=u)
def fIx{t:LT}{l:List t.ty}{q:t.ty->Bool}{k:Nat}(hk:k<l.length)(h:q (t.nth l k)=true)(hu:aM (λj=>q (t.nth l j)=false) k):l.findIdx q=k:=by refine(List.findIdx_eq hk).2 ⟨by rw[<-LT.nth_eq t l hk];exact h,λj hj=> ?_⟩;have this:q (t.nth l j)=false:=hu j hj;rw[LT.nth_eq t l (by omega)]at this;exact this
def O6{t:LT}{l:List t.ty}{q:t.ty->Bool}{v:t.ty}(hv:v∈l)(h:q v=true)(hu:aM (λj=>q (t.nth l j)=false) l.length):False:=by obtain⟨j,hj,rfl⟩:=List.mem_iff_getElem.1 hv;have this:q (t.nth l j)=false:=hu j hj;rw[LT.nth_eq t l hj,h]at this;cases this
def OA{l:List Int}{q:Int}(h:q∈l):fS l q<l.length:=List.findIdx_lt_length_of_exists ⟨q,h,decide_eq_true rfl⟩
def mK{l:List V}{q:V}(h:q∈l):c6 l q<l.length:=List.findIdx_lt_length_of_exists ⟨q,h,decide_eq_true rfl⟩
def aGr:Ar (List V×List (List Int)×List Int) where
 enc g:= .pro [.lst .V g.1,.lst .Q g.2.1,.lst .I g.2.2] 0
 dec s:=match s with
  | .pro [a,b,c] 0=>(match ol .V a,ol .Q b,ol .I c with|some x,some y,some z=>some (x,y,z)|_,_,_=>none)
  |_=>none
 ok s a h:=by
  split at h
  .split at h<;>cases h;rename_i h1 h2 h3;have e1:=qt h1;have e2:=qt h2;have e3:=qt h3;simp only[SV.av,avs,e1,e2,e3]
  .cases h
 pl _:=⟨_,rfl⟩
def iS(L:List (List Int))(i j:Nat)(st:Int):Nat:=
 let l:=ai L i
 (cv l (((fS l j:Int)+st+l.length).toNat % l.length)).toNat
noncomputable def aBv:Con:=con (ac (aL .V) (a1 aV)) (λ(l,v)=>[l.length<=1000000,v∈l]) (λ(l,v)=> .iqz (c6 l v:Nat))
def aBh:aBv.Okz 150:=ag tD (λ(l,v)=>[cnt 2 8 l.length (aM λj=>decide (v=aEY l j)=false)]
  ) (λ(_,_)=>⟨_,rfl⟩) λ(l,v) hp=>aY ((0=(0:Int)/\(0:Nat)<=l.length/\aM (λj=>decide (v=aEY l j)=false) 0)/\
 (∀x:Nat,aA (x:Int) λA=>x<=l.length/\aM (λj=>decide (v=aEY l j)=false) x->(A<l.length->ix A l.length/\(v=(aEY l x)->A=c6 l v)/\
   (¬v=(aEY l x)->aE (A+1)/\A+1=((x+1:Nat):Int)/\x+1<=l.length/\aM (λj=>decide (v=aEY l j)=false) (x+1)/\l.length-(x+1)<l.length-x))/\
  (¬A<l.length-> -1=(c6 l v:Int)))) (by kernel_rfl) (by
  change l.length<=1000000/\v∈l at hp;obtain⟨hl,hv⟩:=hp;have e1:∀x:Nat,(x:Int)<l.length->v=aEY l x->aM (λj=>decide (v=aEY l j)=false) x->(x:Int)=c6 l v:=λx h1 h2 h3=>by rw[show c6 l v=x from fIx (t:= .V) (by omega) (decide_eq_true h2) h3]
  have e2:∀x:Nat,¬(x:Int)<l.length->x<=l.length->aM (λj=>decide (v=aEY l j)=false) x-> -1=(c6 l v:Int):=λx h1 h2 h3=>by
   obtain rfl:x=l.length:=by omega
   exact(O6 (t:= .V) (q:=λu=>decide (v=u)) hv (decide_eq_true rfl) h3).elim
  with_reducible ((repeat' first|apply bl|intro);all_goals repeat cases‹_/\_›)
  all_goals grind)
noncomputable def PY:=tD.adk aBh
noncomputable def aDW:Con:=con (ac (aL .I) (a1 aI)) (λ(l,q)=>[l.length<=1000000,q∈l]) (λ(l,q)=> .iqz (fS l q:Nat))
def aCk:aDW.Okz 176:=ag PY (λ(l,q)=>[cnt 2 8 l.length (aM λj=>decide (q=cv l j)=false)]
  ) (λ(_,_)=>⟨_,rfl⟩) λ(l,q) hp=>aY ((0=(0:Int)/\(0:Nat)<=l.length/\aM (λj=>decide (q=cv l j)=false) 0)/\
 (∀x:Nat,aA (x:Int) λA=>x<=l.length/\aM (λj=>decide (q=cv l j)=false) x->(A<l.length->ix A l.length/\(q=cv l x->A=fS l q)/\
   (¬q=cv l x->aE (A+1)/\A+1=((x+1:Nat):Int)/\x+1<=l.length/\aM (λj=>decide (q=cv l j)=false) (x+1)/\l.length-(x+1)<l.length-x))/\
  (¬A<l.length-> -1=(fS l q:Int)))) (by kernel_rfl) (by
  change l.length<=1000000/\q∈l at hp;obtain⟨hl,hv⟩:=hp;have e1:∀x:Nat,(x:Int)<l.length->q=cv l x->aM (λj=>decide (q=cv l j)=false) x->(x:Int)=fS l q:=λx h1 h2 h3=>by rw[show fS l q=x from fIx (t:= .I) (by omega) (decide_eq_true h2) h3]
  have e2:∀x:Nat,¬(x:Int)<l.length->x<=l.length->aM (λj=>decide (q=cv l j)=false) x-> -1=(fS l q:Int):=λx h1 h2 h3=>by
   obtain rfl:x=l.length:=by omega
   exact(O6 (t:= .I) (q:=λu=>decide (q=u)) hv (decide_eq_true rfl) h3).elim
  with_reducible ((repeat' first|apply bl|intro);all_goals repeat cases‹_/\_›)
  all_goals grind)
noncomputable def Qf:=PY.adk aCk
noncomputable def aEI:Con:=con (ac aGr (ac aN (ac aN (a1 aI)))) (λ(g,i,j,st)=>[g.1.length<=1000000,g.2.1.length<=1000000,i<g.2.1.length,(j:Int)∈ai g.2.1 i,(ai g.2.1 i).length<=1000000,(∀x∈ai g.2.1 i,0<=x),st=1\/st= -1]) (λ(g,i,j,st)=> .iqz (iS g.2.1 i j st:Nat)
 )
def aC7:aEI.Okz 116:=ag Qf (λ(_,_,_,_)=>[]) (λ(_,_,_,_)=>⟨_,rfl⟩) λ(g,i,j,st) hp=>aY (aA (ai g.2.1 i) λB=>aA (fS B (j:Int):Int) λC=>aA (B.length:Int) λD=>aA (C+st+B.length) λE=>ix (i:Int) g.2.1.length/\B.length<=1000000/\(j:Int)∈ai g.2.1 i/\aE (C+st)/\aE E/\D≠0/\ix (cD E D) B.length/\cv B (cD E D).toNat=iS g.2.1 i j st) (by kernel_rfl) (by
 change g.1.length<=1000000/\g.2.1.length<=1000000/\i<g.2.1.length/\(j:Int)∈ai g.2.1 i/\(ai g.2.1 i).length<=1000000/\((∀x∈ai g.2.1 i,0<=x))/\(st=1\/st= -1)at hp;obtain⟨h1,h2,h3,h4,h5,h6,h7⟩:=hp;unfold iS;generalize ai g.2.1 i=l at*;have h8:=OA h4;have e0:0<=(fS l (j:Int):Int)+st+l.length:=by omega
 have e1:cD ((fS l (j:Int):Int)+st+l.length) (l.length:Int)=(((((fS l (j:Int):Int)+st+l.length).toNat % l.length:Nat)):Int):=by rw[Int.tmod_eq_emod_of_nonneg e0,<-IX e0];rfl
 have e2:((fS l (j:Int):Int)+st+l.length).toNat % l.length<l.length:=bq _ (by omega);refine⟨dQ h3,h5,h4,bD (by omega),bD (by omega),by omega,by rw[e1];exact dQ e2,?_⟩;rw[e1];have h9:=h6 _ (show cv l (((fS l (j:Int):Int)+st+l.length).toNat % l.length)∈l by rw[show cv l _=_ from oO e2];grind);grind)
noncomputable def RW:=Qf.adk aC7
def iW(L:List (List Int))(a b:Nat):List (List Int):=L.set a (ai L a++[(b:Int)])
def both(L:List (List Int))(a b:Nat):List (List Int):=iW (iW L a b) b a
def rgO(base m:Nat):Nat->List (List Int)->List (List Int)
 |0,L=>L
 |i+1,L=>both (rgO base m i L) (base+i) (base+(i+1) % m)
def rgN(n base m:Nat):Nat->List Int->List Int
 |0,N=>N
 |i+1,N=>if n=0 then(rgN n base m i N).set (base+i) ((base+(i+1) % m:Nat):Int)else(rgN n base m i N).set (base+(i+1) % m) ((base+i:Nat):Int)
def bs(R:List aH)(k:Nat):Nat:=(R.take k).flatten.length
def rsO(R:List aH):Nat->List (List Int)->List (List Int)
 |0,L=>L
 |k+1,L=>rgO (bs R k) (aC R k).length (aC R k).length (rsO R k L)
def rsN(R:List aH):Nat->List Int->List Int
 |0,N=>N
 |k+1,N=>rgN k (bs R k) (aC R k).length (aC R k).length (rsN R k N)
def dgO(v:List aEZ)(D:List aE0):Nat->List (List Int)->List (List Int)
 |0,L=>L
 |k+1,L=>both (dgO v D k L) (c6 v (aK D k).a) (c6 v (aK D k).b)
def dgP(v:List aEZ)(D:List aE0):List (Nat×Nat):=D.map λd=>(c6 v d.a,c6 v d.b)
def stO(v:List aEZ):Nat->List (List Int)->List (List Int)
 |0,L=>L
 |k+1,L=>(stO v k L).set k (nF (ltA v k) (ai (stO v k L) k))
def oX(s:Shape)(k:Nat):List (List Int):=rsO (aD (aO s)) k (cS (vOf s).length [])
def nX(s:Shape)(k:Nat):List Int:=rsN (aD (aO s)) k (cS (vOf s).length 0)
def oB(s:Shape):List (List Int):=rsO (aD (aO s)) (aD (aO s)).length (cS (vOf s).length [])
def oD(s:Shape):List (List Int):=dgO (vOf s) (dOf s) (dOf s).length (oB s)
def oG(s:Shape):List (List Int):=stO (vOf s) (vOf s).length (oD s)
def nG(s:Shape):List Int:=rsN (aD (aO s)) (aD (aO s)).length (cS (vOf s).length 0)
def pG(s:Shape):List (Nat×Nat):=dgP (vOf s) (dOf s)
def uN(L:List (List Int))(a c:Nat)(x:List Int):ai (L.set a x) c=if c=a/\a<L.length then x else ai L c:=by unfold ai;grind
def xK(L:List (List Int))(a b:Nat):(iW L a b).length=L.length:=vw ..
def Ag(L:List (List Int))(a b:Nat):(both L a b).length=L.length:=by unfold both;rw[xK,xK]
def Fb(base m:Nat)(L:List (List Int)):∀i,(rgO base m i L).length=L.length
 |0=>rfl
 |i+1=>(Ag _ _ _).trans (Fb base m L i)
def xQ(n base m:Nat)(N:List Int):∀i,(rgN n base m i N).length=N.length
 |0=>rfl
 |i+1=>by unfold rgN;split<;>rw[vw,xQ n base m N i]
def NO(R:List aH)(L:List (List Int)):∀k,(rsO R k L).length=L.length
 |0=>rfl
 |k+1=>(Fb _ _ _ _).trans (NO R L k)
def Fa(R:List aH)(N:List Int):∀k,(rsN R k N).length=N.length
 |0=>rfl
 |k+1=>(xQ _ _ _ _ _).trans (Fa R N k)
def Fz(v:List aEZ)(D:List aE0)(L:List (List Int)):∀k,(dgO v D k L).length=L.length
 |0=>rfl
 |k+1=>(Ag _ _ _).trans (Fz v D L k)
def An(v:List aEZ)(L:List (List Int)):∀k,(stO v k L).length=L.length
 |0=>rfl
 |k+1=>(vw ..).trans (An v L k)
def Ou(s:Shape)(k:Nat):(oX s k).length=(vOf s).length:=(NO _ _ k).trans rZ
def GW(s:Shape)(k:Nat):(nX s k).length=(vOf s).length:=(Fa _ _ k).trans rZ
def Ov(s:Shape):(oB s).length=(vOf s).length:=Ou s _
def xo(s:Shape):(oD s).length=(vOf s).length:=(Fz _ _ _ _).trans (Ov s)
def aAI(s:Shape):(oG s).length=(vOf s).length:=(An _ _ _).trans (xo s)
def Be{L:List (List Int)}{t:Nat}(h:∀c,(ai L c).length<=t)(a b c:Nat):(ai (iW L a b) c).length<=t+1:=by unfold iW;rw[uN];grind
def PI{L:List (List Int)}{t:Nat}(h:∀c,(ai L c).length<=t)(a b c:Nat):(ai (both L a b) c).length<=t+2:=Be (Be h a b) b a c
def G4{L:List (List Int)}{t:Nat}(h:∀c,(ai L c).length<=t)(base m:Nat):∀i c,(ai (rgO base m i L) c).length<=t+2*i
 |0,c=>h c
 |i+1,c=>PI (G4 h base m i) _ _ c
def qu{R:List aH}{k:Nat}(h:k<R.length):bs R k+(aC R k).length=bs R (k+1):=by unfold bs;rw[iR h,te,Se,eW,je h]
def vC(R:List aH)(k:Nat):bs R k<=R.flatten.length:=by
 unfold bs
 conv=>rhs;rw[<-vu k R,te,eW]
 omega
def Pe{L:List (List Int)}{t:Nat}(h:∀c,(ai L c).length<=t)(R:List aH):∀k,k<=R.length->∀c,(ai (rsO R k L) c).length<=t+2*bs R k
 |0,_,c=>h c
 |k+1,hk,c=>by
  have:=G4 (Pe h R k (by omega)) (bs R k) (aC R k).length (aC R k).length c;have e:=qu (R:=R) (k:=k) (by omega);show(ai (rgO _ _ _ _) c).length<=_;omega
def Rs(s:Shape)(k:Nat)(hk:k<=(aD (aO s)).length)(c:Nat):(ai (oX s k) c).length<=2*bs (aD (aO s)) k:=by
 have:=Pe (L:=cS (vOf s).length []) (t:=0) (λc=>by unfold ai;grind) (aD (aO s)) k hk c
 rw[jy]at this;exact this
def Pw{L:List (List Int)}{t:Nat}(h:∀c,(ai L c).length<=t)(v:List aEZ)(D:List aE0):∀i c,(ai (dgO v D i L) c).length<=t+2*i
 |0,c=>h c
 |i+1,c=>PI (Pw h v D i) _ _ c
def xh(v:List aEZ)(L:List (List Int)):∀k c,c<L.length->ai (stO v k L) c=if c<k then nF (ltA v c) (ai L c)else ai L c
 |0,c,_=>(if_neg (Nat.not_lt_zero c)).symm
 |k+1,c,hc=>by
  show ai ((stO v k L).set k (nF (ltA v k) (ai (stO v k L) k))) c=_;rw[uN,An];by_cases h:c=k
  .subst h;rw[if_pos ⟨rfl,hc⟩,if_pos (by omega),xh v L c c hc,if_neg (Nat.lt_irrefl c)]
  .rw[if_neg λh2=>h h2.1,xh v L k c hc];grind
def po{s:Shape}(hv:ak s=true):(dOf s).length<=6400/\∀d∈dOf s,d.a∈vOf s/\d.b∈vOf s:=by
 have V:VS s:=(nt s).1 hv;have R:aj s=true:=by rw[<-ii];exact hv
 have dE:(dP s (vOf s)).map (cX (vOf s))=dOf s:=by rw[F4 R,uV R];exact(Fy V (λx hx=>(rq s).subset hx) ((rq s).nodup_iff.2 V.nodup)).1
 have hvl:=m7 s;have pL:(dP s (vOf s)).length<=6400:=by have:=zJ (s:=s) (v:=vOf s) (vOf s).length;have h2:(vOf s).length*(vOf s).length<=80*80:=tX hvl hvl;unfold dP;omega
 refine⟨by grind,λd hd=> ?_⟩;rw[<-dE]at hd;obtain⟨p,hp,rfl⟩:=bZ.1 hd;have:=JX hp;exact⟨dh (by omega),dh (by omega)⟩
def GOk(s:Shape):Prop:=∀k,k<(vOf s).length->0<(ai (oD s) k).length/\(∀x∈ai (oD s) k,0<=x/\x.toNat<(vOf s).length)/\OrdOn (ltA (vOf s) k) (ai (oD s) k)
noncomputable def jF(key:Nat)(x:Nat)(L:List (List Int)):Nat×Ann:=(key+10000,.mk Unit (λ_ _=>some ()) [] (λ_=>[]) (λ_=>[]) (λ_=>[(x,.fam 112 3 .I L [])]) (λ_=>0) (λ_=>[]))
noncomputable def aD0:Con:=Ht (a1 aSh) (λs=>[Fit s,ak s=true,GOk s]) (λs=> .tup [.ptr 19 0,.own 40 .P (pG s).length]) (λs=>[(19,some (.box 114 [.lst .V (vOf s),.owF 14 (vOf s).length,.own 17 .I (vOf s).length])),(14,some (.fam 112 3 .I (oG s) [])),(17,some (.row 3 .I (nG s))),(40,some (.row 67 .P (pG s)))])
def aCp:aD0.Okz 171:=OQ (mT RW.o) (st:=true) (raw:=rB) (λs=>[lp 5 39 (aD (aO s)).length bW [] (λk=>[(7,.iqz (bs (aD (aO s)) k:Nat))]) (λk=>[(14,.fam 112 3 .I (oX s k) []),(17,.row 3 .I (nX s k))]) λk=>
  [lp 8 46 (aC (aD (aO s)) k).length bW [] bW (λi=>[(14,.fam 112 3 .I (rgO (bs (aD (aO s)) k) (aC (aD (aO s)) k).length i (oX s k)) []),(17,.row 3 .I (rgN k (bs (aD (aO s)) k) (aC (aD (aO s)) k).length i (nX s k)))]) λi=>
  [jU 11 [(11,.iqz (bs (aD (aO s)) k+i:Nat)),(12,.iqz (bs (aD (aO s)) k+(i+1) % (aC (aD (aO s)) k).length:Nat))],
  jF 12 14 (iW (rgO (bs (aD (aO s)) k) (aC (aD (aO s)) k).length i (oX s k)) (bs (aD (aO s)) k+i) (bs (aD (aO s)) k+(i+1) % (aC (aD (aO s)) k).length))]],
  lp 22 120 (dOf s).length bW [40] (λk=>[(13,.own 40 .P k)]) (λk=>[(14,.fam 112 3 .I (dgO (vOf s) (dOf s) k (oB s)) []),(40,.row 67 .P ((pG s).take k))]) λk=>
  [jF 26 14 (iW (dgO (vOf s) (dOf s) k (oB s)) (c6 (vOf s) (aK (dOf s) k).a) (c6 (vOf s) (aK (dOf s) k).b))],
  lp 30 173 (vOf s).length bW [] bW (λk=>[(14,.fam 112 3 .I (stO (vOf s) k (oD s)) []),(0,.box 0 [.undef])])]) λs hp=>aY (aA (oB s) λA=>aA (oD s) λB=>aA (pG s) λC=>aA (vOf s) λD=>aA (dOf s) λE=>aA (aO s) λG=>aA (0:Nat) λK=>aA (0:Int) λM=>aA (aD G) λV=>aA ([] :List Int) λa=>aA (D.length:Int) λe=>Fit s/\0<=e/\e=D.length/\e<=1000000/\D.length*24<=1000000000/\0<=e/\e=D.length/\e<=1000000/\D.length*8<=1000000000/\Fit s/\Fit G/\K<G.outer.length/\(∀r:aH,r∈G.holes->K<r.length)/\(0=M/\0=(bs V 0:Int)/\cS D.length a=oX s 0/\cS D.length 0=nX s 0/\K<=V.length)/\
 (∀x:Nat,aA (x+1) λF=>aA (oX s x) λH=>aA (nX s x) λI=>aA (x:Int) λL=>aA (bs V x) λW=>aA (aC V x) λX=>aA (bs V x:Int) λZ=>x<=V.length->(L<V.length->ix L V.length/\(0=M/\oX s x=rgO W X.length 0 H/\nX s x=rgN x W X.length 0 I/\K<=X.length)/\
   (∀x_1:Nat,aA (x_1+1) λJ=>aA (x_1:Int) λO=>aA (bs V x+x_1) λY=>aA (x_1+1:Nat) λd=>aA ((bs V x+x_1:Nat):Int) λm=>aA (J % X.length:Nat) λn=>aA (rgO W X.length x_1 H) λo=>aA (j0 o Y a) λp=>aA (bs V x+J % X.length) λq=>aA (iW o Y q) λt=>aA (j0 t q a) λv=>aA (j0 t q a++[m]) λw=>aA (rgN x W X.length x_1 I) λz=>aA ((bs V x+J % X.length:Nat):Int) λA4=>aA (j0 o Y a++[A4]) λA5=>x_1<=X.length->(O<X.length->(aE (Z+x_1)/\aE (O+1)/\(X.length:Int)≠0/\aE (Z+(n:Int))/\Z+x_1=m/\Z+(n:Int)=A4)/\
     (∀y:Unit,(ix m D.length/\bs V x+x_1<o.length/\bs V x+x_1<o.length/\p.length=p.length/\p.length+[A4].length<=1000000/\ix m D.length/\bs V x+x_1=bs V x+x_1/\bs V x+x_1<o.length/\bs V x+x_1<o.length/\A5.length=A5.length/\kO o Y A5=iW o Y q)/\
      (∀y_1:Unit,ix A4 D.length/\bs V x+J % X.length<t.length/\bs V x+J % X.length<t.length/\v.length=v.length/\v.length+[m].length<=1000000/\ix A4 D.length/\bs V x+J % X.length=bs V x+J % X.length/\bs V x+J % X.length<t.length/\(L=0->ix m D.length/\bs V x+x_1<z.length/\aE (O+1)/\bs V x+J % X.length<t.length/\w.length=w.length/\O+1=(d:Int)/\kO t q w=rgO W X.length J H/\kO z Y A4=rgN x W X.length J I/\x_1+1<=X.length/\X.length-J<X.length-x_1)/\
       (¬L=0->ix A4 D.length/\bs V x+J % X.length<z.length/\aE (O+1)/\bs V x+J % X.length<t.length/\w.length=w.length/\O+1=(d:Int)/\kO t q w=rgO W X.length J H/\kO z q m=rgN x W X.length J I/\x_1+1<=X.length/\X.length-J<X.length-x_1))))/\
    (¬O<X.length->aE (Z+X.length)/\aE (L+1)/\L+1=((x+1:Nat):Int)/\Z+X.length=bs V F/\rgO W X.length x_1 H=oX s F/\rgN x W X.length x_1 I=nX s F/\x+1<=V.length/\V.length-F<V.length-x)))/\
  (¬L<V.length->Fit s/\(0=M/\K=0/\oX s x=dgO D E 0 A/\aP 0 C=([] :List (Prod Nat Nat))/\K<=E.length)/\
   (∀x_1:Nat,aA (x_1+1) λN=>aA (x_1:Int) λP=>aA (aK E x_1) λR=>aA (c6 D R.a) λS=>aA (c6 D R.b) λT=>aA (dgO D E x_1 A) λb=>aA (iW b S T) λc=>aA (j0 b S a) λf=>aA (j0 c T a) λg=>aA (aP x_1 C) λh=>aA (c6 D R.a:Int) λi=>aA (c6 D R.b:Int) λj=>aA (j0 b S a++[j]) λA0=>aA (c6 D R.a,c6 D R.b) λA1=>aA (j0 c T a++[i]) λA2=>x_1<=E.length->(P<E.length->ix P E.length/\D.length<=1000000/\R.a∈vOf s/\D.length<=1000000/\R.b∈vOf s/\(ix i D.length/\c6 D R.a<b.length/\c6 D R.a<b.length/\f.length=f.length/\f.length+[j].length<=1000000/\ix i D.length/\c6 D R.a=c6 D R.a/\c6 D R.a<b.length/\c6 D R.a<b.length/\A0.length=A0.length/\kO b S A0=iW b S T)/\
     (∀y:Unit,ix j D.length/\c6 D R.b<c.length/\c6 D R.b<c.length/\g.length=g.length/\g.length+[i].length<=1000000/\ix j D.length/\c6 D R.b=c6 D R.b/\c6 D R.b<c.length/\x_1=h.length/\h.length+[A1].length<=1000000/\aE (P+1)/\c6 D R.b<c.length/\A2.length=A2.length/\P+1=((x_1+1:Nat):Int)/\(aP x_1 C++[A1]).length=x_1+1/\kO c T A2=dgO D E N A/\aP x_1 C++[A1] =aP N C/\x_1+1<=E.length/\E.length-N<E.length-x_1))/\
    (¬P<E.length->(0=M/\dgO D E x_1 A=stO D 0 B/\K<=D.length)/\
     (∀x_2:Nat,aA (x_2:Int) λQ=>aA (stO D x_2 B) λU=>aA (j0 U x_2 a) λk=>x_2<=D.length->(Q<D.length->ix Q D.length/\x_2<U.length/\x_2<U.length/\k.length=k.length/\K<k.length/\k.length<=1000000/\(∀x:Int,x∈j0 U x_2 a->0<=x/\x.toNat<D.length)/\x_2<D.length/\D.length<=1000000/\(∀u:aEZ,u∈vOf s->bd 500000000 u)/\OrdOn (ltA D x_2) k/\aE (Q+1)/\Q+1=((x_2+1:Nat):Int)/\kO U x_2 (nF (ltA D x_2) k)=stO D (x_2+1) B/\x_2+1<=D.length/\D.length-(x_2+1)<D.length-x_2)/\
      (¬Q<D.length->x_1=C.length/\vOf s=vOf s/\D.length=D.length/\D.length=D.length/\stO D x_2 B=oG s/\nX s x=nG s/\aP x_1 C=pG s))))))) (by kernel_rfl) (by
  change Fit s/\ak s=true/\GOk s at hp;obtain⟨hf,hv,hg⟩:=hp;have V:VS s:=(nt s).1 hv;have hR:aj s=true:=by rw[<-ii];exact hv
  have c1:aO s=c7 s:=if_pos hv;have f1:Fit (aO s):=by rw[c1];exact EQ hf
  have f2:0<(aO s).outer.length:=by rw[c1];exact(AL V).1
  have f3:∀r∈(aO s).holes,0<r.length:=by rw[c1];exact(AL V).2
  have fl:(aD (aO s)).flatten=vOf s:=by rw[c1,uV hR];rfl
  have n80:(vOf s).length<=80:=m7 s;have rl:(aD (aO s)).length<=1000:=by have:=f1.2.1;unfold aD;rw[gk];omega
  obtain⟨dl,dm⟩:=po hv;have vb:∀u∈vOf s,bd 500000000 u:=λu hu=>by obtain⟨i,hi,rfl⟩:=fD.1 hu;exact sf hi (by decide)
  have hB:∀x:Nat,(x:Int)<(aD (aO s)).length->bs (aD (aO s)) x+(aC (aD (aO s)) x).length<=(vOf s).length:=λx h=>by rw[qu (by omega),<-fl];exact vC _ _
  have oXB:∀x:Nat,(x:Int)<(aD (aO s)).length->∀c,(ai (oX s x) c).length<=200:=λx h c=>by have h1:=Rs s x (by omega) c;grind
  have oBB:∀c,(ai (oB s) c).length<=200:=λc=>by have h1:=Rs s _ (bI _) c;have h2:=vC (aD (aO s)) (aD (aO s)).length;rw[fl]at h2;have h3:(ai (oB s) c).length<=2*bs (aD (aO s)) (aD (aO s)).length:=h1;omega
  have dOB:∀k,k<=(dOf s).length->∀c,(ai (dgO (vOf s) (dOf s) k (oB s)) c).length<=13000:=λk hk c=>by have:=Pw oBB (vOf s) (dOf s) k c;omega
  have rOB:∀x i:Nat,(x:Int)<(aD (aO s)).length->(i:Int)<(aC (aD (aO s)) x).length->∀c,(ai (rgO (bs (aD (aO s)) x) (aC (aD (aO s)) x).length i (oX s x)) c).length<=400:=λx i h h2 c=>by have:=G4 (oXB x h) (bs (aD (aO s)) x) (aC (aD (aO s)) x).length i c;grind
  have r1:∀x i:Nat,(x:Int)<(aD (aO s)).length->(i:Int)<(aC (aD (aO s)) x).length->bs (aD (aO s)) x+i<(vOf s).length:=λx i h h2=>by grind
  have r2:∀x i:Nat,(x:Int)<(aD (aO s)).length->(i:Int)<(aC (aD (aO s)) x).length->bs (aD (aO s)) x+(i+1) % (aC (aD (aO s)) x).length<(vOf s).length:=λx i h h2=>by have:=hB x h;have:=bq (i+1) (show 0<(aC (aD (aO s)) x).length by omega);omega
  have t1:∀x i:Nat,(x:Int)<(aD (aO s)).length->(i:Int)<(aC (aD (aO s)) x).length->aE ((bs (aD (aO s)) x:Int)+i):=λx i h h2=>bD (by grind);have t2:∀x i:Nat,(x:Int)<(aD (aO s)).length->(i:Int)<(aC (aD (aO s)) x).length->aE ((i:Int)+1):=λx i h h2=>bD (by have:=r1 x i h h2;omega);have t3:∀x i:Nat,(x:Int)<(aD (aO s)).length->(i:Int)<(aC (aD (aO s)) x).length->aE ((bs (aD (aO s)) x:Int)+(((i+1) % (aC (aD (aO s)) x).length:Nat):Int)):=λx i h h2=>bD (by grind);have t4:∀x i:Nat,(x:Int)<(aD (aO s)).length->(i:Int)<(aC (aD (aO s)) x).length->ix ((bs (aD (aO s)) x+i:Nat):Int) (vOf s).length:=λx i h h2=>dQ (r1 x i h h2);have t5:∀x i:Nat,(x:Int)<(aD (aO s)).length->(i:Int)<(aC (aD (aO s)) x).length->ix ((bs (aD (aO s)) x+(i+1) % (aC (aD (aO s)) x).length:Nat):Int) (vOf s).length:=λx i h h2=>dQ (r2 x i h h2);have rl2:∀x i:Nat,(rgO (bs (aD (aO s)) x) ((aC (aD (aO s)) x).length) i (oX s x)).length=(vOf s).length:=λx i=>(Fb _ _ _ i).trans (Ou s x);have nl2:∀x i:Nat,(rgN x (bs (aD (aO s)) x) (aC (aD (aO s)) x).length i (nX s x)).length=(vOf s).length:=λx i=>(xQ _ _ _ _ i).trans (GW s x);have t6:∀x i:Nat,(x:Int)<(aD (aO s)).length->(i:Int)<(aC (aD (aO s)) x).length->bs (aD (aO s)) x+i<(rgO (bs (aD (aO s)) x) ((aC (aD (aO s)) x).length) i (oX s x)).length:=λx i h h2=>by grind
  have t7:∀x i a b:Nat,(x:Int)<(aD (aO s)).length->(i:Int)<(aC (aD (aO s)) x).length->bs (aD (aO s)) x+(i+1) % (aC (aD (aO s)) x).length<(iW (rgO (bs (aD (aO s)) x) ((aC (aD (aO s)) x).length) i (oX s x)) a b).length:=λx i a b h h2=>by rw[xK,rl2];grind
  have t8:∀x i c:Nat,∀z:Int,(x:Int)<(aD (aO s)).length->(i:Int)<(aC (aD (aO s)) x).length->((rgO (bs (aD (aO s)) x) ((aC (aD (aO s)) x).length) i (oX s x)).getD c []).length+[z].length<=1000000:=λx i c z h h2=>by have:((rgO (bs (aD (aO s)) x) ((aC (aD (aO s)) x).length) i (oX s x)).getD c []).length<=400:=rOB x i h h2 c;grind
  have t9:∀x i a b c:Nat,∀z:Int,(x:Int)<(aD (aO s)).length->(i:Int)<(aC (aD (aO s)) x).length->((iW (rgO (bs (aD (aO s)) x) ((aC (aD (aO s)) x).length) i (oX s x)) a b).getD c []).length+[z].length<=1000000:=λx i a b c z h h2=>by have:((iW (rgO (bs (aD (aO s)) x) ((aC (aD (aO s)) x).length) i (oX s x)) a b).getD c []).length<=401:=Be (rOB x i h h2) a b c;grind
  have t10:∀x i:Nat,(x:Int)<(aD (aO s)).length->(i:Int)<(aC (aD (aO s)) x).length->bs (aD (aO s)) x+i<(rgN x (bs (aD (aO s)) x) (aC (aD (aO s)) x).length i (nX s x)).length:=λx i h h2=>by grind
  have t11:∀x i:Nat,(x:Int)<(aD (aO s)).length->(i:Int)<(aC (aD (aO s)) x).length->bs (aD (aO s)) x+(i+1) % (aC (aD (aO s)) x).length<(rgN x (bs (aD (aO s)) x) (aC (aD (aO s)) x).length i (nX s x)).length:=λx i h h2=>by grind
  have t12:∀x i:Nat,(x:Int)=0->(rgN x (bs (aD (aO s)) x) (aC (aD (aO s)) x).length i (nX s x)).set (bs (aD (aO s)) x+i) ((bs (aD (aO s)) x+(i+1) % (aC (aD (aO s)) x).length:Nat):Int)=rgN x (bs (aD (aO s)) x) ((aC (aD (aO s)) x).length) (i+1) (nX s x):=λx i h=>(if_pos (show x=0 by omega)).symm;have t13:∀x i:Nat,¬(x:Int)=0->(rgN x (bs (aD (aO s)) x) (aC (aD (aO s)) x).length i (nX s x)).set (bs (aD (aO s)) x+(i+1) % (aC (aD (aO s)) x).length) ((bs (aD (aO s)) x+i:Nat):Int)=rgN x (bs (aD (aO s)) x) ((aC (aD (aO s)) x).length) (i+1) (nX s x):=λx i h=>(if_neg (show¬x=0 by omega)).symm;have t14:∀x:Nat,(x:Int)<(aD (aO s)).length->aE ((bs (aD (aO s)) x:Int)+(aC (aD (aO s)) x).length):=λx h=>bD (by grind);have t15:∀x:Nat,(x:Int)<(aD (aO s)).length->(bs (aD (aO s)) x:Int)+(aC (aD (aO s)) x).length=(bs (aD (aO s)) (x+1):Int):=λx h=>by rw[<-qu (show x<(aD (aO s)).length by omega)];omega
  have t16:∀x i:Nat,¬(i:Int)<(aC (aD (aO s)) x).length->i<=(aC (aD (aO s)) x).length->rgO (bs (aD (aO s)) x) ((aC (aD (aO s)) x).length) i (oX s x)=oX s (x+1):=λx i h h2=>by rw[show i=(aC (aD (aO s)) x).length by omega];rfl
  have t17:∀x i:Nat,¬(i:Int)<(aC (aD (aO s)) x).length->i<=(aC (aD (aO s)) x).length->rgN x (bs (aD (aO s)) x) (aC (aD (aO s)) x).length i (nX s x)=nX s (x+1):=λx i h h2=>by rw[show i=(aC (aD (aO s)) x).length by omega];rfl
  have t18:∀x:Nat,¬(x:Int)<(aD (aO s)).length->x<=(aD (aO s)).length->oX s x=oB s:=λx h h2=>by rw[show x=(aD (aO s)).length by omega];rfl
  have t19:∀x:Nat,¬(x:Int)<(aD (aO s)).length->x<=(aD (aO s)).length->nX s x=nG s:=λx h h2=>by rw[show x=(aD (aO s)).length by omega];rfl
  have d0:∀x:Nat,(x:Int)<(dOf s).length->aK (dOf s) x∈dOf s:=λx h=>by rw[eZ (show x<(dOf s).length by omega)];grind
  have d1:∀x:Nat,(x:Int)<(dOf s).length->(aK (dOf s) x).a∈vOf s:=λx h=>(dm _ (d0 x h)).1;have d2:∀x:Nat,(x:Int)<(dOf s).length->(aK (dOf s) x).b∈vOf s:=λx h=>(dm _ (d0 x h)).2;have d3:∀x:Nat,(x:Int)<(dOf s).length->ix (c6 (vOf s) (aK (dOf s) x).a:Int) (vOf s).length:=λx h=>dQ (mK (d1 x h));have d4:∀x:Nat,(x:Int)<(dOf s).length->ix (c6 (vOf s) (aK (dOf s) x).b:Int) (vOf s).length:=λx h=>dQ (mK (d2 x h));have dl2:∀x:Nat,(dgO (vOf s) (dOf s) x (oB s)).length=(vOf s).length:=λx=>(Fz _ _ _ x).trans (Ov s);have d5:∀x:Nat,(x:Int)<(dOf s).length->c6 (vOf s) (aK (dOf s) x).a<(dgO (vOf s) (dOf s) x (oB s)).length:=λx h=>by rw[dl2];exact mK (d1 x h)
  have d6:∀x a b:Nat,(x:Int)<(dOf s).length->c6 (vOf s) (aK (dOf s) x).b<(iW (dgO (vOf s) (dOf s) x (oB s)) a b).length:=λx a b h=>by rw[xK,dl2];exact mK (d2 x h)
  have d7:∀x c:Nat,∀z:Int,(x:Int)<(dOf s).length->((dgO (vOf s) (dOf s) x (oB s)).getD c []).length+[z].length<=1000000:=λx c z h=>by have:((dgO (vOf s) (dOf s) x (oB s)).getD c []).length<=13000:=dOB x (by omega) c;simp only[tU];omega
  have d8:∀x a b c:Nat,∀z:Int,(x:Int)<(dOf s).length->((iW (dgO (vOf s) (dOf s) x (oB s)) a b).getD c []).length+[z].length<=1000000:=λx a b c z h=>by have:((iW (dgO (vOf s) (dOf s) x (oB s)) a b).getD c []).length<=13001:=Be (dOB x (by omega)) a b c;simp only[tU];omega
  have pl:(pG s).length=(dOf s).length:=da ..;have d9:∀x:Nat,x<=(dOf s).length->(aP x (pG s)).length=x:=λx h=>by rw[l6];omega
  have d10:∀x:Nat,(x:Int)<(dOf s).length->aP x (pG s)++[(c6 (vOf s) (aK (dOf s) x).a,c6 (vOf s) (aK (dOf s) x).b)] =aP (x+1) (pG s):=λx h=>by rw[iR (show x<(pG s).length by omega)];unfold pG dgP;rw[jG,eZ (show x<(dOf s).length by omega)]
  have d11:∀x:Nat,¬(x:Int)<(dOf s).length->x<=(dOf s).length->dgO (vOf s) (dOf s) x (oB s)=oD s:=λx h h2=>by rw[show x=(dOf s).length by omega];rfl
  have d12:∀x:Nat,¬(x:Int)<(dOf s).length->x<=(dOf s).length->x=(pG s).length:=λx h h2=>by omega
  have d13:∀x:Nat,¬(x:Int)<(dOf s).length->aP x (pG s)=pG s:=λx h=>fT (by omega);have s0:∀x:Nat,(x:Int)<(vOf s).length->(stO (vOf s) x (oD s)).getD x [] =ai (oD s) x:=λx h=>by have:=xh (vOf s) (oD s) x x (by rw[xo];omega);rw[if_neg (Nat.lt_irrefl x)]at this;exact this
  have s1:∀x:Nat,(x:Int)<(vOf s).length->x<(stO (vOf s) x (oD s)).length:=λx h=>by rw[An,xo];omega
  have s2:∀x:Nat,(x:Int)<(vOf s).length->0<((stO (vOf s) x (oD s)).getD x []).length:=λx h=>by rw[s0 x h];exact(hg x (by omega)).1
  have s3:∀x:Nat,(x:Int)<(vOf s).length->((stO (vOf s) x (oD s)).getD x []).length<=1000000:=λx h=>by rw[s0 x h];have:=dOB _ (bI _) x;grind
  have s4:∀x:Nat,(x:Int)<(vOf s).length->∀y∈(stO (vOf s) x (oD s)).getD x [],0<=y/\y.toNat<(vOf s).length:=λx h=>by rw[s0 x h];exact(hg x (by omega)).2.1
  have s5:∀x:Nat,(x:Int)<(vOf s).length->OrdOn (ltA (vOf s) x) ((stO (vOf s) x (oD s)).getD x []):=λx h=>by rw[s0 x h];exact(hg x (by omega)).2.2
  have s6:∀x:Nat,¬(x:Int)<(vOf s).length->x<=(vOf s).length->stO (vOf s) x (oD s)=oG s:=λx h h2=>by rw[show x=(vOf s).length by omega];rfl
  have w1:∀x:Nat,x<=(vOf s).length->aE ((x:Int)+1):=λx h=>bD (by omega);clear hB oXB oBB dOB rOB fl c1 V hR hg
  repeat' first|with_reducible apply bl|with_reducible intro
  all_goals repeat with_reducible cases‹_/\_›
  all_goals first|assumption|rfl|omega|(unfold ix;omega)|(unfold aE;omega)|exact f3 _ ‹_› |exact t1 _ _ ‹_› ‹_› |exact t2 _ _ ‹_› ‹_› |exact t3 _ _ ‹_› ‹_› |exact t4 _ _ ‹_› ‹_› |exact t5 _ _ ‹_› ‹_› |exact t6 _ _ ‹_› ‹_› |exact t7 _ _ _ _ ‹_› ‹_› |exact t8 _ _ _ _ ‹_› ‹_› |exact t9 _ _ _ _ _ _ ‹_› ‹_› |exact t10 _ _ ‹_› ‹_› |exact t11 _ _ ‹_› ‹_› |exact t12 _ _ ‹_› |exact t13 _ _ ‹_› |exact t14 _ ‹_› |exact t15 _ ‹_› |exact t16 _ _ ‹_› ‹_› |exact t17 _ _ ‹_› ‹_› |exact t18 _ ‹_› ‹_› |exact t19 _ ‹_› ‹_› |exact d1 _ ‹_› |exact d2 _ ‹_› |exact d3 _ ‹_› |exact d4 _ ‹_› |exact d5 _ ‹_› |exact d6 _ _ _ ‹_› |exact d7 _ _ _ ‹_› |exact d8 _ _ _ _ _ ‹_› |exact(d9 _ ‹_›).symm|(rw[d9 _ ‹_›];simp;omega)|(rw[eW,d9 _ ‹_›];rfl)|exact d10 _ ‹_› |exact d11 _ ‹_› ‹_› |exact d12 _ ‹_› ‹_› |exact d13 _ ‹_› |exact s1 _ ‹_› |exact s2 _ ‹_› |exact s3 _ ‹_› |exact(s4 _ ‹_› _ ‹_›).1|exact(s4 _ ‹_› _ ‹_›).2|exact vb _ ‹_› |exact s5 _ ‹_› |grind)
noncomputable def Qj:=RW.adk aCp
def gv(v:List V)(L:List (List Int))(i j:Nat):Bool:=decide (0<=turn (aEY v i) (aEY v (iS L i j (-1))) (aEY v (iS L i j 1)))
structure ArOk(v:List V)(L:List (List Int))(i j:Nat):Prop where
 iL:i<L.length
 mem:(j:Int)∈ai L i
 rng:∀x∈ai L i,0<=x/\x.toNat<v.length
 len:(ai L i).length<=1000000
def ArOk.around{v:List V}{L:List (List Int)}{i j:Nat}(h:ArOk v L i j)(st:Int):((iS L i j st:Nat):Int)∈ai L i/\iS L i j st<v.length:=by
 unfold iS;dsimp only;have h0:0<(ai L i).length:=IY h.mem;generalize ((fS (ai L i) (j:Int):Int)+st+(ai L i).length).toNat=k;have hm:cv (ai L i) (k % (ai L i).length)∈ai L i:=by rw[show cv (ai L i) (k % (ai L i).length)=_ from oO (bq _ h0)];exact lI _
 obtain⟨h1,h2⟩:=h.rng _ hm;grind
noncomputable def aDZ:Con:=con (ac aGr (ac aN (a1 aN))) (λ(g,i,j)=>[g.1.length<=1000000,g.2.1.length<=g.1.length,(∀u∈g.1,bd 1000000000 u),ArOk g.1 g.2.1 i j]) (λ(g,i,j)=> .bool (gv g.1 g.2.1 i j)
 )
def aCo:aDZ.Okz 172:=ag Qj (λ(_,_,_)=>[]) (λ(_,_,_)=>⟨_,rfl⟩) λ(g,i,j) hp=>aY (aA (aEY g.1 i) λA=>aA (ai g.2.fst i) λB=>aA (aEY g.1 (iS g.2.fst i j 1)) λD=>aA (aEY g.1 (iS g.2.fst i j (-1))) λF=>g.fst.length<=1000000/\g.2.fst.length<=1000000/\i<g.2.fst.length/\(j:Int)∈ai g.2.fst i/\B.length<=1000000/\(∀x:Int,x∈ai g.2.fst i->0<=x)/\((-1:Int)=1\/(-1:Int)= -1)/\g.fst.length<=1000000/\g.2.fst.length<=1000000/\i<g.2.fst.length/\(j:Int)∈ai g.2.fst i/\B.length<=1000000/\(∀x:Int,x∈ai g.2.fst i->0<=x)/\((1:Int)=1\/(1:Int)= -1)/\ix (i:Int) g.1.length/\ix (iS g.2.fst i j (-1):Int) g.1.length/\ix (iS g.2.fst i j 1:Int) g.1.length/\bd 1000000000 A/\bd 1000000000 F/\bd 1000000000 D/\decide (0<=turn A F D)=gv g.1 g.2.1 i j) (by kernel_rfl) (by
 change g.1.length<=1000000/\g.2.1.length<=g.1.length/\((∀u∈g.1,bd 1000000000 u))/\ArOk g.1 g.2.1 i j at hp;obtain⟨h1,h2,h3,h4⟩:=hp;have a1:=(h4.around (-1)).2;have a2:=(h4.around 1).2;have bN:∀i:Nat,i<g.1.length->bd 1000000000 (aEY g.1 i):=λi h=>h3 _ (dh h);have r:∀x∈ai g.2.1 i,0<=x:=λx hx=>(h4.rng x hx).1;have iL:=h4.iL;have iv:i<g.1.length:=by omega
 have l2:g.2.1.length<=1000000:=by omega
 exact⟨h1,l2,iL,h4.mem,h4.len,r,.inr rfl,h1,l2,iL,h4.mem,h4.len,r,.inl rfl,dQ iv,dQ a1,dQ a2,bN _ iv,bN _ a1,bN _ a2,rfl⟩)
noncomputable def Qi:=Qj.adk aCo
def uU(l:List Int)(q:Int):List Int:=l.filter λy=> !(y==q)
def Bw(L:List (List Int))(i j:Nat):List (List Int):=(L.set j (uU (ai L j) i)).set i (uU (ai L i) j)
def stS(v:List V)(P:List (Nat×Nat)):Nat->List (List Int)->List (List Int)×List (Nat×Nat)
 |0,L=>(L,[])
 |k+1,L=>
  let r:=stS v P k L
  let p:=aZ P k
  if gv v r.1 p.1 p.2=true/\gv v r.1 p.2 p.1=true then(Bw r.1 p.1 p.2,r.2)else(r.1,r.2++[p])
def sG(s:Shape)(k:Nat):List (List Int)×List (Nat×Nat):=stS (vOf s) (pG s) k (oG s)
def soG(s:Shape):List (List Int):=(sG s (pG s).length).1
def spG(s:Shape):List (Nat×Nat):=(sG s (pG s).length).2
def NE(v:List V)(P:List (Nat×Nat))(L:List (List Int)):∀k,(stS v P k L).1.length=L.length
 |0=>rfl
 |k+1=>by
  have:=NE v P L k;unfold stS;dsimp only;split
  .unfold Bw;grind
  .exact this
def xm(s:Shape)(k:Nat):(sG s k).1.length=(vOf s).length:=(NE _ _ _ k).trans (aAI s)
def BH(v:List V)(P:List (Nat×Nat))(L:List (List Int)):∀k,(stS v P k L).2.length<=k
 |0=>bI _
 |k+1=>by
  have:=BH v P L k;unfold stS;grind
def FS(v:List V)(P:List (Nat×Nat))(L:List (List Int)):∀k,k<=P.length->∀p∈(stS v P k L).2,p∈P
 |0,_,p,hp=>(cn hp).elim
 |k+1,hk,p,hp=>by
  have ih:=FS v P L k (by omega);unfold stS at hp;dsimp only at hp;split at hp
  .exact ih p hp
  .rcases bg.1 hp with hp|hp
   .exact ih p hp
   .rw[bi.1 hp,mJ (by omega)];grind
def GS{s:Shape}{k:Nat}(h1:gv (vOf s) (sG s k).1 (aZ (pG s) k).1 (aZ (pG s) k).2=true)(h2:gv (vOf s) (sG s k).1 (aZ (pG s) k).2 (aZ (pG s) k).1=true):
 sG s (k+1)=(Bw (sG s k).1 (aZ (pG s) k).1 (aZ (pG s) k).2,(sG s k).2):=if_pos ⟨h1,h2⟩
def x9{s:Shape}{k:Nat}(h:gv (vOf s) (sG s k).1 (aZ (pG s) k).1 (aZ (pG s) k).2=false\/gv (vOf s) (sG s k).1 (aZ (pG s) k).2 (aZ (pG s) k).1=false):
  sG s (k+1)=((sG s k).1,(sG s k).2++[((aZ (pG s) k).1,(aZ (pG s) k).2)]):=if_neg λh2=>by
 rcases h with h|h
 .exact absurd (h.symm.trans h2.1) (by decide)
 .exact absurd (h.symm.trans h2.2) (by decide)
def Bq{s:Shape}(hv:ak s=true){p:Nat×Nat}(h:p∈pG s):p.1<(vOf s).length/\p.2<(vOf s).length:=by obtain⟨d,hd,rfl⟩:=bZ.1 h;obtain⟨h1,h2⟩:=(po hv).2 d hd;exact⟨mK h1,mK h2⟩
def qx(s:Shape):(pG s).length=(dOf s).length:=da ..
def SOk(s:Shape):Prop:=∀k,k<(pG s).length->ArOk (vOf s) (sG s k).1 (aZ (pG s) k).1 (aZ (pG s) k).2/\ArOk (vOf s) (sG s k).1 (aZ (pG s) k).2 (aZ (pG s) k).1/\(aZ (pG s) k).2≠(aZ (pG s) k).1
noncomputable def aEK:Con:=Ht (a1 aSh) (λs=>[Fit s,ak s=true,GOk s,SOk s]) (λs=> .tup [.ptr 60 0,.own 20000005 .P (spG s).length]) (λs=>[(60,some (.box 114 [.lst .V (vOf s),.owF 15000005 (vOf s).length,.own 18000005 .I (vOf s).length])),(15000005,some (.fam 112 3 .I (soG s) [])),(18000005,some (.row 3 .I (nG s))),(20000005,some (.row 67 .P (spG s)))])
def aC9:aEK.Okz 114:=OQ (mT Qi.o) (st:=true) (raw:=rB) (λs=>[(10003,.mk Unit (λ_ _=>some ()) [60,20000005] bW (λ_=>[(4,.ptr 60 0),(6,.own 20000005 .P 0)]) (λ_=>[(60,.box 114 [.lst .V (vOf s),.owF 15000005 (vOf s).length,.own 18000005 .I (vOf s).length]),(20000005,.row 67 .P [])]) (λ_=>0) bW),
  lp 4 16 (pG s).length bW [20000005] (λk=>[(6,.own 20000005 .P (sG s k).2.length)]) (λk=>[(15000005,.fam 112 3 .I (sG s k).1 []),(20000005,.row 67 .P (sG s k).2),(0,.box 0 [.undef])])]
  ) λs hp=>aY (aA (pG s) λA=>aA (vOf s) λB=>aA (0:Nat) λG=>aA ([] :List (Prod Nat Nat)) λO=>aA ([] :List Int) λP=>Fit s/\ak s=true/\GOk s/\(G=0/\vOf s=vOf s/\B.length=B.length/\B.length=B.length/\O=O)/\
 (∀y:Unit,(0=(0:Int)/\G=O.length/\oG s=oG s/\O=O/\G<=A.length)/\
  (∀x:Nat,aA (x+1) λC=>aA (sG s x) λD=>aA (sG s C) λE=>aA (x:Int) λF=>aA (aZ A x) λH=>aA (H.1,H.2) λI=>aA (H.1:Int) λJ=>aA (H.2:Int) λK=>aA ((x+1:Nat):Int) λM=>aA (D.2++[I]).length λQ=>aA (j0 D.1 H.1 P) λR=>aA (j0 D.1 H.2 P) λS=>aA (H.1,SV.ownf 15000005 LT.I H.1 R.length) λT=>x<=A.length->(F<A.length->ix F A.length/\x<A.length/\ix 0 2/\ix 1 2/\B.length=D.1.length/\B.length=(nG s).length/\B.length<=1000000/\D.fst.length<=B.length/\(∀u:V,u∈vOf s->bd 1000000000 u)/\ArOk B D.fst H.1 H.2/\(gv B D.fst H.1 H.2=true->ix 1 2/\ix 0 2/\B.length=D.1.length/\B.length=(nG s).length/\B.length<=1000000/\D.fst.length<=B.length/\(∀u:V,u∈vOf s->bd 1000000000 u)/\ArOk B D.fst H.2 H.1/\(gv B D.fst H.2 H.1=true->ix 0 2/\ix 1 2/\ix J B.length/\H.1<D.1.length/\H.1<D.1.length/\R.length=R.length/\G<R.length/\R.length<=1000000/\ix J B.length/\H.1=H.1/\H.1<D.1.length/\ix K B.length/\H.2<D.1.length/\H.2≠T.fst/\H.2<D.1.length/\S.length=S.length/\G<S.length/\H.2≠T.fst/\S.length<=1000000/\ix K B.length/\H.2=H.2/\H.2<D.1.length/\aE (F+1)/\H.2<D.1.length/\(re (λy=>(!y==J)) S).length=(re (λy=>(!y==J)) S).length/\H.2≠T.fst/\H.1<(kO D.1 H.2 (re (λy=>(!y==J)) S)).length/\(re (λy=>(!y==K)) R).length=(re (λy=>(!y==K)) R).length/\F+1=M/\D.2.length=E.2.length/\kO (kO D.1 H.2 (re (λy=>(!y==J)) S)) H.1 (re (λy=>(!y==K)) R)=E.1/\D.2=E.2/\x+1<=A.length/\A.length-C<A.length-x)/\
     (gv B D.fst H.2 H.1=false->D.2.length=D.2.length/\D.2.length+[I].length<=1000000/\aE (F+1)/\F+1=M/\Q=E.2.length/\D.1=E.1/\D.2++[I] =E.2/\x+1<=A.length/\A.length-C<A.length-x))/\
    (gv B D.fst H.1 H.2=false->D.2.length=D.2.length/\D.2.length+[I].length<=1000000/\aE (F+1)/\F+1=M/\Q=E.2.length/\D.1=E.1/\D.2++[I] =E.2/\x+1<=A.length/\A.length-C<A.length-x))/\
   (¬F<A.length->D.2.length=(spG s).length/\vOf s=vOf s/\B.length=B.length/\B.length=B.length/\D.1=soG s/\nG s=nG s/\D.2=spG s)))) (by kernel_rfl) (by
  change Fit s/\ak s=true/\GOk s/\SOk s at hp;obtain⟨hf,hv,hg,hs⟩:=hp;have n80:(vOf s).length<=80:=m7 s;have pl:(pG s).length<=6400:=by rw[qx];exact(po hv).1
  have vb:∀u∈vOf s,bd 1000000000 u:=λu hu=>by obtain⟨i,hi,rfl⟩:=fD.1 hu;exact sf hi (by decide)
  have nl:(nG s).length=(vOf s).length:=GW s _;have gl:=xm s;have p1:∀x:Nat,(x:Int)<(pG s).length->(aZ (pG s) x).1<(vOf s).length/\(aZ (pG s) x).2<(vOf s).length:=λx h=>Bq hv (by rw[mJ (by omega)];grind);have hS:∀x:Nat,(x:Int)<(pG s).length->_:=λx h=>hs x (by omega);have q1:∀x:Nat,(x:Int)<(pG s).length->0<(j0 (sG s x).1 (aZ (pG s) x).1 ([] :List Int)).length:=λx h=>IY (hS x h).1.mem;have q2:∀x:Nat,(x:Int)<(pG s).length->0<(j0 (sG s x).1 (aZ (pG s) x).2 ([] :List Int)).length:=λx h=>IY (hS x h).2.1.mem;have q3:∀x:Nat,(x:Int)<(pG s).length->(j0 (sG s x).1 (aZ (pG s) x).1 ([] :List Int)).length<=1000000:=λx h=>(hS x h).1.len;have q4:∀x:Nat,(x:Int)<(pG s).length->(j0 (sG s x).1 (aZ (pG s) x).2 ([] :List Int)).length<=1000000:=λx h=>(hS x h).2.1.len;have q5:∀x:Nat,x<=(pG s).length->(sG s x).2.length<=6400:=λx h=>by have:(sG s x).2.length<=x:=BH _ _ _ x;omega
  have a1:∀x:Nat,(vOf s).length=(sG s x).1.length:=λx=>(gl x).symm;have a2:∀x:Nat,(sG s x).1.length<=(vOf s).length:=λx=>y4 (gl x);have a3:∀x:Nat,(x:Int)<(pG s).length->ArOk (vOf s) (sG s x).1 (aZ (pG s) x).1 (aZ (pG s) x).2:=λx h=>(hS x h).1;have a4:∀x:Nat,(x:Int)<(pG s).length->ArOk (vOf s) (sG s x).1 (aZ (pG s) x).2 (aZ (pG s) x).1:=λx h=>(hS x h).2.1;have a5:∀x:Nat,(x:Int)<(pG s).length->ix ((aZ (pG s) x).1:Int) (vOf s).length:=λx h=>dQ (p1 x h).1;have a6:∀x:Nat,(x:Int)<(pG s).length->ix ((aZ (pG s) x).2:Int) (vOf s).length:=λx h=>dQ (p1 x h).2;have a7:∀x:Nat,(x:Int)<(pG s).length->(aZ (pG s) x).1<(sG s x).1.length:=λx h=>by grind
  have a8:∀x:Nat,(x:Int)<(pG s).length->(aZ (pG s) x).2<(sG s x).1.length:=λx h=>by grind
  have a9:∀x:Nat,(x:Int)<(pG s).length->(aZ (pG s) x).2≠(aZ (pG s) x).1:=λx h=>(hS x h).2.2;have b1:∀x j:Nat,∀l:List Int,(x:Int)<(pG s).length->(aZ (pG s) x).1<((sG s x).1.set j l).length:=λx j l h=>by grind
  have b2:∀x:Nat,gv (vOf s) (sG s x).1 (aZ (pG s) x).1 (aZ (pG s) x).2=true->gv (vOf s) (sG s x).1 (aZ (pG s) x).2 (aZ (pG s) x).1=true->kO (kO (sG s x).1 (aZ (pG s) x).2 (re (λy=>(!y==((aZ (pG s) x).1:Int))) (j0 (sG s x).1 (aZ (pG s) x).2 ([] :List Int)))) (aZ (pG s) x).1 (re (λy=>(!y==((aZ (pG s) x).2:Int))) (j0 (sG s x).1 (aZ (pG s) x).1 ([] :List Int)))=(sG s (x+1)).1:=λx h h2=>by rw[GS h h2];rfl
  have b3:∀x:Nat,gv (vOf s) (sG s x).1 (aZ (pG s) x).1 (aZ (pG s) x).2=true->gv (vOf s) (sG s x).1 (aZ (pG s) x).2 (aZ (pG s) x).1=true->(sG s x).2=(sG s (x+1)).2:=λx h h2=>by rw[GS h h2]
  have b4:∀x:Nat,gv (vOf s) (sG s x).1 (aZ (pG s) x).1 (aZ (pG s) x).2=false->(sG s x).1=(sG s (x+1)).1:=λx h=>by rw[x9 (.inl h)]
  have b5:∀x:Nat,gv (vOf s) (sG s x).1 (aZ (pG s) x).2 (aZ (pG s) x).1=false->(sG s x).1=(sG s (x+1)).1:=λx h=>by rw[x9 (.inr h)]
  have b6:∀x:Nat,gv (vOf s) (sG s x).1 (aZ (pG s) x).1 (aZ (pG s) x).2=false->(sG s x).2++[((aZ (pG s) x).1,(aZ (pG s) x).2)] =(sG s (x+1)).2:=λx h=>by rw[x9 (.inl h)]
  have b7:∀x:Nat,gv (vOf s) (sG s x).1 (aZ (pG s) x).2 (aZ (pG s) x).1=false->(sG s x).2++[((aZ (pG s) x).1,(aZ (pG s) x).2)] =(sG s (x+1)).2:=λx h=>by rw[x9 (.inr h)]
  have b8:∀x:Nat,∀z:Nat×Nat,x<=(pG s).length->(sG s x).2.length+[z].length<=1000000:=λx z h=>by grind
  have b9:∀x:Nat,¬(x:Int)<(pG s).length->x<=(pG s).length->sG s x=sG s (pG s).length:=λx h h2=>by grind
  have c9:∀x:Nat,x<=(pG s).length->aE ((x:Int)+1):=λx h=>bD (by omega);clear hS hs gl
  with_reducible ((repeat' first|apply bl|intro);all_goals repeat cases‹_/\_›)
  all_goals first|(with_reducible first|assumption|rfl|exact a1 _|exact a2 _|exact vb _ ‹_› |exact a3 _ ‹_› |exact a4 _ ‹_› |exact a5 _ ‹_› |exact a6 _ ‹_› |exact a7 _ ‹_› |exact a8 _ ‹_› |exact a9 _ ‹_› |exact q1 _ ‹_› |exact q2 _ ‹_› |exact q3 _ ‹_› |exact q4 _ ‹_› |exact b1 _ _ _ ‹_› |exact b2 _ ‹_› ‹_› |exact b3 _ ‹_› ‹_› |exact congrArg dA (b3 _ ‹_› ‹_›)|exact b4 _ ‹_› |exact b5 _ ‹_› |exact b6 _ ‹_› |exact b7 _ ‹_› |exact congrArg dA (b6 _ ‹_›)|exact congrArg dA (b7 _ ‹_›)|exact b8 _ _ ‹_›)|omega|(unfold ix;omega)|(unfold aE;omega)|exact rfl|exact congrArg Prod.fst (b9 _ ‹_› ‹_›)|exact congrArg Prod.snd (b9 _ ‹_› ‹_›)|exact congrArg (λy=>y.2.length) (b9 _ ‹_› ‹_›))
noncomputable def RY:=Qi.adk aC9
def eV(s:Shape):Int:=if ak s=true then 0 else 11
def sdG(s:Shape):List aE0:=if ak s=true then(spG s).map (cX (vOf s))else []
noncomputable def c51:Con:=con (a1 aSh) (λs=>[Fit s,(ak s=true->GOk s/\SOk s)]) (λs=> .tup [.lst .S (sdG s),.iqz (eV s)])
def k51:c51.Okz 51:=ag RY (λs=>[lp 6 19 (spG s).length bW [40] (λk=>[(6,.own 40 .S k)]) (λk=>[(40,.row 46 .S (((spG s).map (cX (vOf s))).take k))])]
  ) (λ_=>⟨_,rfl⟩) λs hp=>aY (aA (spG s) λA=>aA (vOf s) λB=>aA (dS (cX B) A) λF=>aA (!ak s) λK=>aA ([] :List aE0) λL=>Fit s/\(K=true->sdG s=L/\11=eV s)/\
 (K=false->Fit s/\ak s=true/\GOk s/\SOk s/\(0=(0:Int)/\(0:Nat)=0/\aP 0 F=L/\(0:Nat)<=A.length)/\
  (∀x:Nat,aA (x:Int) λC=>aA (aZ A x) λD=>aA (aP x F) λG=>aA (⟨(aEY B D.1),(aEY B D.2)⟩:aE0) λJ=>x<=A.length->(C<A.length->ix C A.length/\x<A.length/\ix 0 2/\ix (D.1:Int) B.length/\ix 1 2/\ix (D.2:Int) B.length/\x=G.length/\G.length+[J].length<=1000000/\aE (C+1)/\C+1=((x+1:Nat):Int)/\(aP x F++[J]).length=x+1/\aP x F++[J] =aP (x+1) F/\x+1<=A.length/\A.length-(x+1)<A.length-x)/\
   (¬C<A.length->x=G.length/\aP x F=sdG s/\0=eV s)))) (by kernel_rfl) (by
  change Fit s/\((ak s=true->GOk s/\SOk s))at hp;obtain⟨hf,hv⟩:=hp;have n80:(vOf s).length<=80:=m7 s;have sd0:(!ak s)=true->sdG s=[] :=λh=>by unfold sdG;grind
  have ev0:(!ak s)=true->11=eV s:=λh=>by unfold eV;grind
  have ev1:(!ak s)=false->0=eV s:=λh=>by unfold eV;grind
  have hv1:(!ak s)=false->ak s=true:=λh=>nb h;have hv2:(!ak s)=false->GOk s:=λh=>(hv (nb h)).1;have hv3:(!ak s)=false->SOk s:=λh=>(hv (nb h)).2;have sd1:(!ak s)=false->(spG s).map (cX (vOf s))=sdG s:=λh=>by unfold sdG;grind
  have sl:(!ak s)=false->(spG s).length<=6400:=λh=>by have h1:(spG s).length<=(pG s).length:=BH _ _ _ _;have h2:=(po (nb h)).1;rw[qx]at h1;omega
  have p1:(!ak s)=false->∀x:Nat,(x:Int)<(spG s).length->(aZ (spG s) x).1<(vOf s).length/\(aZ (spG s) x).2<(vOf s).length:=λhh x h=>Bq (nb hh) (FS _ _ _ _ (bI _) _ (by rw[mJ (show x<(spG s).length by omega)];exact lI _));have p2:(!ak s)=false->∀x:Nat,(x:Int)<(spG s).length->ix ((aZ (spG s) x).1:Int) (vOf s).length:=λhh x h=>dQ (p1 hh x h).1;have p3:(!ak s)=false->∀x:Nat,(x:Int)<(spG s).length->ix ((aZ (spG s) x).2:Int) (vOf s).length:=λhh x h=>dQ (p1 hh x h).2;have e1:∀x:Nat,x<=(spG s).length->(aP x ((spG s).map (cX (vOf s)))).length=x:=λx h=>by grind
  have e2:∀x:Nat,(x:Int)<(spG s).length->aP x ((spG s).map (cX (vOf s)))++[⟨aEY (vOf s) (aZ (spG s) x).1,aEY (vOf s) (aZ (spG s) x).2⟩] =aP (x+1) ((spG s).map (cX (vOf s))):=λx h=>by rw[iR (by grind),jG,mJ (by omega)];rfl
  have e3:(!ak s)=false->∀x:Nat,¬(x:Int)<(spG s).length->aP x ((spG s).map (cX (vOf s)))=sdG s:=λhh x h=>by rw[fT (by grind)];exact sd1 hh
  have e4:(!ak s)=false->∀x:Nat,x<=(spG s).length->aE ((x:Int)+1):=λhh x h=>bD (by grind);have e5:(!ak s)=false->∀x:Nat,∀z:aE0,x<=(spG s).length->(aP x ((spG s).map (cX (vOf s)))).length+[z].length<=1000000:=λhh x z h=>by grind
  have e6:∀x:Nat,∀z:aE0,x<=(spG s).length->(aP x ((spG s).map (cX (vOf s)))++[z]).length=x+1:=λx z h=>by grind
  clear hv p1 sd1
  with_reducible ((repeat' first|apply bl|intro);all_goals repeat cases‹_/\_›)
  all_goals first|rfl|with_reducible solve_by_elim|(with_reducible first|assumption|rfl|exact p2 ‹_› _ ‹_› |exact p3 ‹_› _ ‹_› |exact(e1 _ ‹_›).symm|exact e3 ‹_› _ ‹_› |exact e4 ‹_› _ ‹_› |exact e5 ‹_› _ _ ‹_›)|omega|grind)
noncomputable def t51:=RY.adk k51
noncomputable def RO:=t51.adk Rz
def rA(r:List aEZ)(k:Nat):Bool:=decide (turn (aEY r ((k+r.length-1) % r.length)) (aEY r k) (aEY r ((k+1) % r.length))≠0)
def dL(r:List aEZ)(k:Nat):List aEZ:=((bQ k).filter (rA r)).map (aEY r)
def c5(r:List aEZ):List aEZ:=dL r r.length
def tu(r:List aEZ)(k:Nat):dL r (k+1)=if rA r k=true then dL r k++[aEY r k]else dL r k:=by unfold dL;rw[qS,pI,dM];grind
def sT(r:List aEZ):∀k,(dL r k).length<=k
 |0=>bI _
 |k+1=>by
  have:=sT r k;rw[tu];grind
noncomputable def aEJ:Con:=con (a1 (aL .V)) (λr=>[r.length<=1000,(∀u∈r,bd 1000000000 u),0<(c5 r).length]) (λr=> .lst .V (bo (c5 r)))
def aC8:aEJ.Okz 115:=ag RO (λr=>[lp 4 12 r.length bW [40] (λk=>[(3,.own 40 .V (dL r k).length)]) (λk=>[(40,.row 44 .V (dL r k))])]
  ) (λ_=>⟨_,rfl⟩) λr hp=>aY (aA (0:Nat) λC=>aA (r.length:Int) λK=>(0=(0:Int)/\(dL r 0).length=0/\dL r 0=([] :List aEZ)/\C<=r.length)/\
 (∀x:Nat,aA (x+1) λA=>aA (x:Int) λB=>aA (dL r x) λD=>aA (aEY r x) λE=>aA (aEY r (A % r.length)) λG=>aA (aEY D (dO D)) λI=>aA (cY 0 D) λJ=>aA (B+r.length-1) λL=>aA (cD L K) λM=>aA (dL r A).length λN=>aA (aEY r M.toNat) λO=>aA ((x+1:Nat):Int) λP=>x<=r.length->(B<r.length->ix B r.length/\aE (B+r.length)/\aE L/\K≠0/\ix M r.length/\aE (B+1)/\K≠0/\ix ((A % r.length:Nat):Int) r.length/\bd 1000000000 O/\bd 1000000000 E/\bd 1000000000 G/\(¬turn O E G=0->D.length=D.length/\D.length+[E].length<=1000000/\aE (B+1)/\B+1=P/\(dL r x++[E]).length=N/\dL r x++[E] =dL r A/\x+1<=r.length/\r.length-A<r.length-x)/\
   (¬(¬turn O E G=0)->aE (B+1)/\B+1=P/\D.length=N/\dL r x=dL r A/\x+1<=r.length/\r.length-A<r.length-x))/\
  (¬B<r.length->D.length=D.length/\C<D.length/\D.length<=1000/\D.length=D.length/\D.length<=1000/\(0<=fI (λx_1=>decide (I=x_1)) D/\fI (λx_1=>decide (I=x_1)) D<=D.length)/\(fI (λx_1=>decide (I=x_1)) D).toNat+(D.length-(fI (λx_1=>decide (I=x_1)) D).toNat)<=D.length/\C<(aP (D.length-(fI (λx_1=>decide (I=x_1)) D).toNat) (cY (fI (λx_1=>decide (I=x_1)) D).toNat D)).length/\(aP (D.length-(fI (λx_1=>decide (I=x_1)) D).toNat) (cY (fI (λx_1=>decide (I=x_1)) D).toNat D)).length<=1000/\(0<=fI (λx_1=>decide (I=x_1)) D/\fI (λx_1=>decide (I=x_1)) D<=D.length)/\(aP (D.length-(fI (λx_1=>decide (I=x_1)) D).toNat) (cY (fI (λx_1=>decide (I=x_1)) D).toNat D)).length=(aP (D.length-(fI (λx_1=>decide (I=x_1)) D).toNat) (cY (fI (λx_1=>decide (I=x_1)) D).toNat D)).length/\0+(fI (λx_1=>decide (I=x_1)) D).toNat<=D.length/\(aP (D.length-(fI (λx_1=>decide (I=x_1)) D).toNat) (cY (fI (λx_1=>decide (I=x_1)) D).toNat D)).length+(aP (fI (λx_1=>decide (I=x_1)) D).toNat J).length<=1000000/\(aP (D.length-(fI (λx_1=>decide (I=x_1)) D).toNat) (cY (fI (λx_1=>decide (I=x_1)) D).toNat D)++aP (fI (λx_1=>decide (I=x_1)) D).toNat J).length=(aP (D.length-(fI (λx_1=>decide (I=x_1)) D).toNat) (cY (fI (λx_1=>decide (I=x_1)) D).toNat D)++aP (fI (λx_1=>decide (I=x_1)) D).toNat J).length/\aP (D.length-(fI (λx_1=>decide (I=x_1)) D).toNat) (cY (fI (λx_1=>decide (I=x_1)) D).toNat D)++aP (fI (λx_1=>decide (I=x_1)) D).toNat J=bo (c5 r)))) (by kernel_rfl) (by
  change r.length<=1000/\((∀u∈r,bd 1000000000 u))/\0<(c5 r).length at hp;obtain⟨hl,hb,hc⟩:=hp;have bN:∀i:Nat,i<r.length->bd 1000000000 (aEY r i):=λi h=>hb _ (dh h);have tm:∀x:Nat,(x:Int)<r.length->cD ((x:Int)+r.length-1) (r.length:Int)=(((x+r.length-1) % r.length:Nat):Int):=λx h=>by grind
  have lt:∀x:Nat,(x:Int)<r.length->(x+r.length-1) % r.length<r.length:=λx h=>bq _ (by omega);have lt2:∀x:Nat,(x:Int)<r.length->(x+1) % r.length<r.length:=λx h=>bq _ (by omega);have f1:∀x:Nat,(x:Int)<r.length->aE ((x:Int)+r.length):=λx h=>bD (by omega);have f2:∀x:Nat,(x:Int)<r.length->aE ((x:Int)+r.length-1):=λx h=>bD (by omega);have f3:∀x:Nat,(x:Int)<r.length->(r.length:Int)≠0:=λx h=>by omega
  have f4:∀x:Nat,(x:Int)<r.length->ix (cD ((x:Int)+r.length-1) (r.length:Int)) r.length:=λx h=>by rw[tm x h];exact dQ (lt x h)
  have f5:∀x:Nat,(x:Int)<r.length->aE ((x:Int)+1):=λx h=>bD (by omega);have f6:∀x:Nat,(x:Int)<r.length->ix (((x+1) % r.length:Nat):Int) r.length:=λx h=>dQ (lt2 x h);have f7:∀x:Nat,(x:Int)<r.length->bd 1000000000 (aEY r (cD ((x:Int)+r.length-1) (r.length:Int)).toNat):=λx h=>by rw[tm x h];exact bN _ (lt x h)
  have f8:∀x:Nat,(x:Int)<r.length->bd 1000000000 (aEY r x):=λx h=>bN _ (by omega);have f9:∀x:Nat,(x:Int)<r.length->bd 1000000000 (aEY r ((x+1) % r.length)):=λx h=>bN _ (lt2 x h);have f10:∀x:Nat,(x:Int)<r.length->¬turn (aEY r (cD ((x:Int)+r.length-1) (r.length:Int)).toNat) (aEY r x) (aEY r ((x+1) % r.length))=0->dL r x++[aEY r x] =dL r (x+1):=λx h h2=>by rw[tm x h,iF]at h2;rw[tu,if_pos (show rA r x=true from decide_eq_true h2)]
  have f11:∀x:Nat,(x:Int)<r.length->¬¬turn (aEY r (cD ((x:Int)+r.length-1) (r.length:Int)).toNat) (aEY r x) (aEY r ((x+1) % r.length))=0->dL r x=dL r (x+1):=λx h h2=>by rw[tm x h,iF]at h2;rw[tu,if_neg (show¬rA r x=true from λh3=>h2 (of_decide_eq_true h3))]
  have f12:∀x:Nat,∀z:aEZ,x<=r.length->(dL r x).length+[z].length<=1000000:=λx z h=>by have:=sT r x;simp only[tU];omega
  have g0:∀x:Nat,¬(x:Int)<r.length->x<=r.length->dL r x=c5 r:=λx h h2=>by rw[show x=r.length by omega];rfl
  have g1:(c5 r).length<=1000:=by have:=sT r r.length;have h:(c5 r).length=(dL r r.length).length:=rfl;omega
  have hlt:=qY hc;have hf:fI (λx=>decide (aEY (c5 r) (dO (c5 r))=x)) (c5 r)=(dO (c5 r):Int):=by
   symm;exact qE (t:= .V) hlt (decide_eq_true rfl) λj hj=>decide_eq_false λe=>by have:=C4 (c5 r) (c5 r).length j hj;rw[show dC (c5 r) (c5 r).length=dO (c5 r)from rfl,e]at this;exact absurd ((EE (aEY (c5 r) j)).symm.trans this) (by decide)
  refine⟨⟨rfl,rfl,rfl,iY _⟩,λx hx=>⟨?_,λh=> ?_⟩⟩
  .repeat' first|with_reducible apply bl|with_reducible intro
   all_goals repeat with_reducible cases‹_/\_›
   all_goals first|with_reducible assumption|with_reducible rfl|with_reducible exact f1 _ ‹_› |with_reducible exact f2 _ ‹_› |with_reducible exact f3 _ ‹_› |with_reducible exact f4 _ ‹_› |with_reducible exact f5 _ ‹_› |with_reducible exact f6 _ ‹_› |with_reducible exact f7 _ ‹_› |with_reducible exact f8 _ ‹_› |with_reducible exact f9 _ ‹_› |with_reducible exact f10 _ ‹_› ‹_› |with_reducible exact f11 _ ‹_› ‹_› |with_reducible exact congrArg dA (f10 _ ‹_› ‹_›)|with_reducible exact congrArg dA (f11 _ ‹_› ‹_›)|with_reducible exact f12 _ _ ‹_› |omega|(unfold ix;omega)|(unfold aE;omega)
  .rw[g0 x h hx,hf,iF];unfold bo;generalize dO (c5 r)=k at hlt|-;have e1:aP ((c5 r).length-k) (cY k (c5 r))=cY k (c5 r):=fT (by grind);have e2:aP k (cY 0 (c5 r))=aP k (c5 r):=rfl;have e3:(cY k (c5 r)).length=(c5 r).length-k:=List.length_drop ..;have e4:(aP k (c5 r)).length<=(c5 r).length:=by rw[l6];omega
   rw[e1,e2];refine⟨rfl,hc,g1,rfl,g1,⟨by omega,by omega⟩,by omega,by omega,by omega,⟨by omega,by omega⟩,rfl,by omega,by omega,rfl,rfl⟩)
noncomputable def RX:=RO.adk aC8
def nxP(s:Shape):List (Nat×Nat):=(bQ (vOf s).length).map λi=>(i,(cv (nG s) i).toNat)
def iu(p:Nat×Nat):List (Nat×Nat):=[p,(p.2,p.1)]
def hsG(s:Shape):List (Nat×Nat):=nxP s++(spG s).flatMap iu
def nxH(L:List (List Int))(h:Nat×Nat):Nat×Nat:=(h.2,iS L h.2 h.1 (-1))
def trc(v:List aEZ)(L:List (List Int)):Nat->List (Nat×Nat)->Nat×Nat->List aEZ->List (Nat×Nat)×List aEZ
 |0,S,_,r=>(S,r)
 |f+1,S,h,r=>if h∈S then(S,r)else trc v L f (S++[h]) (nxH L h) (r++[aEY v h.1])
def trU(v:List aEZ):Nat:=v.length*v.length+1
def pcs(v:List aEZ)(L:List (List Int))(H:List (Nat×Nat)):Nat->List (Nat×Nat)×List aH
 |0=>([],[])
 |k+1=>((trc v L (trU v) (pcs v L H k).1 (aZ H k) []).1,if 0<(trc v L (trU v) (pcs v L H k).1 (aZ H k) []).2.length then(pcs v L H k).2++[bo (c5 (trc v L (trU v) (pcs v L H k).1 (aZ H k) []).2)]else(pcs v L H k).2)
def pcK(s:Shape)(k:Nat):List (Nat×Nat)×List aH:=pcs (vOf s) (soG s) (hsG s) k
def pcG(s:Shape):List aH:=if ak s=true then kq (pcK s (hsG s).length).2 else []
def o9(s:Shape):Prop:=(∀i j:Nat,(j:Int)∈ai (soG s) i->ArOk (vOf s) (soG s) i j/\ArOk (vOf s) (soG s) j i)/\(∀h∈hsG s,ArOk (vOf s) (soG s) h.2 h.1)/\(∀i,i<(vOf s).length->0<=cv (nG s) i)/\
 ∀k,k<(hsG s).length->0<(trc (vOf s) (soG s) (trU (vOf s)) (pcK s k).1 (aZ (hsG s) k) []).2.length->(trc (vOf s) (soG s) (trU (vOf s)) (pcK s k).1 (aZ (hsG s) k) []).2.length<=1000/\0<(c5 (trc (vOf s) (soG s) (trU (vOf s)) (pcK s k).1 (aZ (hsG s) k) []).2).length
abbrev TrY:=List (Nat×Nat)×(Nat×Nat)×List aEZ
structure TrOk(v:List aEZ)(L:List (List Int))(S0:List (Nat×Nat))(h0:Nat×Nat)(y:TrY):Prop where
 le:S0.length<=y.1.length
 run:trc v L (trU v-(y.1.length-S0.length)) y.1 y.2.1 y.2.2=trc v L (trU v) S0 h0 []
 nd:y.1.Nodup
 rng:∀p∈y.1,p.1<v.length/\p.2<v.length
 at_:ArOk v L y.2.1.2 y.2.1.1
 len:y.2.2.length<=y.1.length
 pts:∀u∈y.2.2,bd 1000000000 u
def AW:∀(m:Nat) (l:List Nat),l.Nodup->(∀x∈l,x<m)->l.length<=m
 |0,l,_,h=>by
  cases l with
  |nil=>simp
  |cons x l=>exact absurd (h x cI) (by omega)
 |m+1,l,hn,h=>by
  have h1:=AW m (l.erase m) (hn.erase m) λx hx=>by grind
  grind
def ZU{n:Nat}{S:List (Nat×Nat)}(hn:S.Nodup)(h:∀p∈S,p.1<n/\p.2<n):S.length<=n*n:=by
 have dv:∀p:Nat×Nat,p.2<n->(p.2+p.1*n)/n=p.1/\(p.2+p.1*n) % n=p.2:=λp hp=>by rw[Nat.add_mul_div_right _ _ (by omega),Nat.add_mul_mod_self_right,Nat.div_eq_of_lt hp,Nat.mod_eq_of_lt hp];simp
 have h1:=AW (n*n) (S.map λp=>p.2+p.1*n) (by
  unfold rh;rw[kK];refine List.Pairwise.imp_of_mem (λ{p q} hp hq hne e=>hne ?_) hn;grind) λx hx=>by
  obtain⟨p,hp,rfl⟩:=bZ.1 hx;obtain⟨h2,h3⟩:=h p hp;have:(p.1+1)*n<=n*n:=Nat.mul_le_mul_right n h2;grind
 grind
def OY{v:List aEZ}{L:List (List Int)}{f:Nat}{S:List (Nat×Nat)}{h:Nat×Nat}{r:List aEZ}(hS:h∈S):trc v L f S h r=(S,r):=by
 cases f with
 |zero=>rfl
 |succ f=>exact if_pos hS
def My{v:List aEZ}{L:List (List Int)}{f:Nat}{S:List (Nat×Nat)}{h:Nat×Nat}{r:List aEZ}(hS:h∉S):trc v L (f+1) S h r=trc v L f (S++[h]) (nxH L h) (r++[aEY v h.1]):=if_neg hS
def TrOk.start{v:List aEZ}{L:List (List Int)}{S0:List (Nat×Nat)}{h0:Nat×Nat}(h1:S0.Nodup)(h2:∀p∈S0,p.1<v.length/\p.2<v.length)(h3:ArOk v L h0.2 h0.1):TrOk v L S0 h0 (S0,h0,[]) where
 le:=bI _
 run:=by grind
 nd:=h1
 rng:=h2
 at_:=h3
 len:=iY _
 pts:=λu hu=>(cn hu).elim
def TrOk.lt{v:List aEZ}{L:List (List Int)}{S0:List (Nat×Nat)}{h0:Nat×Nat}{y:TrY}(T:TrOk v L S0 h0 y):y.1.length<trU v:=by have:=ZU T.nd T.rng;unfold trU;omega
def TrOk.step{v:List aEZ}{L:List (List Int)}{S0:List (Nat×Nat)}{h0:Nat×Nat}{y:TrY}(T:TrOk v L S0 h0 y)(hsym:∀i j:Nat,(j:Int)∈ai L i->ArOk v L i j/\ArOk v L j i)(hL:L.length=v.length)(hb:∀u∈v,bd 1000000000 u)(hn:y.2.1∉y.1):
  TrOk v L S0 h0 (kY y.1 y.2.1,nxH L y.2.1,y.2.2++[aEY v y.2.1.1]):=by
 obtain⟨S,h,r⟩:=y;have hlt:=T.lt;have hle:=T.le;have e:kY S h=S++[h] :=if_neg hn;have hA:ArOk v L h.2 h.1:=T.at_;have h1:=(hsym _ _ (hA.around (-1)).1).2;have h2:h.1<v.length:=by have:=(hA.rng _ hA.mem).2;omega
 have h3:h.2<v.length:=by have:=hA.iL;omega
 dsimp only at hlt hle|-;rw[e];refine⟨by grind,?_,?_,?_,h1,?_,?_⟩
 .rw[<-T.run];dsimp only;rw[show trU v-(S.length-S0.length)=(trU v-((S++[h]).length-S0.length))+1 by grind];exact(My hn).symm
 .rw[nV];exact⟨T.nd,by simp,λa ha b hb e=>hn (by grind)⟩
 .intro p hp;rcases bg.1 hp with hp|hp
  .exact T.rng p hp
  grind
 .have:=T.len;grind
 .intro u hu;rcases bg.1 hu with hu|hu
  .exact T.pts u hu
  .rw[bi.1 hu];exact hb _ (dh h2)
def TrOk.stop{v:List aEZ}{L:List (List Int)}{S0:List (Nat×Nat)}{h0:Nat×Nat}{y:TrY}(T:TrOk v L S0 h0 y)(hn:y.2.1∈y.1):trc v L (trU v) S0 h0 [] =(y.1,y.2.2):=by rw[<-T.run];exact OY hn
def uL(s:Shape)(k:Nat):pcK s (k+1)=((trc (vOf s) (soG s) (trU (vOf s)) (pcK s k).1 (aZ (hsG s) k) []).1,if 0<(trc (vOf s) (soG s) (trU (vOf s)) (pcK s k).1 (aZ (hsG s) k) []).2.length then(pcK s k).2++[bo (c5 (trc (vOf s) (soG s) (trU (vOf s)) (pcK s k).1 (aZ (hsG s) k) []).2)]else(pcK s k).2):=rfl
def ZT{s:Shape}{k:Nat}{y:TrY}(T:TrOk (vOf s) (soG s) (pcK s k).1 (aZ (hsG s) k) y)(hm:y.2.1∈y.1)(h:0<y.2.2.length):pcK s (k+1)=(y.1,(pcK s k).2++[bo (c5 y.2.2)]):=by rw[uL,T.stop hm];grind
def aAE{s:Shape}{k:Nat}{y:TrY}(T:TrOk (vOf s) (soG s) (pcK s k).1 (aZ (hsG s) k) y)(hm:y.2.1∈y.1)(h:¬0<y.2.2.length):pcK s (k+1)=(y.1,(pcK s k).2):=by rw[uL,T.stop hm];grind
def NZ(s:Shape):∀k,(pcK s k).2.length<=k
 |0=>bI _
 |k+1=>by
  have:=NZ s k;rw[uL];grind
def NY{s:Shape}(hp:o9 s):∀k,k<=(hsG s).length->∀r∈(pcK s k).2,r.length<=1000
 |0,_,r,hr=>(cn hr).elim
 |k+1,hk,r,hr=>by
  have ih:=NY hp k (by omega);rw[uL]at hr;dsimp only at hr;split at hr
  .rename_i h;rcases bg.1 hr with hr|hr
   .exact ih r hr
   .rw[bi.1 hr,j4];have h1:=(hp.2.2.2 k (by omega) h).1;have h2:=sT (trc (vOf s) (soG s) (trU (vOf s)) (pcK s k).1 (aZ (hsG s) k) []).2 (trc (vOf s) (soG s) (trU (vOf s)) (pcK s k).1 (aZ (hsG s) k) []).2.length;unfold c5;omega
  grind
def Np(s:Shape):(nxP s).length=(vOf s).length:=by unfold nxP;grind
def FP:∀l:List (Nat×Nat),(l.flatMap iu).length=2*l.length
 |[] =>rfl
 |p::l=>by rw[fM,eW,FP l,gk];show 2+_=_;omega
def Zs(s:Shape):(hsG s).length=(vOf s).length+2*(spG s).length:=by unfold hsG;rw[eW,Np,FP]
def pcS(s:Shape)(k:Nat):List (Nat×Nat):=(pcK s k).1
def pcR(s:Shape)(k:Nat):List aH:=(pcK s k).2
noncomputable def c48:Con:=con (a1 aSh) (λs=>[Fit s,(ak s=true->GOk s/\SOk s/\o9 s)]) (λs=> .tup [.lst .R (pcG s),.iqz (eV s)])
def k48:c48.Okz 48:=ag RX (λs=>[lp 6 30 (vOf s).length bW [40] (λk=>[(6,.own 40 .P k)]) (λk=>[(40,.row 67 .P ((nxP s).take k))]) λk=>[jU 8 [(7,.iqz (k:Int)),(8,.iqz ((cv (nG s) k).toNat:Nat))]],
  lp 11 44 (spG s).length bW [40] (λk=>[(6,.own 40 .P ((vOf s).length+2*k))]) (λk=>[(40,.row 67 .P (nxP s++((spG s).take k).flatMap iu))]),
  lp 18 61 (hsG s).length (λk=>[(pcS s k).Nodup,∀p∈(pcS s k),p.1<(vOf s).length/\p.2<(vOf s).length]) [60] (λk=>[(12,.own 60 .R (pcR s k).length)]) (λk=>[(60,.row 23 .R (pcR s k)),(46,.mp (pcS s k))]) λk=>
  [(22,.mk TrY (λF L=>match F.at 16,L.at 46 with
  | .ptr b 0,some (.mp ks)=>(match L.at b with
  |some (.box _ [.int _ i,.int _ j])=>some (ks,(i.toNat,j.toNat),match F.at 15 with| .own t _ _=>(match L.at t with|some (.row _ .V r)=>r|_=>[])|_=>[])
  |_=>none)
  |_,_=>none) [68,70] (λy=>[TrOk (vOf s) (soG s) (pcS s k) (aZ (hsG s) k) y]) (λy=>[(15,.own 70 .V y.2.2.length),(16,.ptr 68 0),(12,.own 60 .R (pcR s k).length)])
  (λy=>[(68,.box 67 [.iqz (y.2.1.1:Nat),.iqz (y.2.1.2:Nat)]),(70,.row 44 .V y.2.2),(46,.mp y.1)]) (λy=>trU (vOf s)-y.1.length) λ_=>[])]]
  ) (λ_=>⟨_,rfl⟩) λs hp=>aY (aA (nG s) λA=>aA (vOf s) λB=>aA (spG s) λC=>aA (soG s) λD=>aA (hsG s) λE=>aA (nxP s) λF=>aA (0:Nat) λI=>aA (0:Int) λJ=>aA (!ak s) λY=>aA ([] :List aEZ) λb=>aA ([] :List (List aEZ)) λi=>aA ([] :List (Prod Nat Nat)) λj=>Fit s/\(Y=true->pcG s=i/\11=eV s)/\
 (Y=false->Fit s/\ak s=true/\GOk s/\SOk s/\(0=J/\I=0/\aP 0 F=j/\I<=B.length)/\
  (∀x:Nat,aA (x:Int) λH=>aA (x,(cv A x).toNat) λT=>aA (aP x F) λW=>x<=B.length->(H<B.length->(ix H B.length/\x<A.length/\H=x/\cv A x=(cv A x).toNat)/\
    (∀y:Unit,x=W.length/\W.length+[T].length<=1000000/\aE (H+1)/\H+1=((x+1:Nat):Int)/\(aP x F++[T]).length=x+1/\aP x F++[T] =aP (x+1) F/\x+1<=B.length/\B.length-(x+1)<B.length-x))/\
   (¬H<B.length->(0=J/\x=B.length+2*0/\aP x F=nxP s++kN iu (aP 0 C)/\I<=C.length)/\
    (∀x_1:Nat,aA (x_1+1) λK=>aA (x_1:Int) λO=>aA (aZ C x_1) λQ=>aA (Q.1,Q.2) λR=>aA (Q.2,Q.1) λS=>aA (aP x_1 C) λa=>aA (B.length+2*x_1:Nat) λk=>aA (nxP s++kN iu a) λl=>x_1<=C.length->(O<C.length->ix O C.length/\x_1<C.length/\ix 1 2/\ix 0 2/\B.length+2*x_1=l.length/\l.length+[R,S].length<=1000000/\aE (O+1)/\O+1=((x_1+1:Nat):Int)/\(nxP s++kN iu a++[R,S]).length=B.length+2*K/\nxP s++kN iu a++[R,S] =nxP s++kN iu (aP K C)/\x_1+1<=C.length/\C.length-K<C.length-x_1)/\
     (¬O<C.length->(0=J/\(pcR s 0).length=0/\pcR s 0=i/\j=pcS s 0/\I<=E.length/\rh (pcS s 0)/\(∀p:Prod Nat Nat,p∈pcS s 0->p.1<B.length/\p.2<B.length))/\
      (∀x_2:Nat,aA (x_2+1) λG=>aA (pcR s x_2) λM=>aA (x_2:Int) λN=>aA (pcS s x_2) λP=>aA (aZ E x_2) λU=>aA (x_2+1:Nat) λX=>aA (pcR s G).length λZ=>aA (pcR s x_2,true) λd=>aA (aZ l x_2) λm=>x_2<=E.length/\rh P/\(∀p:Prod Nat Nat,p∈pcS s x_2->p.1<B.length/\p.2<B.length)->(N<(k:Int)->ix N (B.length+2*x_1)/\x_2<l.length/\(b.length=0/\M.length=M.length/\(m.1:Int)=m.1/\(m.2:Int)=m.2/\b=b/\pcS s x_2=pcS s x_2/\TrOk B D P U (pcS s x_2,((m.1,m.2),b)))/\
        (∀x_3:TrY,aA (c5 x_3.2.2) λV=>aA (x_3.2.1.1:Int) λc=>aA (aEY B x_3.2.1.1) λe=>aA (x_3.2.2++[e]) λf=>aA (x_3.2.1.1,x_3.2.1.2) λg=>aA (x_3.2.2.length:Int) λh=>TrOk B D P U x_3->rh x_3.1/\(g∈x_3.1->(0<h->x_3.2.2.length=x_3.2.2.length/\x_3.2.2.length<=1000/\(∀u:aEZ,u∈x_3.2.2->bd 1000000000 u)/\I<V.length/\M.length=M.length/\M.length+[bo V].length<=1000000/\aE (N+1)/\N+1=(X:Int)/\(pcR s x_2++[bo V]).length=Z/\pcR s x_2++[bo V] =pcR s G/\x_3.1=pcS s G/\x_2+1<=E.length/\rh (pcS s G)/\(∀p:Prod Nat Nat,p∈pcS s G->p.1<B.length/\p.2<B.length)/\E.length-G<E.length-x_2)/\
          (¬0<h->aE (N+1)/\N+1=(X:Int)/\M.length=Z/\pcR s x_2=pcR s G/\x_3.1=pcS s G/\x_2+1<=E.length/\rh (pcS s G)/\(∀p:Prod Nat Nat,p∈pcS s G->p.1<B.length/\p.2<B.length)/\E.length-G<E.length-x_2))/\
         (¬g∈x_3.1->rh x_3.1/\ix 0 2/\ix c B.length/\x_3.2.2.length=x_3.2.2.length/\x_3.2.2.length+[e].length<=1000000/\ix 1 2/\ix 1 2/\ix 0 2/\B.length=D.length/\B.length=A.length/\B.length<=1000000/\D.length<=1000000/\x_3.2.1.2<D.length/\c∈ai D x_3.2.1.2/\(ai D x_3.2.1.2).length<=1000000/\(∀x_4:Int,x_4∈ai D x_3.2.1.2->0<=x_4)/\((-1:Int)=1\/(-1:Int)= -1)/\f.length=f.length/\M.length=M.length/\(x_3.2.1.2:Int)=x_3.2.1.2/\(iS D x_3.2.1.2 x_3.2.1.1 (-1):Int)=iS D x_3.2.1.2 x_3.2.1.1 (-1)/\x_3.2.2++[e] =x_3.2.2++[e]/\kY x_3.1 g=kY x_3.1 g/\TrOk B D P U (kY x_3.1 g,((x_3.2.1.2,iS D x_3.2.1.2 x_3.2.1.1 (-1)),x_3.2.2++[e]))/\trU B-(kY x_3.1 g).length<trU B-x_3.1.length)))/\
       (¬N<(k:Int)->M.length=M.length/\M.length<=1000000/\(∀r:aH,r∈pcR s x_2->r.length<=1000)/\M.length=(r68 d).length/\r68 d=pcG s/\0=eV s)))))))) (by kernel_rfl) (by
  change Fit s/\((ak s=true->GOk s/\SOk s/\o9 s))at hp;obtain⟨hf,hv⟩:=hp;have n80:(vOf s).length<=80:=m7 s;have hT:(!ak s)=false->ak s=true:=λh=>nb h;have hg:(!ak s)=false->GOk s:=λh=>(hv (nb h)).1;have hs:(!ak s)=false->SOk s:=λh=>(hv (nb h)).2.1;have hP:(!ak s)=false->o9 s:=λh=>(hv (nb h)).2.2;have sd0:(!ak s)=true->pcG s=[] :=λh=>by unfold pcG;grind
  have ev0:(!ak s)=true->11=eV s:=λh=>by unfold eV;grind
  have ev1:(!ak s)=false->0=eV s:=λh=>by unfold eV;grind
  have sl:(!ak s)=false->(spG s).length<=6400:=λh=>by have h1:(spG s).length<=(pG s).length:=BH _ _ _ _;have h2:=(po (nb h)).1;rw[qx]at h1;omega
  have hl:=Zs s;have nl:(nG s).length=(vOf s).length:=GW s _;have gl:(soG s).length=(vOf s).length:=xm s _;have xl:=Np s;have vb:∀u∈vOf s,bd 1000000000 u:=λu hu=>by obtain⟨i,hi,rfl⟩:=fD.1 hu;exact sf hi (by decide)
  have a1:∀x:Nat,(x:Int)<(vOf s).length->x<(nG s).length:=λx h=>by omega
  have a2:(!ak s)=false->∀x:Nat,(x:Int)<(vOf s).length->cv (nG s) x=(cv (nG s) x).toNat:=λh x hx=>(IX ((hP h).2.2.1 x (by omega))).symm;have a3:∀x:Nat,x<=(vOf s).length->(aP x (nxP s)).length=x:=λx h=>by grind
  have a4:∀x:Nat,(x:Int)<(vOf s).length->aP x (nxP s)++[(x,(cv (nG s) x).toNat)] =aP (x+1) (nxP s):=λx h=>by rw[iR (show x<(nxP s).length by omega)];unfold nxP;grind
  have a5:∀x:Nat,∀z:Nat×Nat,(x:Int)<(vOf s).length->(aP x (nxP s)).length+[z].length<=1000000:=λx z h=>by grind
  have a6:∀x:Nat,∀z:Nat×Nat,(x:Int)<(vOf s).length->(aP x (nxP s)++[z]).length=x+1:=λx z h=>by grind
  have a7:∀x:Nat,(x:Int)<(vOf s).length->aE ((x:Int)+1):=λx h=>bD (by omega);have b0:∀x:Nat,¬(x:Int)<(vOf s).length->x<=(vOf s).length->x=(vOf s).length+2*0:=λx h h2=>by omega
  have b1:∀x:Nat,¬(x:Int)<(vOf s).length->aP x (nxP s)=nxP s++kN iu (aP 0 (spG s)):=λx h=>by rw[fT (by omega)];simp
  have b2:∀x:Nat,x<=(spG s).length->(nxP s++kN iu (aP x (spG s))).length=(vOf s).length+2*x:=λx h=>by rw[eW,xl,FP,l6];omega
  have b3:(!ak s)=false->∀x:Nat,∀z u:Nat×Nat,x<=(spG s).length->(nxP s++kN iu (aP x (spG s))).length+[z,u].length<=1000000:=λh x z u hx=>by grind
  have b4:(!ak s)=false->∀x:Nat,(x:Int)<(spG s).length->aE ((x:Int)+1):=λh x hx=>bD (by grind);have b5:∀x:Nat,∀z u:Nat×Nat,x<=(spG s).length->(nxP s++kN iu (aP x (spG s))++[z,u]).length=(vOf s).length+2*(x+1):=λx z u hx=>by rw[eW,b2 x hx];grind
  have b6:∀x:Nat,(x:Int)<(spG s).length->nxP s++kN iu (aP x (spG s))++[((aZ (spG s) x).1,(aZ (spG s) x).2),((aZ (spG s) x).2,(aZ (spG s) x).1)] =nxP s++kN iu (aP (x+1) (spG s)):=λx h=>by rw[iR (show x<(spG s).length by omega),pH,<-List.append_assoc,mJ (by omega)];rfl
  have hH:∀x:Nat,¬(x:Int)<(spG s).length->nxP s++kN iu (aP x (spG s))=hsG s:=λx h=>by rw[fT (by omega)];rfl
  have c1:∀x y:Nat,¬(x:Int)<(spG s).length->x<=(spG s).length->(y:Int)<(((vOf s).length+2*x:Nat):Int)->y<(hsG s).length:=λx y h h2 h3=>by omega
  have c2:∀x y:Nat,x<=(spG s).length->(y:Int)<(((vOf s).length+2*x:Nat):Int)->y<(nxP s++kN iu (aP x (spG s))).length:=λx y h2 h3=>by grind
  have c3:(!ak s)=false->∀x y:Nat,¬(x:Int)<(spG s).length->x<=(spG s).length->(y:Int)<(((vOf s).length+2*x:Nat):Int)->rh (pcS s y)->(∀p:Nat×Nat,p∈(pcS s y)->p.1<(vOf s).length/\p.2<(vOf s).length)->TrOk (vOf s) (soG s) (pcS s y) (aZ (hsG s) y) ((pcS s y),(((aZ (nxP s++kN iu (aP x (spG s))) y).1,(aZ (nxP s++kN iu (aP x (spG s))) y).2),([] :List aEZ))):=λh x y h1 h2 h3 h4 h5=>by rw[hH x h1];refine TrOk.start h4 h5 ((hP h).2.1 _ ?_);have:=c1 x y h1 h2 h3;rw[mJ this];grind
  have d1:(!ak s)=false->∀x y:Nat,¬(x:Int)<(spG s).length->x<=(spG s).length->(y:Int)<(((vOf s).length+2*x:Nat):Int)->∀z:TrY,TrOk (vOf s) (soG s) (pcS s y) (aZ (hsG s) y) z->z.2.1∈z.1->0<(z.2.2.length:Int)->z.2.2.length<=1000/\0<(c5 z.2.2).length:=λh x y h1 h2 h3 z T hm hz=>by have e:=T.stop hm;unfold pcS at e;have:=(hP h).2.2.2 y (c1 x y h1 h2 h3);grind
  have d2:(!ak s)=false->∀y:Nat,y<=(hsG s).length->(pcR s y).length<=20000:=λh y hy=>by have h1:(pcR s y).length<=y:=NZ s y;grind
  have d3:(!ak s)=false->∀y:Nat,y<=(hsG s).length->∀q:aH,(pcR s y).length+[q].length<=1000000:=λh y hy q=>by have:=d2 h y hy;simp only[tU];omega
  have d4:(!ak s)=false->∀y:Nat,y<=(hsG s).length->aE ((y:Int)+1):=λh y hy=>bD (by have:=sl h;omega);have t1:∀(y:Nat) (z:TrY),TrOk (vOf s) (soG s) (pcS s y) (aZ (hsG s) y) z->z.2.1∈z.1->0<(z.2.2.length:Int)->(pcR s y)++[bo (c5 z.2.2)] =pcR s (y+1):=λy z T hm hz=>(congrArg Prod.snd (ZT T hm (by omega))).symm;have t2:∀(y:Nat) (z:TrY),TrOk (vOf s) (soG s) (pcS s y) (aZ (hsG s) y) z->z.2.1∈z.1->¬0<(z.2.2.length:Int)->pcR s y=pcR s (y+1):=λy z T hm hz=>(congrArg Prod.snd (aAE T hm (by omega))).symm;have t3:∀(y:Nat) (z:TrY),TrOk (vOf s) (soG s) (pcS s y) (aZ (hsG s) y) z->z.2.1∈z.1->z.1=(pcS s (y+1)):=λy z T hm=>by unfold pcS at*;rw[uL,T.stop hm]
  have t4:∀(y:Nat) (z:TrY),TrOk (vOf s) (soG s) (pcS s y) (aZ (hsG s) y) z->z.2.1∈z.1->(pcS s (y+1)).Nodup:=λy z T hm=>by rw[<-t3 y z T hm];exact T.nd
  have t5:∀(y:Nat) (z:TrY),TrOk (vOf s) (soG s) (pcS s y) (aZ (hsG s) y) z->z.2.1∈z.1->∀p:Nat×Nat,p∈(pcS s (y+1))->p.1<(vOf s).length/\p.2<(vOf s).length:=λy z T hm=>by rw[<-t3 y z T hm];exact T.rng
  have r0:∀(y:Nat) (z:TrY),TrOk (vOf s) (soG s) (pcS s y) (aZ (hsG s) y) z->ArOk (vOf s) (soG s) z.2.1.2 z.2.1.1:=λy z T=>T.at_;have r1:∀(y:Nat) (z:TrY),TrOk (vOf s) (soG s) (pcS s y) (aZ (hsG s) y) z->z.2.1.1<(vOf s).length:=λy z T=>by have:=(T.at_.rng _ T.at_.mem).2;omega
  have r2:∀(y:Nat) (z:TrY),TrOk (vOf s) (soG s) (pcS s y) (aZ (hsG s) y) z->ix (z.2.1.1:Int) (vOf s).length:=λy z T=>dQ (r1 y z T);have r3:∀(y:Nat) (z:TrY),TrOk (vOf s) (soG s) (pcS s y) (aZ (hsG s) y) z->∀q:aEZ,z.2.2.length+[q].length<=1000000:=λy z T q=>by have h1:=T.lt;have h2:=T.len;unfold trU at h1;have:(vOf s).length*(vOf s).length<=80*80:=tX n80 n80;simp only[tU];omega
  have r4:∀(y:Nat) (z:TrY),TrOk (vOf s) (soG s) (pcS s y) (aZ (hsG s) y) z->∀x∈ai (soG s) z.2.1.2,0<=x:=λy z T x hx=>(T.at_.rng x hx).1;have r5:(!ak s)=false->∀(y:Nat) (z:TrY),TrOk (vOf s) (soG s) (pcS s y) (aZ (hsG s) y) z->z.2.1∉z.1->TrOk (vOf s) (soG s) (pcS s y) (aZ (hsG s) y) (kY z.1 z.2.1,nxH (soG s) z.2.1,z.2.2++[aEY (vOf s) z.2.1.1]):=λh y z T hm=>T.step (hP h).1 gl vb hm;have r6:∀(y:Nat) (z:TrY),TrOk (vOf s) (soG s) (pcS s y) (aZ (hsG s) y) z->z.2.1∉z.1->trU (vOf s)-(kY z.1 z.2.1).length<trU (vOf s)-z.1.length:=λy z T hm=>by have:=T.lt;rw[show kY z.1 z.2.1=z.1++[z.2.1]from if_neg hm,eW];simp;omega
  have e1:(!ak s)=false->∀x y:Nat,¬(x:Int)<(spG s).length->x<=(spG s).length->¬(y:Int)<(((vOf s).length+2*x:Nat):Int)->y<=(hsG s).length->r68 ((pcR s y),true)=pcG s:=λh x y h1 h2 h3 h4=>by rw[show y=(hsG s).length by omega];unfold pcG;rw[nb h,if_pos rfl];rfl
  have e2:∀l:List aH,l.length=(r68 (l,true)).length:=λl=>(zS l).length_eq.symm;have e3:(!ak s)=false->∀y:Nat,y<=(hsG s).length->∀r∈(pcR s y),r.length<=1000:=λh y hy=>NY (hP h) y hy;have e4:(!ak s)=false->∀y:Nat,y<=(hsG s).length->(pcR s y).length<=1000000:=λh y hy=>by grind
  have e5:(pcS s 0).Nodup:=List.nodup_nil;have hT2:(!ak s)=false->ak s=true:=hT;clear hv hT hP
  repeat' first|with_reducible apply bl|with_reducible intro
  all_goals repeat with_reducible cases‹_/\_›
  all_goals first|with_reducible assumption|with_reducible rfl|with_reducible exact sd0 ‹_› |with_reducible exact ev0 ‹_› |with_reducible exact ev1 ‹_› |with_reducible exact hT2 ‹_› |with_reducible exact hg ‹_› |with_reducible exact hs ‹_› |with_reducible exact a1 _ ‹_› |with_reducible exact a2 ‹_› _ ‹_› |with_reducible exact(a3 _ ‹_›).symm|with_reducible exact a4 _ ‹_› |with_reducible exact a5 _ _ ‹_› |with_reducible exact a6 _ _ ‹_› |with_reducible exact a7 _ ‹_› |with_reducible exact b0 _ ‹_› ‹_› |with_reducible exact b1 _ ‹_› |with_reducible exact(b2 _ ‹_›).symm|with_reducible exact b3 ‹_› _ _ _ ‹_› |with_reducible exact b4 ‹_› _ ‹_› |with_reducible exact b5 _ _ _ ‹_› |with_reducible exact b6 _ ‹_› |with_reducible exact c2 _ _ ‹_› ‹_› |exact c3 ‹_› _ _ ‹_› ‹_› ‹_› ‹_› ‹_› |exact(d1 ‹_› _ _ ‹_› ‹_› ‹_› _ ‹_› ‹_› ‹_›).1|exact(d1 ‹_› _ _ ‹_› ‹_› ‹_› _ ‹_› ‹_› ‹_›).2|with_reducible exact d3 ‹_› _ ‹_› _|with_reducible exact d4 ‹_› _ ‹_› |with_reducible exact(TrOk.nd ‹_›)|with_reducible exact(TrOk.pts ‹_› _ ‹_›)|exact t1 _ _ ‹_› ‹_› ‹_› |exact congrArg dA (t1 _ _ ‹_› ‹_› ‹_›)|exact t2 _ _ ‹_› ‹_› ‹_› |exact congrArg dA (t2 _ _ ‹_› ‹_› ‹_›)|exact t3 _ _ ‹_› ‹_› |exact t4 _ _ ‹_› ‹_› |exact(t5 _ _ ‹_› ‹_› _ ‹_›).1|exact(t5 _ _ ‹_› ‹_› _ ‹_›).2|with_reducible exact r2 _ _ ‹_› |with_reducible exact r3 _ _ ‹_› _|with_reducible exact(r0 _ _ ‹_›).iL|with_reducible exact(r0 _ _ ‹_›).mem|with_reducible exact(r0 _ _ ‹_›).len|with_reducible exact r4 _ _ ‹_› _ ‹_› |exact r5 ‹_› _ _ ‹_› ‹_› |exact r6 _ _ ‹_› ‹_› |with_reducible exact e1 ‹_› _ _ ‹_› ‹_› ‹_› ‹_› |with_reducible exact e2 _|with_reducible exact e3 ‹_› _ ‹_› _ ‹_› |with_reducible exact e4 ‹_› _ ‹_› |omega|(unfold ix;omega)|(unfold aE;omega)|exact .inr rfl|exact e5|exact(cn ‹_›).elim|exact rfl)
noncomputable def t48:=RX.adk k48
abbrev Q4:=Int×Int×Int×Int
def ko(q:Q4)(p:Int×Int):Q4:=
 if p.1<0 then(if q.1*(p.2-p.1)< -p.1*q.2.1 then(-p.1,p.2-p.1,q.2.2)else q)
 else if p.2<0 then(if p.1*q.2.2.2<q.2.2.1*(p.1-p.2)then(q.1,q.2.1,p.1,p.1-p.2)else q)else q
def mW(p:Int×Int):Bool:=decide (p.1<=0)&&decide (p.2<=0)
def rn:∀(l:List (Int×Int)) (q:Q4),j8 l q.1 q.2.1 q.2.2.1 q.2.2.2=(!(l.any mW)&&decide ((l.foldl ko q).1*(l.foldl ko q).2.2.2<(l.foldl ko q).2.2.1*(l.foldl ko q).2.1))
 |[],q=>by simp[j8] <;>congr
 |(a,b)::l,(ln,ld,hn,hd)=>by
  unfold j8;rw[List.any_cons,yX];by_cases h1:a<=0/\b<=0
  .have:mW (a,b)=true:=by unfold mW;simp[h1.1,h1.2]
   grind
  .have h2:mW (a,b)=false:=by unfold mW;rw[Bool.and_eq_false_iff,decide_eq_false_iff_not,decide_eq_false_iff_not];omega
   rw[if_neg h1,h2,Bool.false_or];unfold ko;dsimp only;by_cases h3:a<0
   .rw[if_pos h3,if_pos h3];by_cases h4:ln*(b-a)< -a*ld
    .rw[if_pos h4,if_pos h4];exact rn l (-a,b-a,hn,hd)
    .rw[if_neg h4,if_neg h4];exact rn l (ln,ld,hn,hd)
   .rw[if_neg h3,if_neg h3];by_cases h5:b<0
    .rw[if_pos h5,if_pos h5];by_cases h4:a*hd<hn*(a-b)
     .rw[if_pos h4,if_pos h4];exact rn l (ln,ld,a,a-b)
     .rw[if_neg h4,if_neg h4];exact rn l (ln,ld,hn,hd)
    .rw[if_neg h5,if_neg h5];exact rn l (ln,ld,hn,hd)
def nH(s e:S):Int×Int:=(cross (aE1 e.b e.a) (aE1 s.a e.a),cross (aE1 e.b e.a) (aE1 s.b e.a))
def pi(s:S)(r:aH):List (Int×Int):=(aE7 r).map (nH s)
def stE(s:S)(r:aH)(k:Nat):Q4:=((pi s r).take k).foldl ko (0,1,1,1)
def lnE(s:S)(r:aH)(k:Nat):Int:=(stE s r k).1
def ldE(s:S)(r:aH)(k:Nat):Int:=(stE s r k).2.1
def hnE(s:S)(r:aH)(k:Nat):Int:=(stE s r k).2.2.1
def hdE(s:S)(r:aH)(k:Nat):Int:=(stE s r k).2.2.2
def ibd(m x:Int):Prop:= -m<=x/\x<=m
def kJ(s:S)(r:aH)(k:Nat):Prop:=((pi s r).take k).any mW=false/\ibd 1600000000 (lnE s r k)/\ibd 1600000000 (ldE s r k)/\ibd 1600000000 (hnE s r k)/\ibd 1600000000 (hdE s r k)
def WT(s:S)(r:aH):kJ s r 0:=by unfold kJ lnE ldE hnE hdE stE ibd;simp
def KU{s:S}{r:aH}{k:Nat}(hk:k<(aE7 r).length):(pi s r)[k]? =some (nH s (aE7 r)[k]):=by unfold pi;grind
def LU{s:S}{r:aH}{k:Nat}(hk:k<(aE7 r).length):stE s r (k+1)=ko (stE s r k) (nH s (aE7 r)[k]):=by unfold stE;rw[lJ,KU hk,vz];rfl
def WU{s:S}{r:aH}{k:Nat}(hk:k<(aE7 r).length)(h:kJ s r k)(ho:mW (nH s (aE7 r)[k])=false)
  (ha:ibd 800000000 (nH s (aE7 r)[k]).1) (hb:ibd 800000000 (nH s (aE7 r)[k]).2):kJ s r (k+1):=by
 obtain⟨h1,h2,h3,h4,h5⟩:=h;unfold kJ;refine⟨?_,?_⟩
 .rw[lJ,KU hk,List.any_append,h1];simp[ho]
 .unfold lnE ldE hnE hdE at*;rw[LU hk];generalize nH s (aE7 r)[k] =p at ha hb|-;generalize stE s r k=q at h2 h3 h4 h5|-;obtain⟨a,b⟩:=p;obtain⟨ln,ld,hn,hd⟩:=q;unfold ibd at*;dsimp only at*;unfold ko;grind
def VI{s:S}{r:aH}{k:Nat}(hk:k<(aE7 r).length)(ho:mW (nH s (aE7 r)[k])=true):c8 s r=false:=by have h:=rn (pi s r) (0,1,1,1);have hm:(pi s r).any mW=true:=l0.2 ⟨_,bZ.2 ⟨_,lI hk,rfl⟩,ho⟩;rw[hm]at h;exact h
def VJ{s:S}{r:aH}(h:kJ s r (aE7 r).length):c8 s r=decide (lnE s r (aE7 r).length*hdE s r (aE7 r).length<hnE s r (aE7 r).length*ldE s r (aE7 r).length):=by
 have hl:(pi s r).length=(aE7 r).length:=by unfold pi;rw[da]
 have h1:=h.1;have e:=rn (pi s r) (0,1,1,1);unfold lnE ldE hnE hdE stE;rw[<-hl,ke]at h1|-;rw[h1]at e;exact e
structure TriOk(r:aH):Prop where
 three:3<=r.length
 len:r.length<=1000
 near:∀v∈r,bL v 10000=true
 aJ:∀e∈aE7 r,bL e.a 10000=true/\bL e.b 10000=true
def XG{r:aH}(h:VR r){e:S}(he:e∈aE7 r):bL e.a 10000=true/\bL e.b 10000=true:=by have h3:=h.three;unfold aE7 at he;rw[if_neg (by omega)]at he;obtain⟨i,hi,rfl⟩:=bZ.1 he;have hi:=cG.1 hi;exact⟨kg (uO h.near i hi) (by omega),kg (uO h.near _ (bq _ (by omega))) (by omega)⟩
noncomputable def tC:=t48
structure ROk(r:aH):Prop where
 three:3<=r.length
 len:r.length<=1000
 near:∀v∈r,bd 10000 v
def eG(s:S)(r:aH)(k:Nat):Int×Int:=nH s (bP r k)
def gA(s:S)(r:aH)(k:Nat):Int:=(eG s r k).1
def gB(s:S)(r:aH)(k:Nat):Int:=(eG s r k).2
def gO(s:S)(r:aH)(k:Nat):Bool:=mW (eG s r k)
def Kx{r:aH}(h:3<=r.length):(aJ r).length=r.length:=by unfold aJ;grind
def Ab{r:aH}(h:3<=r.length){k:Nat}(hk:k<(aJ r).length):(aJ r)[k] =bP r k:=by
 have:∀(l:List S) (hl:l=(bQ r.length).map (bP r)) (hk:k<l.length),l[k] =bP r k:=λl hl hk=>by grind
 exact this _ (by unfold aJ;grind) hk
noncomputable def aD4:Con:=con (ac aS (a1 (aL .V))) (λ(s,r)=>[bd 10000 s.a,bd 10000 s.b,ROk r]) (λ(s,r)=> .bool (c8 s r))
def aCt:aD4.Okz 167:=ag tC (λ(s,r)=>[(3,.mk Nat (λF _=>mP F 16) [] (λk=>[k<=r.length,kJ s r k]) (λk=>[(16,.iqz (k:Int)),(5,.iqz (lnE s r k)),(6,.iqz (ldE s r k)),(7,.iqz (hnE s r k)),(8,.iqz (hdE s r k))]) bW (λk=>r.length-k) λk=>
  [jU 7 [(12,.iqz (gA s r k)),(13,.iqz (gB s r k))],jb 8 43 (gO s r k),jPU 15 [gO s r k=false] [(5,.iqz (lnE s r (k+1))),(6,.iqz (ldE s r (k+1))),(7,.iqz (hnE s r (k+1))),(8,.iqz (hdE s r (k+1)))]])]
  ) (λ(_,_)=>⟨_,rfl⟩) λ(s,r) hp=>aY ((0=(0:Int)/\0=lnE s r 0/\1=ldE s r 0/\1=hnE s r 0/\1=hdE s r 0/\(0:Nat)<=r.length/\kJ s r 0)/\
 (∀x:Nat,aA (x+1) λA=>aA (x:Int) λB=>aA (aEY r x) λC=>aA (aEY r (A % r.length)) λE=>aA (aE1 E C) λF=>aA (0-gA s r x) λG=>aA (aE1 s.a C) λH=>aA (aE1 s.b C) λI=>aA (gB s r x-gA s r x) λJ=>aA (gA s r x-gB s r x) λK=>x<=r.length/\kJ s r x->(B<r.length->(ix B r.length/\aE (B+1)/\(r.length:Int)≠0/\ix ((A % r.length:Nat):Int) r.length/\bd 1000000000 E/\bd 1000000000 C/\(bd 1000000000 s.a/\bd 1000000000 C/\cOK F H/\bd 1000000000 s.b/\bd 1000000000 C/\cOK F I/\cross F H=gA s r x/\cross F I=gB s r x)/\
    (∀y:Unit,((gA s r x<=0->decide (gB s r x<=0)=gO s r x)/\
      (¬gA s r x<=0->false=gO s r x))/\
     (∀y_1:Unit,(gO s r x=true->false=c8 s r)/\
      (gO s r x=false->(gA s r x<0->aE G/\aE (G*ldE s r x)/\aE J/\aE (lnE s r x*J)/\(lnE s r x*J<G*ldE s r x->aE G/\aE J/\0-gA s r x=lnE s r A/\gB s r x-gA s r x=ldE s r A/\hnE s r x=hnE s r A/\hdE s r x=hdE s r A/\gO s r x=false)/\
        (¬lnE s r x*J<G*ldE s r x->lnE s r x=lnE s r A/\ldE s r x=ldE s r A/\hnE s r x=hnE s r A/\hdE s r x=hdE s r A/\gO s r x=false))/\
       (¬gA s r x<0->(gB s r x<0->aE (gA s r x*hdE s r x)/\aE K/\aE (hnE s r x*K)/\(gA s r x*hdE s r x<hnE s r x*K->aE K/\lnE s r x=lnE s r A/\ldE s r x=ldE s r A/\gA s r x=hnE s r A/\gA s r x-gB s r x=hdE s r A/\gO s r x=false)/\
         (¬gA s r x*hdE s r x<hnE s r x*K->lnE s r x=lnE s r A/\ldE s r x=ldE s r A/\hnE s r x=hnE s r A/\hdE s r x=hdE s r A/\gO s r x=false))/\
        (¬gB s r x<0->lnE s r x=lnE s r A/\ldE s r x=ldE s r A/\hnE s r x=hnE s r A/\hdE s r x=hdE s r A/\gO s r x=false))))))/\
   (∀y:Unit,gO s r x=false->aE (B+1)/\B+1=((x+1:Nat):Int)/\lnE s r A=lnE s r A/\ldE s r A=ldE s r A/\hnE s r A=hnE s r A/\hdE s r A=hdE s r A/\x+1<=r.length/\kJ s r A/\r.length-A<r.length-x))/\
  (¬B<r.length->aE (lnE s r x*hdE s r x)/\aE (hnE s r x*ldE s r x)/\decide (lnE s r x*hdE s r x<hnE s r x*ldE s r x)=c8 s r))) (by kernel_rfl) (by
  change bd 10000 s.a/\bd 10000 s.b/\ROk r at hp;obtain⟨ha,hb,h3⟩:=hp;have l3:=h3.three;have hl:=h3.len;have hN:∀i:Nat,i<r.length->bd 10000 (aEY r i):=λi h=>h3.near _ (dh h);have el:(aJ r).length=r.length:=Kx l3;have md:∀i:Nat,(i:Int)<r.length->(i+1) % r.length<r.length:=λi h=>bq _ (by omega);have ha9:bd 1000000000 s.a:=ha.mono;have hb9:bd 1000000000 s.b:=hb.mono;have e9a:∀i:Nat,(i:Int)<r.length->bd 1000000000 (aEY r i):=λi h=>(hN i (by omega)).mono;have e9b:∀i:Nat,(i:Int)<r.length->bd 1000000000 (aEY r ((i+1) % r.length)):=λi h=>(hN _ (md i h)).mono;have x1:∀i:Nat,(i:Int)<r.length->ix (((i+1) % r.length:Nat):Int) r.length:=λi h=>dQ (md i h);have cA:∀(v:V) (i:Nat),bd 10000 v->(i:Int)<r.length->cOK (aE1 (aEY r ((i+1) % r.length)) (aEY r i)) (aE1 v (aEY r i)):=λv i hv h=>by have:=mv (io (hN _ (md i h)) (hN i (by omega))) (io hv (hN i (by omega)));unfold cOK;omega
  have bA:∀i:Nat,(i:Int)<r.length->ibd 800000000 (gA s r i)/\ibd 800000000 (gB s r i):=λi h=>by have h0:bd 10000 (nxt r i):=hN _ (md i h);have h1:=mv (io h0 (hN i (by omega))) (io ha (hN i (by omega)));have h2:=mv (io h0 (hN i (by omega))) (io hb (hN i (by omega)));unfold gA gB eG nH ibd bP;dsimp only;unfold cross;omega
  have sN:∀i:Nat,(i:Int)<r.length->stE s r (i+1)=ko (stE s r i) (eG s r i):=λi h=>by rw[LU (show i<(aJ r).length by omega),Ab l3];rfl
  have iN:∀i:Nat,(i:Int)<r.length->kJ s r i->gO s r i=false->kJ s r (i+1):=λi h h1 h2=>by
   have hb:=bA i h;have hk:i<(aJ r).length:=by omega
   have e:eG s r i=nH s (aJ r)[i] :=by rw[Ab l3];rfl
   refine WU hk h1 ?_ ?_ ?_
   .rw[<-e];exact h2
   .rw[<-e];exact hb.1
   .rw[<-e];exact hb.2
  have oY:∀i:Nat,(i:Int)<r.length->gO s r i=true->false=c8 s r:=λi h h2=>by symm;refine VI (k:=i) (show i<(aJ r).length by omega) ?_;rw[Ab l3];exact h2
  have oE:∀i:Nat,¬(i:Int)<r.length->i<=r.length->kJ s r i->decide (lnE s r i*hdE s r i<hnE s r i*ldE s r i)=c8 s r:=λi h h2 h3=>by
   obtain rfl:i=r.length:=by omega
   rw[<-el]at h3|-;rw[VJ h3]
  have o1:∀i:Nat,gA s r i<=0->decide (gB s r i<=0)=gO s r i:=λi h=>by unfold gO mW;rw[decide_eq_true (show(eG s r i).1<=0 from h)];rfl
  have o2:∀i:Nat,¬gA s r i<=0->false=gO s r i:=λi h=>by unfold gO mW;rw[decide_eq_false (show¬(eG s r i).1<=0 from h)];rfl
  have nN:∀x:Int,0-x= -x:=λx=>by omega
  have s1:∀i:Nat,(i:Int)<r.length->gA s r i<0->lnE s r i*(gB s r i-gA s r i)<(0-gA s r i)*ldE s r i->stE s r (i+1)=(0-gA s r i,gB s r i-gA s r i,hnE s r i,hdE s r i):=λi h h1 h2=>by rw[sN i h];unfold ko;rw[if_pos (show(eG s r i).1<0 from h1)];rw[nN]at h2;exact(if_pos (show(stE s r i).1*((eG s r i).2-(eG s r i).1)< -(eG s r i).1*(stE s r i).2.1 from h2)).trans (by rw[nN];rfl)
  have s2:∀i:Nat,(i:Int)<r.length->gA s r i<0->¬lnE s r i*(gB s r i-gA s r i)<(0-gA s r i)*ldE s r i->stE s r (i+1)=stE s r i:=λi h h1 h2=>by rw[sN i h];unfold ko;rw[if_pos (show(eG s r i).1<0 from h1)];rw[nN]at h2;exact if_neg h2
  have s3:∀i:Nat,(i:Int)<r.length->¬gA s r i<0->gB s r i<0->gA s r i*hdE s r i<hnE s r i*(gA s r i-gB s r i)->stE s r (i+1)=(lnE s r i,ldE s r i,gA s r i,gA s r i-gB s r i):=λi h h1 h2 h3=>by rw[sN i h];unfold ko;rw[if_neg (show¬(eG s r i).1<0 from h1),if_pos (show(eG s r i).2<0 from h2)];exact if_pos h3
  have s4:∀i:Nat,(i:Int)<r.length->¬gA s r i<0->gB s r i<0->¬gA s r i*hdE s r i<hnE s r i*(gA s r i-gB s r i)->stE s r (i+1)=stE s r i:=λi h h1 h2 h3=>by rw[sN i h];unfold ko;rw[if_neg (show¬(eG s r i).1<0 from h1),if_pos (show(eG s r i).2<0 from h2)];exact if_neg h3
  have s5:∀i:Nat,(i:Int)<r.length->¬gA s r i<0->¬gB s r i<0->stE s r (i+1)=stE s r i:=λi h h1 h2=>by rw[sN i h];unfold ko;rw[if_neg (show¬(eG s r i).1<0 from h1)];exact if_neg (show¬(eG s r i).2<0 from h2)
  have w:∀i:Nat,(i:Int)<r.length->kJ s r i->aE (0-gA s r i)/\aE ((0-gA s r i)*ldE s r i)/\aE (gB s r i-gA s r i)/\aE (lnE s r i*(gB s r i-gA s r i))/\aE (gA s r i*hdE s r i)/\aE (gA s r i-gB s r i)/\aE (hnE s r i*(gA s r i-gB s r i)):=λi h hI=>by obtain⟨h1,h2⟩:=bA i h;obtain⟨_,g1,g2,g3,g4⟩:=hI;unfold ibd at h1 h2 g1 g2 g3 g4;have m1:=gG (x:=0-gA s r i) (y:=ldE s r i) (A:=1600000000) (B:=1600000000) (by omega) (by omega);have m2:=gG (x:=lnE s r i) (y:=gB s r i-gA s r i) (A:=1600000000) (B:=1600000000) (by omega) (by omega);have m3:=gG (x:=gA s r i) (y:=hdE s r i) (A:=1600000000) (B:=1600000000) (by omega) (by omega);have m4:=gG (x:=hnE s r i) (y:=gA s r i-gB s r i) (A:=1600000000) (B:=1600000000) (by omega) (by omega);exact⟨bD (by omega),bD (by omega),bD (by omega),bD (by omega),bD (by omega),bD (by omega),bD (by omega)⟩
  have wE:∀i:Nat,kJ s r i->aE (lnE s r i*hdE s r i)/\aE (hnE s r i*ldE s r i):=λi hI=>by obtain⟨_,g1,g2,g3,g4⟩:=hI;unfold ibd at g1 g2 g3 g4;have m1:=gG (x:=lnE s r i) (y:=hdE s r i) (A:=1600000000) (B:=1600000000) (by omega) (by omega);have m2:=gG (x:=hnE s r i) (y:=ldE s r i) (A:=1600000000) (B:=1600000000) (by omega) (by omega);exact⟨bD (by omega),bD (by omega)⟩
  have z:=WT s r;have q1:∀i:Nat,(i:Int)<r.length->gA s r i<0->lnE s r i*(gB s r i-gA s r i)<(0-gA s r i)*ldE s r i->0-gA s r i=lnE s r (i+1)/\gB s r i-gA s r i=ldE s r (i+1)/\hnE s r i=hnE s r (i+1)/\hdE s r i=hdE s r (i+1):=λi h0 h1 h2=>by have e:=s1 i h0 h1 h2;exact⟨(congrArg (λq:Q4=>q.1) e).symm,(congrArg (λq:Q4=>q.2.1) e).symm,(congrArg (λq:Q4=>q.2.2.1) e).symm,(congrArg (λq:Q4=>q.2.2.2) e).symm⟩
  have q2:∀i:Nat,(i:Int)<r.length->gA s r i<0->¬lnE s r i*(gB s r i-gA s r i)<(0-gA s r i)*ldE s r i->lnE s r i=lnE s r (i+1)/\ldE s r i=ldE s r (i+1)/\hnE s r i=hnE s r (i+1)/\hdE s r i=hdE s r (i+1):=λi h0 h1 h2=>by have e:=s2 i h0 h1 h2;exact⟨(congrArg (λq:Q4=>q.1) e).symm,(congrArg (λq:Q4=>q.2.1) e).symm,(congrArg (λq:Q4=>q.2.2.1) e).symm,(congrArg (λq:Q4=>q.2.2.2) e).symm⟩
  have q3:∀i:Nat,(i:Int)<r.length->¬gA s r i<0->gB s r i<0->gA s r i*hdE s r i<hnE s r i*(gA s r i-gB s r i)->lnE s r i=lnE s r (i+1)/\ldE s r i=ldE s r (i+1)/\gA s r i=hnE s r (i+1)/\gA s r i-gB s r i=hdE s r (i+1):=λi h0 h1 h2 h3=>by have e:=s3 i h0 h1 h2 h3;exact⟨(congrArg (λq:Q4=>q.1) e).symm,(congrArg (λq:Q4=>q.2.1) e).symm,(congrArg (λq:Q4=>q.2.2.1) e).symm,(congrArg (λq:Q4=>q.2.2.2) e).symm⟩
  have q4:∀i:Nat,(i:Int)<r.length->¬gA s r i<0->gB s r i<0->¬gA s r i*hdE s r i<hnE s r i*(gA s r i-gB s r i)->lnE s r i=lnE s r (i+1)/\ldE s r i=ldE s r (i+1)/\hnE s r i=hnE s r (i+1)/\hdE s r i=hdE s r (i+1):=λi h0 h1 h2 h3=>by have e:=s4 i h0 h1 h2 h3;exact⟨(congrArg (λq:Q4=>q.1) e).symm,(congrArg (λq:Q4=>q.2.1) e).symm,(congrArg (λq:Q4=>q.2.2.1) e).symm,(congrArg (λq:Q4=>q.2.2.2) e).symm⟩
  have q5:∀i:Nat,(i:Int)<r.length->¬gA s r i<0->¬gB s r i<0->lnE s r i=lnE s r (i+1)/\ldE s r i=ldE s r (i+1)/\hnE s r i=hnE s r (i+1)/\hdE s r i=hdE s r (i+1):=λi h0 h1 h2=>by have e:=s5 i h0 h1 h2;exact⟨(congrArg (λq:Q4=>q.1) e).symm,(congrArg (λq:Q4=>q.2.1) e).symm,(congrArg (λq:Q4=>q.2.2.1) e).symm,(congrArg (λq:Q4=>q.2.2.2) e).symm⟩
  clear sN bA nN s1 s2 s3 s4 s5 hN md
  repeat' first|with_reducible apply bl|with_reducible intro
  all_goals repeat with_reducible cases‹_/\kJ _ _ _›
  all_goals first|assumption|with_reducible rfl|(with_reducible exact e9a _ ‹_›)|(with_reducible exact e9b _ ‹_›)|(with_reducible exact x1 _ ‹_›)|(with_reducible exact cA _ _ ‹_› ‹_›)|(with_reducible exact oY _ ‹_› ‹_›)|(with_reducible exact oE _ ‹_› ‹_› ‹_›)|(with_reducible exact o1 _ ‹_›)|(with_reducible exact o2 _ ‹_›)|(with_reducible exact(w _ ‹_› ‹_›).1)|(with_reducible exact(w _ ‹_› ‹_›).2.1)|(with_reducible exact(w _ ‹_› ‹_›).2.2.1)|(with_reducible exact(w _ ‹_› ‹_›).2.2.2.1)|(with_reducible exact(w _ ‹_› ‹_›).2.2.2.2.1)|(with_reducible exact(w _ ‹_› ‹_›).2.2.2.2.2.1)|(with_reducible exact(w _ ‹_› ‹_›).2.2.2.2.2.2)|(with_reducible exact(wE _ ‹_›).1)|(with_reducible exact(wE _ ‹_›).2)|(with_reducible exact iN _ ‹_› ‹_› ‹_›)|(with_reducible exact(q1 _ ‹_› ‹_› ‹_›).1)|(with_reducible exact(q1 _ ‹_› ‹_› ‹_›).2.1)|(with_reducible exact(q1 _ ‹_› ‹_› ‹_›).2.2.1)|(with_reducible exact(q1 _ ‹_› ‹_› ‹_›).2.2.2)|(with_reducible exact(q2 _ ‹_› ‹_› ‹_›).1)|(with_reducible exact(q2 _ ‹_› ‹_› ‹_›).2.1)|(with_reducible exact(q2 _ ‹_› ‹_› ‹_›).2.2.1)|(with_reducible exact(q2 _ ‹_› ‹_› ‹_›).2.2.2)|(with_reducible exact(q3 _ ‹_› ‹_› ‹_› ‹_›).1)|(with_reducible exact(q3 _ ‹_› ‹_› ‹_› ‹_›).2.1)|(with_reducible exact(q3 _ ‹_› ‹_› ‹_› ‹_›).2.2.1)|(with_reducible exact(q3 _ ‹_› ‹_› ‹_› ‹_›).2.2.2)|(with_reducible exact(q4 _ ‹_› ‹_› ‹_› ‹_›).1)|(with_reducible exact(q4 _ ‹_› ‹_› ‹_› ‹_›).2.1)|(with_reducible exact(q4 _ ‹_› ‹_› ‹_› ‹_›).2.2.1)|(with_reducible exact(q4 _ ‹_› ‹_› ‹_› ‹_›).2.2.2)|(with_reducible exact(q5 _ ‹_› ‹_› ‹_›).1)|(with_reducible exact(q5 _ ‹_› ‹_› ‹_›).2.1)|(with_reducible exact(q5 _ ‹_› ‹_› ‹_›).2.2.1)|(with_reducible exact(q5 _ ‹_› ‹_› ‹_›).2.2.2)|omega|(unfold ix;omega)|(unfold aE;omega)|rfl)
noncomputable def Qn:=tC.adk aCt
def kI(r:aH):Pt:=pg (aEY r 0) (aEY r 1) (aEY r 2)
def Z8{r:aH}(h:ROk r): -1000000<=(kI r).x/\(kI r).x<=1000000/\ -1000000<=(kI r).y/\(kI r).y<=1000000/\0<=(kI r).den/\(kI r).den<=100:=by have v:∀i,i<r.length->bd 10000 (aEY r i):=λi hi=>h.near _ (dh hi);have l3:=h.three;have v0:=v 0 (by omega);have v1:=v 1 (by omega);have v2:=v 2 (by omega);unfold bd at v0 v1 v2;have q1:=pT (x:=(aEY r 0).x+(aEY r 1).x+(aEY r 2).x) (g:=3) (B:=30000) (by omega);have q2:=pT (x:=(aEY r 0).y+(aEY r 1).y+(aEY r 2).y) (g:=3) (B:=30000) (by omega);unfold kI pg;grind
def Py{r:aH}{p:Pt}(h:3<=r.length):mF r p=(bQ r.length).all λi=>decide (0<((aEY r ((i+1) % r.length)).x-(aEY r i).x)*(p.y-(aEY r i).y*p.den)-((aEY r ((i+1) % r.length)).y-(aEY r i).y)*(p.x-(aEY r i).x*p.den)):=by unfold mF aJ;rw[if_neg (by omega),List.all_map];rfl
def aAk{t:LT}{l:List t.ty}{q:t.ty->Bool}{j:Nat}(hj:j<l.length)(h:q (t.nth l j)=true):l.any q=true:=
 l0.2 ⟨_,lI hj,by rw[<-t.nth_eq l hj];exact h⟩
def Gk{t:LT}{l:List t.ty}{q:t.ty->Bool}(h:aM (λj=>q (t.nth l j)=false) l.length):l.any q=false:=
 List.any_eq_false.2 λx hx=>by obtain⟨j,hj,rfl⟩:=jX hx;have:=h j hj;dsimp only at this;rw[t.nth_eq l hj]at this;grind
noncomputable def aD3:Con:=con (a1 (aL .V)) (λr=>[ROk r]) (λr=>aT.enc (kI r)
 )
def aCs:aD3.Okz 168:=ag Qn bW (λ_=>⟨_,rfl⟩) λr hp=>aY (aA (kI r) λA=>aA (3:Int) λB=>aA (aEY r 0) λC=>aA (aEY r 1) λD=>aA (aEY r 2) λE=>aA (C.x+D.x+E.x) λF=>aA (C.y+D.y+E.y) λG=>ix 0 r.length/\ix 1 r.length/\aE (C.x+D.x)/\ix 2 r.length/\aE F/\ix 0 r.length/\ix 1 r.length/\aE (C.y+D.y)/\ix 2 r.length/\aE G/\B≠0/\(cD F 3=0->B≠0/\(cD G 3=0->B≠0/\aE (eP F 3)/\B≠0/\aE (eP G 3)/\eP F 3=A.x/\eP G 3=A.y/\1=A.den)/\
  (¬cD G 3=0->C.x+D.x+E.x=A.x/\C.y+D.y+E.y=A.y/\3=A.den))/\
 (¬cD F 3=0->C.x+D.x+E.x=A.x/\C.y+D.y+E.y=A.y/\3=A.den)) (by kernel_rfl) (by
  change ROk r at hp;have v:∀i,i<r.length->bd 10000 (aEY r i):=λi h=>hp.near _ (dh h);have l3:=hp.three;have v0:=v 0 (by omega);have v1:=v 1 (by omega);have v2:=v 2 (by omega);have m1:cD ((aEY r 0).x+(aEY r 1).x+(aEY r 2).x) 3=0->cD ((aEY r 0).y+(aEY r 1).y+(aEY r 2).y) 3=0->kI r=⟨eP ((aEY r 0).x+(aEY r 1).x+(aEY r 2).x) 3,eP ((aEY r 0).y+(aEY r 1).y+(aEY r 2).y) 3,1⟩:=λh1 h2=>if_pos ⟨h1,h2⟩;have m2:¬(cD ((aEY r 0).x+(aEY r 1).x+(aEY r 2).x) 3=0/\cD ((aEY r 0).y+(aEY r 1).y+(aEY r 2).y) 3=0)->kI r=⟨(aEY r 0).x+(aEY r 1).x+(aEY r 2).x,(aEY r 0).y+(aEY r 1).y+(aEY r 2).y,3⟩:=λh=>if_neg h;unfold bd at v0 v1 v2;have q1:=pT (x:=(aEY r 0).x+(aEY r 1).x+(aEY r 2).x) (g:=3) (B:=4000000000) (by omega);have q2:=pT (x:=(aEY r 0).y+(aEY r 1).y+(aEY r 2).y) (g:=3) (B:=4000000000) (by omega);have x0:ix 0 r.length:=⟨by omega,by omega⟩;have x1:ix 1 r.length:=⟨by omega,by omega⟩;have x2:ix 2 r.length:=⟨by omega,by omega⟩;refine⟨x0,x1,bD (by omega),x2,bD (by omega),x0,x1,bD (by omega),x2,bD (by omega),by decide,λh1=>⟨by decide,λh2=>⟨by decide,bD (by omega),by decide,bD (by omega),?_⟩,λh2=> ?_⟩,λh1=> ?_⟩
  .grind
  .grind
  grind)
noncomputable def Qm:=Qn.adk aCs
noncomputable def aD1:Con:=con (ac (aL .V) (a1 aT)) (λ(r,p)=>[ROk r,-1000000<=p.x,p.x<=1000000,-1000000<=p.y,p.y<=1000000,0<=p.den,p.den<=100]) (λ(r,p)=> .bool (mF r p))
def aCq:aD1.Okz 170:=ag Qm (λ(r,p)=>[cnt 2 10 r.length (aM λi=>0<((aEY r ((i+1) % r.length)).x-(aEY r i).x)*(p.y-(aEY r i).y*p.den)-((aEY r ((i+1) % r.length)).y-(aEY r i).y)*(p.x-(aEY r i).x*p.den))]
  ) (λ(_,_)=>⟨_,rfl⟩) λ(r,p) hp=>aY ((0=(0:Int)/\(0:Nat)<=r.length/\aM (λi=>0<((aEY r ((i+1) % r.length)).x-(aEY r i).x)*(p.y-(aEY r i).y*p.den)-((aEY r ((i+1) % r.length)).y-(aEY r i).y)*(p.x-(aEY r i).x*p.den)) 0)/\
 (∀x:Nat,aA (x+1) λA=>aA (x:Int) λB=>aA (aEY r x) λC=>aA (aEY r (A % r.length)) λE=>aA (aE1 E C) λF=>aA (p.y-C.y*p.den) λG=>aA (p.x-C.x*p.den) λH=>x<=r.length/\aM (λi=>0<((aEY r ((i+1) % r.length)).x-(aEY r i).x)*(p.y-(aEY r i).y*p.den)-((aEY r ((i+1) % r.length)).y-(aEY r i).y)*(p.x-(aEY r i).x*p.den)) x->(B<r.length->ix B r.length/\aE (B+1)/\(r.length:Int)≠0/\ix ((A % r.length:Nat):Int) r.length/\bd 1000000000 E/\bd 1000000000 C/\aE (C.y*p.den)/\aE G/\aE (F.x*G)/\aE (C.x*p.den)/\aE H/\aE (F.y*H)/\aE (F.x*G-F.y*H)/\(F.x*G-F.y*H<=0->false=mF r p)/\
   (¬F.x*G-F.y*H<=0->aE (B+1)/\B+1=((x+1:Nat):Int)/\x+1<=r.length/\aM (λi=>0<((aEY r ((i+1) % r.length)).x-(aEY r i).x)*(p.y-(aEY r i).y*p.den)-((aEY r ((i+1) % r.length)).y-(aEY r i).y)*(p.x-(aEY r i).x*p.den)) A/\r.length-A<r.length-x))/\
  (¬B<r.length->true=mF r p))) (by kernel_rfl) (by
  change ROk r/\ -1000000<=p.x/\p.x<=1000000/\ -1000000<=p.y/\p.y<=1000000/\0<=p.den/\p.den<=100 at hp;obtain⟨hr,px1,px2,py1,py2,pd1,pd2⟩:=hp;have l3:=hr.three;have hl:=hr.len;have v:∀i,i<r.length->bd 10000 (aEY r i):=λi h=>hr.near _ (dh h);have md:∀i:Nat,(i:Int)<r.length->(i+1) % r.length<r.length:=λi h=>bq _ (by omega);have x1:∀i:Nat,(i:Int)<r.length->ix (((i+1) % r.length:Nat):Int) r.length:=λi h=>dQ (md i h);have b1:∀i:Nat,(i:Int)<r.length->bd 1000000000 (aEY r i):=λi h=>(v i (by omega)).mono;have b2:∀i:Nat,(i:Int)<r.length->bd 1000000000 (aEY r ((i+1) % r.length)):=λi h=>(v _ (md i h)).mono;have k:∀a:Int,-10000<=a/\a<=10000-> -1000000<=a*p.den/\a*p.den<=1000000:=λa h=>by have:=gG (x:=a) (y:=p.den) (A:=10000) (B:=100) ⟨h.1,h.2⟩ ⟨by omega,by omega⟩;omega
  have m:∀a b:Int,-20000<=a/\a<=20000-> -2000000<=b/\b<=2000000-> -40000000000<=a*b/\a*b<=40000000000:=λa b h1 h2=>by have:=gG (x:=a) (y:=b) (A:=20000) (B:=2000000) h1 h2;omega
  have w:∀i:Nat,(i:Int)<r.length->aE ((aEY r i).y*p.den)/\aE (p.y-(aEY r i).y*p.den)/\aE ((aE1 (aEY r ((i+1) % r.length)) (aEY r i)).x*(p.y-(aEY r i).y*p.den))/\aE ((aEY r i).x*p.den)/\aE (p.x-(aEY r i).x*p.den)/\aE ((aE1 (aEY r ((i+1) % r.length)) (aEY r i)).y*(p.x-(aEY r i).x*p.den))/\aE ((aE1 (aEY r ((i+1) % r.length)) (aEY r i)).x*(p.y-(aEY r i).y*p.den)-(aE1 (aEY r ((i+1) % r.length)) (aEY r i)).y*(p.x-(aEY r i).x*p.den)):=λi h=>by
   have h1:=v i (by omega);have h2:=v _ (md i h);unfold bd at h1 h2;have k1:=k _ (show-10000<=(aEY r i).x/\(aEY r i).x<=10000 by omega);have k2:=k _ (show-10000<=(aEY r i).y/\(aEY r i).y<=10000 by omega);have d1: -20000<=(aE1 (aEY r ((i+1) % r.length)) (aEY r i)).x/\(aE1 (aEY r ((i+1) % r.length)) (aEY r i)).x<=20000:=by unfold aE1;dsimp only;omega
   have d2: -20000<=(aE1 (aEY r ((i+1) % r.length)) (aEY r i)).y/\(aE1 (aEY r ((i+1) % r.length)) (aEY r i)).y<=20000:=by unfold aE1;dsimp only;omega
   have m1:=m _ (p.y-(aEY r i).y*p.den) d1 (by omega);have m2:=m _ (p.x-(aEY r i).x*p.den) d2 (by omega);exact⟨bD (by omega),bD (by omega),bD (by omega),bD (by omega),bD (by omega),bD (by omega),bD (by omega)⟩
  have no:∀i:Nat,(i:Int)<r.length->(aE1 (aEY r ((i+1) % r.length)) (aEY r i)).x*(p.y-(aEY r i).y*p.den)-(aE1 (aEY r ((i+1) % r.length)) (aEY r i)).y*(p.x-(aEY r i).x*p.den)<=0->false=mF r p:=λi h h2=>by rw[Py l3];symm;refine v6.2 ⟨i,cG.2 (by omega),?_⟩;intro h3;have:=of_decide_eq_true h3;unfold aE1 at h2;grind
  have yes:∀i:Nat,¬(i:Int)<r.length->i<=r.length->aM (λi=>0<((aEY r ((i+1) % r.length)).x-(aEY r i).x)*(p.y-(aEY r i).y*p.den)-((aEY r ((i+1) % r.length)).y-(aEY r i).y)*(p.x-(aEY r i).x*p.den)) i->true=mF r p:=λi h h2 h3=>by rw[Py l3];symm;refine bk.2 λj hj=>decide_eq_true (h3 j ?_);grind
  have nx:∀i:Nat,¬(aE1 (aEY r ((i+1) % r.length)) (aEY r i)).x*(p.y-(aEY r i).y*p.den)-(aE1 (aEY r ((i+1) % r.length)) (aEY r i)).y*(p.x-(aEY r i).x*p.den)<=0->0<((aEY r ((i+1) % r.length)).x-(aEY r i).x)*(p.y-(aEY r i).y*p.den)-((aEY r ((i+1) % r.length)).y-(aEY r i).y)*(p.x-(aEY r i).x*p.den):=λi h=>by unfold aE1 at h;grind
  clear k m v md
  with_reducible ((repeat' first|apply bl|intro);all_goals repeat cases‹_/\_›)
  all_goals first|rfl|with_reducible solve_by_elim|(with_reducible first|assumption|rfl|exact(w _ ‹_›).1|exact(w _ ‹_›).2.1|exact(w _ ‹_›).2.2.1|exact(w _ ‹_›).2.2.2.1|exact(w _ ‹_›).2.2.2.2.1|exact(w _ ‹_›).2.2.2.2.2.1|exact(w _ ‹_›).2.2.2.2.2.2)|exact bz ‹_› (nx _ ‹_›)|omega|grind)
noncomputable def Qk:=Qm.adk aCq
noncomputable def aD2:Con:=con (ac (aL .V) (a1 (aL .V))) (λ(a,b)=>[ROk a,ROk b]) (λ(a,b)=> .bool ((aJ a).any λs=>c8 s b))
def aCr:aD2.Okz 169:=ag Qk (λ(a,b)=>[cnt 2 10 (aJ a).length (aM λi=>c8 (aK (aJ a) i) b=false)]
  ) (λ(_,_)=>⟨_,rfl⟩) λ(a,b) hp=>aY (aA (aJ a) λB=>a.length<=1000/\(0=(0:Int)/\(0:Nat)<=B.length/\aM (λi=>c8 (aK B i) b=false) 0)/\
 (∀x:Nat,aA (x:Int) λA=>aA (aK B x) λC=>x<=B.length/\aM (λi=>c8 (aK B i) b=false) x->(A<B.length->ix A B.length/\x<B.length/\bd 10000 C.a/\bd 10000 C.b/\ROk b/\(c8 C b=true->true=fe B (λs=>c8 s b))/\
   (c8 C b=false->aE (A+1)/\A+1=((x+1:Nat):Int)/\x+1<=B.length/\aM (λi=>c8 (aK B i) b=false) (x+1)/\B.length-(x+1)<B.length-x))/\
  (¬A<B.length->false=fe B (λs=>c8 s b)))) (by kernel_rfl) (by
  change ROk a/\ROk b at hp;obtain⟨ha,hb⟩:=hp;have la:=ha.three;have lb:=ha.len;have el:=Kx la;have e1:∀i:Nat,(i:Int)<(aJ a).length->bd 10000 (aK (aJ a) i).a/\bd 10000 (aK (aJ a) i).b:=λi h=>by rw[eZ (show i<(aJ a).length by omega),Ab la];exact⟨ha.near _ (dh (by omega)),ha.near _ (dh (bq _ (by omega)))⟩
  have yes:∀i:Nat,(i:Int)<(aJ a).length->c8 (aK (aJ a) i) b=true->true=fe (aJ a) (λs=>c8 s b):=λi h h2=>
   (aAk (t:= .S) (l:=aJ a) (q:=λs=>c8 s b) (j:=i) (by omega) h2).symm
  have no:∀i:Nat,¬(i:Int)<(aJ a).length->i<=(aJ a).length->aM (λi=>c8 (aK (aJ a) i) b=false) i->false=fe (aJ a) (λs=>c8 s b):=λi h h2 h3=>by
   obtain rfl:i=(aJ a).length:=by omega
   exact(Gk (t:= .S) (l:=aJ a) (q:=λs=>c8 s b) h3).symm
  with_reducible ((repeat' first|apply bl|intro);all_goals repeat cases‹_/\_›)
  all_goals first|rfl|with_reducible solve_by_elim|(with_reducible first|assumption|rfl|exact(e1 _ ‹_›).1|exact(e1 _ ‹_›).2)|grind)
noncomputable def Ql:=Qk.adk aCr
noncomputable def aEN:Con:=con (ac (aL .V) (a1 (aL .V))) (λ(a,b)=>[ROk a,ROk b]) (λ(a,b)=> .bool (fK a b)
 )
def aDc:aEN.Okz 110:=ag Ql (λ(_,_)=>[]) (λ(_,_)=>⟨_,rfl⟩) λ(a,b) hp=>aY (aA (kI a) λA=>ROk a/\ROk b/\(fe (aJ a) (λs=>c8 s b)=true->true=fK a b)/\
 (fe (aJ a) (λs=>c8 s b)=false->ROk b/\ROk a/\(fe (aJ b) (λs=>c8 s a)=true->true=fK a b)/\
  (fe (aJ b) (λs=>c8 s a)=false->ROk a/\ROk b/\ -1000000<=A.x/\A.x<=1000000/\ -1000000<=A.y/\A.y<=1000000/\0<=A.den/\A.den<=100/\mF b A=fK a b))) (by kernel_rfl) (by
  change ROk a/\ROk b at hp;obtain⟨ha,hb⟩:=hp;have c:=Z8 ha;have o:fK a b=((fe (aJ a) λs=>c8 s b)||((fe (aJ b) λs=>c8 s a)||mF b (kI a))):=rfl;grind)
noncomputable def Rb:=Ql.adk aDc
noncomputable def aEP:Con:=con (ac aSh (a1 (aL .V))) (λ(s,r)=>[Fit s,ROk r,(aa s).length<=1000000,(∀e∈aa s,bL e.a 10000=true/\bL e.b 10000=true)]) (λ(s,r)=> .bool (n9 s r))
def aDe:aEP.Okz 108:=ag Rb (λ(s,r)=>[cnt 2 10 (aa s).length (aM λi=>c8 (aK (aa s) i) r=false)]
  ) (λ(_,_)=>⟨_,rfl⟩) λ(s,r) hp=>aY (aA (aa s) λB=>Fit s/\(0=(0:Int)/\(0:Nat)<=B.length/\aM (λi=>c8 (aK B i) r=false) 0)/\
 (∀x:Nat,aA (x:Int) λA=>aA (aK B x) λC=>x<=B.length/\aM (λi=>c8 (aK B i) r=false) x->(A<B.length->ix A B.length/\bd 10000 C.a/\bd 10000 C.b/\ROk r/\(c8 C r=true->false=n9 s r)/\
   (c8 C r=false->aE (A+1)/\A+1=((x+1:Nat):Int)/\x+1<=B.length/\aM (λi=>c8 (aK B i) r=false) (x+1)/\B.length-(x+1)<B.length-x))/\
  (¬A<B.length->ROk r/\Fit s/\decide (fB s (kI r)=2)=n9 s r))) (by kernel_rfl) (by
  change Fit s/\ROk r/\(aa s).length<=1000000/\((∀e∈aa s,bL e.a 10000=true/\bL e.b 10000=true))at hp;obtain⟨hf,hr,hl,he⟩:=hp;have e1:∀i:Nat,(i:Int)<(aa s).length->bd 10000 (aK (aa s) i).a:=λi h=>by rw[eZ (by omega)];exact qF (he _ (lI _)).1
  have e2:∀i:Nat,(i:Int)<(aa s).length->bd 10000 (aK (aa s) i).b:=λi h=>by rw[eZ (by omega)];exact qF (he _ (lI _)).2
  have t1:∀i:Nat,(i:Int)<(aa s).length->c8 (aK (aa s) i) r=true->false=n9 s r:=λi h h2=>by unfold n9;rw[Bd (t:= .S) (l:=aa s) (q:=λe=> !c8 e r) (j:=i) (by omega) (by rw[show c8 (LT.S.nth (aa s) i) r=true from h2];rfl)];rfl
  have t3:∀x:Nat,¬(x:Int)<(aa s).length->x<=(aa s).length->aM (λi=>c8 (aK (aa s) i) r=false) x->decide (fB s (kI r)=2)=n9 s r:=λx h1 h2 h3=>by
   obtain rfl:x=(aa s).length:=by omega
   unfold n9;rw[BE (t:= .S) (l:=aa s) (q:=λe=> !c8 e r) (λj hj=>by show(!c8 (aK (aa s) j) r)=true;rw[show c8 (aK (aa s) j) r=false from h3 j hj];rfl),nT,fm];unfold kI;simp
  clear he
  with_reducible ((repeat' first|apply bl|intro);all_goals repeat cases‹_/\_›)
  all_goals first|rfl|with_reducible solve_by_elim|(with_reducible first|assumption|rfl)|grind)
noncomputable def HU:=Rb.adk aDe
def qH(a b:V):V:=⟨i7.wrap (a.x-b.x),i7.wrap (a.y-b.y)⟩
def un(a b:V):Int:=i7.wrap (i7.wrap (a.x*b.y)-i7.wrap (a.y*b.x))
def ss(a b c:V):Int:=aE2 (un (qH b a) (qH c a)) 0
def NC{a b:V}(ha:bd 1000000000 a)(hb:bd 1000000000 b):qH a b=aE1 a b:=by unfold bd at ha hb;unfold qH aE1;rw[uA (bD (by omega)),uA (bD (by omega))]
def Wp{a b:V}(ha:bd 2000000000 a)(hb:bd 2000000000 b):un a b=cross a b:=by have:=mv ha hb;unfold un cross;rw[uA (x:=a.x*b.y) (bD (by omega)),uA (x:=a.y*b.x) (bD (by omega)),uA (bD (by omega))]
def XH{a b c:V}(ha:bd 1000000000 a)(hb:bd 1000000000 b)(hc:bd 1000000000 c):ss a b c=turn a b c:=by
 have e:∀n,aE2 n 0=sgn n:=λn=>by unfold aE2 sgn;grind
 unfold ss;rw[NC hb ha,NC hc ha,Wp (io hb ha) (io hc ha),e];rfl
noncomputable def aBw:Con:=con (ac aV (a1 aV)) (λ(_,_)=>[True]) (λ(a,b)=>aV.enc (qH a b))
def aBi:aBw.Okz 138:=uo (mT HU.o) (raw:=λ_ _=>true
 ) (λ(_,_)=>[]) (λ(_,_)=>⟨_,rfl⟩) λ(a,b) hp=>aY (yx i7 (a.x-b.x)=(qH a b).x/\yx i7 (a.y-b.y)=(qH a b).y) (by kernel_rfl) (by
 change True at hp;exact⟨rfl,rfl⟩)
noncomputable def PZ:=HU.adk aBi
noncomputable def aBx:Con:=con (ac aV (a1 aV)) (λ(_,_)=>[True]) (λ(a,b)=> .iqz (un a b))
def aBj:aBx.Okz 111:=uo (mT PZ.o) (raw:=λ_ _=>true
 ) (λ(_,_)=>[]) (λ(_,_)=>⟨_,rfl⟩) λ(a,b) hp=>aY (yx i7 (yx i7 (a.x*b.y)-yx i7 (a.y*b.x))=un a b) (by kernel_rfl) (by
 change True at hp;rfl)
noncomputable def Pa:=PZ.adk aBj
noncomputable def aDq:Con:=con (ac aV (ac aV (a1 aV))) (λ(_,_,_)=>[True]) (λ(a,b,c)=> .iqz (ss a b c)
 )
def aBP:aDq.Okz 63:=ag Pa (λ(_,_,_)=>[]) (λ(_,_,_)=>⟨_,rfl⟩) λ(a,b,c) hp=>aY (True/\True/\True/\aE2 (un (qH b a) (qH c a)) 0=ss a b c) (by kernel_rfl) (by change True at hp;exact⟨trivial,trivial,trivial,rfl⟩)
noncomputable def aBG:=Pa.adk aBP
def cvZ(r:aH)(i n:Nat):Bool:=decide (n=i)||(decide (n=(i+1) % r.length)||decide (0<ss (aEY r i) (aEY r ((i+1) % r.length)) (aEY r n)))
def cvR(r:aH)(i:Nat):Bool:=(bQ r.length).all (cvZ r i)&&bL (aEY r i) 2000
def cvN(r:aH)(i n:Nat):Bool:=decide (n=i)||(decide (n=(i+1) % r.length)||decide (0<turn (aEY r i) (aEY r ((i+1) % r.length)) (aEY r n)))
def WL{r:aH}:(r.all λv=>bL v 2000)=(bQ r.length).all λi=>bL (aEY r i) 2000:=by
 rw[fm,bk,bk];constructor
 .intro h i hi;exact h _ (dh (cG.1 hi))
 .intro h v hv;obtain⟨i,hi,rfl⟩:=fD.1 hv;grind
def Z5(r:aH):dY r=(decide (3<=r.length)&&(((bQ r.length).all λi=>bL (aEY r i) 2000)&&(bQ r.length).all λi=>(bQ r.length).all (cvN r i))):=by
 have e:(λi=>(bQ r.length).all λn=>decide (n=i)||decide (n=(i+1) % r.length)||decide (0<turn (aEY r i) (nxt r i) (aEY r n)))=λi=>(bQ r.length).all (cvN r i):=by
  funext i;congr 1;funext n;exact Bool.or_assoc ..
 unfold dY;rw[WL,e]
def Dr{v:V}(h:bL v 2000=true):bd 10000 v:=by unfold bL at h;simp only[bw,decide_eq_true_eq]at h;unfold bd;omega
def F7(r:aH):dY r=(decide (3<=r.length)&&(bQ r.length).all (cvR r)):=by
 rw[Z5]
 congr 1
 have key:((bQ r.length).all λi=>bL (aEY r i) 2000)=true->∀i n,i<r.length->n<r.length->cvZ r i n=cvN r i n:=λh i n hi hn=>by have h:=bk.1 h;have b:∀i,i<r.length->bd 1000000000 (aEY r i):=λi hi=>(Dr (h i (cG.2 hi))).mono;unfold cvZ cvN;rw[XH (b _ hi) (b _ (bq _ (by omega))) (b _ hn)]
 rw[fm];constructor
 .intro h;rw[bw]at h;refine bk.2 λi hi=> ?_;unfold cvR;grind
 .intro h;have h:=bk.1 h;have h1:((bQ r.length).all λi=>bL (aEY r i) 2000)=true:=bk.2 λi hi=>by have:=h i hi;unfold cvR at this;grind
  rw[bw];refine⟨h1,bk.2 λi hi=>bk.2 λn hn=> ?_⟩;rw[<-key h1 i n (cG.1 hi) (cG.1 hn)];have:=h i hi;unfold cvR at this;grind
def BR{r:aH}(h:dY r=true)(hl:r.length<=1000):ROk r:=by have:=CR.of h;exact⟨this.len,hl,λv hv=>Dr (this.near v hv)⟩
def LJ{q:Nat->Bool}{n:Nat}(h:aM (λj=>q j=true) n):(bQ n).all q=true:=bk.2 λi hi=>h i (cG.1 hi)
def GG{q:Nat->Bool}{n i:Nat}(hi:i<n)(h:q i=false):(bQ n).all q=false:=v6.2 ⟨i,cG.2 hi,by rw[h];simp⟩
noncomputable def aEQ:Con:=con (a1 (aL .V)) (λr=>[r.length<=1000]) (λr=> .bool (dY r))
def aDf:aEQ.Okz 107:=ag aBG (λr=>[lp 2 10 r.length (λi=>[aM (λi=>cvR r i=true) i]) [] bW bW λi=>[cnt 6 25 r.length (aM λn=>cvZ r i n=true) λn=>[jb 9 48 (!cvZ r i n)]]]
  ) (λ_=>⟨_,rfl⟩) λr hp=>aY (aA (0:Int) λC=>aA (r.length:Int) λG=>(0=C/\(0:Nat)<=r.length/\aM (λi=>cvR r i=true) 0)/\
 (∀x:Nat,aA (x+1) λA=>aA (x:Int) λB=>aA (aEY r x) λE=>aA ((A % r.length:Nat):Int) λI=>aA (!bL E 2000) λJ=>x<=r.length/\aM (λi=>cvR r i=true) x->(B<r.length->ix B r.length/\aE (B+1)/\G≠0/\ix I r.length/\(0=C/\(0:Nat)<=r.length/\aM (λn=>cvZ r x n=true) 0)/\
   (∀x_1:Nat,aA (x_1:Int) λD=>aA (!cvZ r x x_1) λF=>x_1<=r.length/\aM (λn=>cvZ r x n=true) x_1->(D<r.length->ix D r.length/\((¬D=x->aE (B+1)/\G≠0/\(¬D=I->True/\decide (ss E (aEY r (A % r.length)) (aEY r x_1)<=0)=F)/\
       (¬(¬D=I)->false=F))/\
      (¬(¬D=x)->false=F))/\
     (∀y:Unit,(F=true->false=dY r)/\
      (F=false->aE (D+1)/\D+1=((x_1+1:Nat):Int)/\x_1+1<=r.length/\aM (λn=>cvZ r x n=true) (x_1+1)/\r.length-(x_1+1)<r.length-x_1)))/\
    (¬D<r.length->C<=2000/\(2000:Int)<=9000000000000000000/\(J=true->false=dY r)/\
     (J=false->aE (B+1)/\B+1=((x+1:Nat):Int)/\x+1<=r.length/\aM (λi=>cvR r i=true) A/\r.length-A<r.length-x))))/\
  (¬B<r.length->decide (3<=G)=dY r))) (by kernel_rfl) (by
  change r.length<=1000 at hp;have x1:∀x:Nat,(x:Int)<r.length->ix (((x+1) % r.length:Nat):Int) r.length:=λx h=>dQ (bq _ (by omega));have z1:∀x y:Nat,¬(y:Int)=x->¬(y:Int)=(((x+1) % r.length:Nat):Int)->decide (ss (aEY r x) (aEY r ((x+1) % r.length)) (aEY r y)<=0)=(!cvZ r x y):=λx y h1 h2=>by unfold cvZ;rw[decide_eq_false (show¬y=x by omega),decide_eq_false (show¬y=(x+1) % r.length by omega),Bool.false_or,Bool.false_or,<-decide_not];grind
  have z2:∀x y:Nat,¬¬(y:Int)=(((x+1) % r.length:Nat):Int)->false=(!cvZ r x y):=λx y h=>by unfold cvZ;grind
  have z3:∀x y:Nat,¬¬(y:Int)=x->false=(!cvZ r x y):=λx y h=>by unfold cvZ;grind
  have no:∀x y:Nat,(!cvZ r x y)=true->(x:Int)<r.length->(y:Int)<r.length->false=dY r:=λx y h3 h1 h2=>by rw[F7,GG (i:=x) (by omega) (by unfold cvR;rw[GG (i:=y) (by omega) (nb' h3)];rfl)];simp
  have no2:∀x:Nat,(!bL (aEY r x) 2000)=true->(x:Int)<r.length->false=dY r:=λx h3 h1=>by rw[F7,GG (i:=x) (by omega) (by unfold cvR;grind)];simp
  have st:∀x y:Nat,aM (λn=>cvZ r x n=true) y->¬(y:Int)<r.length->y<=r.length->(!bL (aEY r x) 2000)=false->cvR r x=true:=λx y h3 h1 h2 h4=>by
   obtain rfl:y=r.length:=by omega
   unfold cvR;rw[LJ h3,nb h4];rfl
  have fin:∀x:Nat,¬(x:Int)<r.length->x<=r.length->aM (λi=>cvR r i=true) x->decide (3<=(r.length:Int))=dY r:=λx h1 h2 h3=>by
   obtain rfl:x=r.length:=by omega
   rw[F7,LJ h3,Bool.and_true];exact decide_eq_decide.2 (by omega)
  with_reducible ((repeat' first|apply bl|intro);all_goals repeat cases‹_/\_›)
  all_goals first|rfl|with_reducible solve_by_elim|(with_reducible first|assumption|rfl)|exact bz ‹_› (nb ‹_›)|exact bz ‹_› (st _ _ ‹_› ‹_› ‹_› ‹_›)|grind)
noncomputable def tE:=(HU.adk Ry).adk aDf
def fgn(v:List V)(p:V):Bool:= !v.any λu=>decide (p=u)
noncomputable def c82:Con:=con (ac (aL .V) (a1 aV)) (λ(l,_)=>[l.length<=1000000]) (λ(l,v)=> .bool (l.any λu=>decide (v=u))
 )
def k82:c82.Okz 82:=ag tE (λ(_,_)=>[]) (λ(_,_)=>⟨_,rfl⟩) λ(l,v) hp=>aY (l.length<=1000000/\decide (0<=fI (λu=>decide (v=u)) l)=fe l (λu=>decide (v=u))) (by kernel_rfl) (by change l.length<=1000000 at hp;exact⟨hp,um _ _⟩)
noncomputable def t82:=tE.adk k82
noncomputable def aER:Con:=con (ac aV (a1 aPR)) (λ(_,l)=>[l.length<=1000000]) (λ(v,l)=> .bool (fgn l v)
 )
def aDg:aER.Okz 106:=ag t82 (λ(_,_)=>[]) (λ(_,_)=>⟨_,rfl⟩) λ(v,l) hp=>aY (l.length<=1000000/\(!fe l (λu=>decide (v=u)))=fgn l v) (by kernel_rfl) (by change l.length<=1000000 at hp;exact⟨hp,rfl⟩)
noncomputable def Rg:=t82.adk aDg
def P7:Ar (aH×Unit):=aCl 106 (ac aPR a0)
def P6:Ar (aH×Unit):=aCl 109 (ac aPR a0)
noncomputable def aBu:Con:=con (ac (aL .V) (a1 P7)) (λ(l,c)=>[l.length<=1000000,c.1.length<=1000000]) (λ(l,c)=> .iqz (fI (fgn c.1) l))
def aBg:aBu.Okz 157:=ag Rg (λ(l,c)=>[cnt 2 8 l.length (aM λj=>fgn c.1 (aEY l j)=false)]
  ) (λ(_,_)=>⟨_,rfl⟩) λ(l,c) hp=>aY ((0=(0:Int)/\(0:Nat)<=l.length/\aM (λj=>fgn c.1 (aEY l j)=false) 0)/\
 (∀x:Nat,aA (x:Int) λA=>x<=l.length/\aM (λj=>fgn c.1 (aEY l j)=false) x->(A<l.length->ix A l.length/\c.1.length<=1000000/\(fgn c.1 (aEY l x)=true->A=fI (fgn c.1) l)/\
   (fgn c.1 (aEY l x)=false->aE (A+1)/\A+1=((x+1:Nat):Int)/\x+1<=l.length/\aM (λj=>fgn c.1 (aEY l j)=false) (x+1)/\l.length-(x+1)<l.length-x))/\
  (¬A<l.length-> -1=fI (fgn c.1) l))) (by kernel_rfl) (by
  change l.length<=1000000/\c.1.length<=1000000 at hp
  with_reducible ((repeat' first|apply bl|intro);all_goals repeat cases‹_/\_›)
  all_goals first|rfl|exact qE (t:= .V) (by omega) ‹_› ‹_› |(obtain rfl:_=l.length:=tf ‹_› (by omega);exact sm (t:= .V) ‹_›)|grind)
noncomputable def PX:=Rg.adk aBg
noncomputable def aDp:Con:=con (ac (aL .V) (a1 P7)) (λ(l,c)=>[l.length<=1000000,c.1.length<=1000000]) (λ(l,c)=> .bool (l.any (fgn c.1))
 )
def aBO:aDp.Okz 84:=ag PX (λ(_,_)=>[]) (λ(_,_)=>⟨_,rfl⟩) λ(l,c) hp=>aY (l.length<=1000000/\c.fst.length<=1000000/\decide (0<=fI (fgn c.fst) l)=fe l (fgn c.1)) (by kernel_rfl) (by change l.length<=1000000/\c.1.length<=1000000 at hp;exact⟨hp.1,hp.2,um _ _⟩)
noncomputable def QC:=PX.adk aBO
noncomputable def aEO:Con:=con (ac (aL .V) (a1 aPR)) (λ(o,r)=>[ROk r,ROk o]) (λ(o,r)=> .bool (fK r o)
 )
def aDd:aEO.Okz 109:=ag QC (λ(_,_)=>[]) (λ(_,_)=>⟨_,rfl⟩) λ(o,r) hp=>aY (ROk r/\ROk o/\fK r o=fK r o) (by kernel_rfl) (by change ROk r/\ROk o at hp;grind)
noncomputable def Re:=QC.adk aDd
noncomputable def aEb:Con:=con (ac (aL .R) (a1 P6)) (λ(l,c)=>[l.length<=1000000,ROk c.1,(∀o∈l,ROk o)]) (λ(l,c)=> .iqz (fI (fK c.1) l))
def aCA:aEb.Okz 159:=ag Re (λ(l,c)=>[cnt 2 8 l.length (aM λj=>fK c.1 (aC l j)=false)]
  ) (λ(_,_)=>⟨_,rfl⟩) λ(l,c) hp=>aY (aA (fK c.1) λC=>(0=(0:Int)/\(0:Nat)<=l.length/\aM (λj=>fK c.1 (aC l j)=false) 0)/\
 (∀x:Nat,aA (x:Int) λA=>aA (aC l x) λB=>x<=l.length/\aM (λj=>fK c.1 (aC l j)=false) x->(A<l.length->ix A l.length/\ROk c.1/\ROk B/\(fK c.1 B=true->A=fI C l)/\
   (fK c.1 B=false->aE (A+1)/\A+1=((x+1:Nat):Int)/\x+1<=l.length/\aM (λj=>fK c.1 (aC l j)=false) (x+1)/\l.length-(x+1)<l.length-x))/\
  (¬A<l.length-> -1=fI C l))) (by kernel_rfl) (by
  change l.length<=1000000/\ROk c.1/\((∀o∈l,ROk o))at hp;have hm:∀x:Nat,(x:Int)<l.length->ROk (aC l x):=λx h=>hp.2.2 _ (gD (by omega))
  with_reducible ((repeat' first|apply bl|intro);all_goals repeat cases‹_/\_›)
  all_goals first|rfl|exact hm _ ‹_› |exact qE (t:= .R) (by omega) ‹_› ‹_› |(obtain rfl:_=l.length:=tf ‹_› (by omega);exact sm (t:= .R) ‹_›)|grind)
noncomputable def Qu:=Re.adk aCA
noncomputable def c86:Con:=con (ac (aL .R) (a1 P6)) (λ(l,c)=>[l.length<=1000000,ROk c.1,(∀o∈l,ROk o)]) (λ(l,c)=> .bool (l.any (fK c.1))
 )
def k86:c86.Okz 86:=ag Qu (λ(_,_)=>[]) (λ(_,_)=>⟨_,rfl⟩) λ(l,c) hp=>aY (l.length<=1000000/\ROk c.fst/\(∀o:aH,o∈l->ROk o)/\decide (0<=fI (fK c.fst) l)=fe l (fK c.1)) (by kernel_rfl) (by change l.length<=1000000/\ROk c.1/\((∀o∈l,ROk o))at hp;exact⟨hp.1,hp.2.1,hp.2.2,um _ _⟩)
noncomputable def t86:=Qu.adk k86
def LH{s:Shape}(h:VS s):∀e∈aa s,bL e.a 10000=true/\bL e.b 10000=true:=by intro e he;unfold aa at he;obtain⟨r,hr,her⟩:=cZ.1 he;exact XG (h.ring hr) her
def ccA(s:Shape)(r:aH):Bool:=(!dY r||(r.any (fgn (vOf s))|| !n9 s r))
def ccB(l:List aH)(i:Nat):Bool:=(l.take i).any (fK (aC l i))
def cc(s:Shape)(l:List aH)(i:Nat):Prop:=ccA s (aC l i)=false/\ccB l i=false
def arS(l:List aH)(k:Nat):Int:=((l.take k).map area).sum
def kn(s:Shape)(l:List aH):Bool:=ak s&&((bQ l.length).all λi=> !ccA s (aC l i)&& !ccB l i)&&decide (arS l l.length=nA s)
def Mq{l:List aH}{x:Nat}(h:x<l.length):arS l x+area (aC l x)=arS l (x+1):=by unfold arS;rw[iR (by omega),dM,List.sum_append,je (by omega)];simp
def Mm{s:Shape}{r:aH}(h:ccA s r=false):dY r=true:=by unfold ccA at h;grind
def Wu{r:aH}(h:dY r=true):near r=true:=by have:=(CR.of h).near;unfold near;grind
def PM{l:List aH}(hl:∀x:Nat,x<l.length->(aC l x).length<=1000):∀x:Nat,x<=l.length->(∀j,j<x->near (aC l j)=true)-> -(40000000000*(x:Int))<=arS l x/\arS l x<=40000000000*(x:Int)
 |0,_,_=>by unfold arS;simp
 |x+1,h,hn=>by
  have h1:=PM hl x (by omega) λj hj=>hn j (by omega);have h2:=vE (hn x (by omega)) (aC l x).length (bI _);have h3:=hl x (by omega);have e:ar (aC l x) (aC l x).length=area (aC l x):=rfl;rw[<-Mq (show x<l.length by omega)];omega
noncomputable def c43:Con:=con (ac aSh (a1 (aL .R))) (λ(s,l)=>[Fit s,l.length<=1000,(∀r∈l,r.length<=1000)]) (λ(s,l)=> .bool (kn s l))
def k43:c43.Okz 43:=ag t86 (λ(s,l)=>[lp 6 22 l.length (λk=>[aM (cc s l) k]) [] (λk=>[(7,.iqz (arS l k))]) bW λk=>[jb 10 41 (ccA s (aC l k)),lp 14 49 (aC l k).length bW [] (λj=>[(7,.iqz (arS l k+ar (aC l k) j))]) bW]]
  ) (λ(_,_)=>⟨_,rfl⟩) λ(s,l) hp=>aY (aA (cc s l) λA=>Fit s/\(¬eOf s=0->false=kn s l)/\
 (¬(¬eOf s=0)->(0=(0:Int)/\0=arS l 0/\(0:Nat)<=l.length/\aM A 0)/\
  (∀x:Nat,aA (x:Int) λB=>aA (aC l x) λE=>aA (aP x l) λH=>aA (fK E) λJ=>x<=l.length/\aM A x->(B<l.length->ix B l.length/\(E.length<=1000/\((!dY E)=true->true=ccA s E)/\
     ((!dY E)=false->E.length<=1000000/\(vOf s).length<=1000000/\(fe E (fgn (vOf s))=true->true=ccA s E)/\
      (fe E (fgn (vOf s))=false->Fit s/\ROk E/\(aa s).length<=1000000/\(∀e:aE0,e∈aa s->bL e.a 10000=true/\bL e.b 10000=true)/\(!n9 s E)=ccA s E)))/\
    (∀y:Unit,(ccA s E=true->false=kn s l)/\
     (ccA s E=false->(0<=B/\B<=l.length)/\H.length<=1000000/\ROk E/\(∀o:aH,o∈aP x l->ROk o)/\(fe H J=true->false=kn s l)/\
      (fe H J=false->(0=(0:Int)/\arS l x=arS l x+ar E 0/\(0:Nat)<=E.length)/\
       (∀x_1:Nat,aA (x_1+1) λC=>aA (x_1:Int) λD=>aA (aEY E (C % E.length)) λG=>aA (aEY E x_1) λI=>x_1<=E.length->(D<E.length->ix D E.length/\aE (D+1)/\(E.length:Int)≠0/\ix ((C % E.length:Nat):Int) E.length/\cOK I G/\aE (arS l x+ar E x_1+cross I G)/\aE (D+1)/\D+1=((x_1+1:Nat):Int)/\arS l x+ar E x_1+cross I G=arS l x+ar E C/\x_1+1<=E.length/\E.length-C<E.length-x_1)/\
        (¬D<E.length->aE (B+1)/\B+1=((x+1:Nat):Int)/\arS l x+ar E x_1=arS l (x+1)/\x+1<=l.length/\aM A (x+1)/\l.length-(x+1)<l.length-x))))))/\
   (¬B<l.length->Fit s/\decide (arS l x=(if ak s=true then nA s else 0))=kn s l)))) (by kernel_rfl) (by
  change Fit s/\l.length<=1000/\((∀r∈l,r.length<=1000))at hp;obtain⟨hf,hl,hr⟩:=hp;have R:¬¬eOf s=0->aj s=true:=λh=>uc h;have hvP:¬¬eOf s=0->ak s=true:=λh=>by rw[ii];exact R h
  have V:¬¬eOf s=0->VS s:=λh=>vsR (R h);have hv:=m7 s;have hvl:(vOf s).length<=1000000:=by omega
  have he:¬¬eOf s=0->(aa s).length<=1000000:=λh=>by have:=zH (V h);omega
  have hw:¬¬eOf s=0->∀e∈aa s,bL e.a 10000=true/\bL e.b 10000=true:=λh=>LH (V h);have hr:∀x:Nat,(x:Int)<l.length->(aC l x).length<=1000:=λx h=>hr _ (gD (by omega));have hr6:∀x:Nat,(x:Int)<l.length->(aC l x).length<=1000000:=λx h=>by grind
  have c0:¬eOf s=0->false=kn s l:=λh=>by
   unfold kn;rw[ii];cases e:aj s with
   |false=>rfl
   |true=>exact absurd (by unfold eOf;rw[e];rfl) h
  have a1:∀x:Nat,(!dY (aC l x))=true->true=ccA s (aC l x):=λx h=>by unfold ccA;rw[h];rfl
  have a3:∀x:Nat,fe (aC l x) (fgn (vOf s))=true->true=ccA s (aC l x):=λx h=>by unfold ccA;rw[h];simp
  have a4:∀x:Nat,(!dY (aC l x))=false->fe (aC l x) (fgn (vOf s))=false->(!n9 s (aC l x))=ccA s (aC l x):=λx h2 h3=>by unfold ccA;grind
  have tO:∀x:Nat,(!dY (aC l x))=false->(x:Int)<l.length->ROk (aC l x):=λx h h2=>BR (nb h) (hr x h2);have tO2:∀x:Nat,ccA s (aC l x)=false->(x:Int)<l.length->ROk (aC l x):=λx h h2=>BR (Mm h) (hr x h2);have tO3:∀x:Nat,x<=l.length->aM (cc s l) x->∀o∈aP x l,ROk o:=λx hx h o ho=>by obtain⟨j,hj,rfl⟩:=jX ho;rw[l6]at hj;rw[List.getElem_take,<-je (by omega)];exact tO2 j (h j (by omega)).1 (by omega)
  have tl:∀x:Nat,(aP x l).length<=1000000:=λx=>by rw[l6];omega
  have no:∀x:Nat,(ccA s (aC l x)=true\/fe (aP x l) (fK (aC l x))=true)->(x:Int)<l.length->false=kn s l:=λx h2 h=>by
   unfold kn;rw[show((bQ l.length).all λi=> !ccA s (aC l i)&& !ccB l i)=false from v6.2 ⟨x,cG.2 (by omega),by
    rcases h2 with h2|h2
    .rw[h2];simp
    .rw[show ccB l x=true from h2];simp⟩]
   simp
  have nr:∀x:Nat,ccA s (aC l x)=false->near (aC l x)=true:=λx h=>Wu (Mm h);have b0:∀x i:Nat,ccA s (aC l x)=false->(i:Int)<(aC l x).length->cOK (aEY (aC l x) i) (aEY (aC l x) ((i+1) % (aC l x).length)):=λx i h h2=>by have h0:=lQ (nr x h) (i:=i) (by omega) (M:=2000000000);have h1:=lQ (nr x h) (i:=(i+1) % (aC l x).length) (bq _ (by omega)) (M:=2000000000);have:=mv h0 h1;unfold cOK;omega
  have x1:∀x i:Nat,(i:Int)<(aC l x).length->ix (((i+1) % (aC l x).length:Nat):Int) (aC l x).length:=λx i h=>dQ (bq _ (by omega));have bS:∀x:Nat,aM (cc s l) x->x<=l.length-> -(40000000000*(x:Int))<=arS l x/\arS l x<=40000000000*(x:Int):=λx h hx=>PM (λy hy=>hr y (by omega)) x hx λj hj=>nr j (h j hj).1;have sS:∀x i:Nat,arS l x+ar (aC l x) i+cross (aEY (aC l x) i) (aEY (aC l x) ((i+1) % (aC l x).length))=arS l x+ar (aC l x) (i+1):=λx i=>by rw[BD];omega
  have wS:∀x i:Nat,aM (cc s l) x->x<=l.length->ccA s (aC l x)=false->(x:Int)<l.length->(i:Int)<(aC l x).length->aE (arS l x+ar (aC l x) i+cross (aEY (aC l x) i) (aEY (aC l x) ((i+1) % (aC l x).length))):=λx i h hx h2 h3 h4=>by rw[sS];have h5:=bS x h hx;have h6:=vE (nr x h2) (i+1) (by omega);have h7:=hr x h3;exact bD (by omega)
  have w1:∀x i:Nat,(i:Int)<(aC l x).length->(x:Int)<l.length->aE ((i:Int)+1):=λx i h h2=>bD (by grind);have z0:arS l 0=0:=rfl;have z1:∀x,ar (aC l x) 0=0:=λx=>rfl;have z2:∀x,arS l x=arS l x+ar (aC l x) 0:=λx=>by grind
  have sE:∀x i:Nat,(x:Int)<l.length->¬(i:Int)<(aC l x).length->i<=(aC l x).length->arS l x+ar (aC l x) i=arS l (x+1):=λx i h h2 h3=>by
   obtain rfl:i=(aC l x).length:=by omega
   rw[<-Mq (show x<l.length by omega)];rfl
  have st:∀x:Nat,aM (cc s l) x->ccA s (aC l x)=false->fe (aP x l) (fK (aC l x))=false->aM (cc s l) (x+1):=λx h h1 h2=>bz h ⟨h1,h2⟩;have yE:¬¬eOf s=0->∀x:Nat,aM (cc s l) x->¬(x:Int)<l.length->x<=l.length->decide (arS l x=(if ak s=true then nA s else 0))=kn s l:=λh x h3 h1 h2=>by
   obtain rfl:x=l.length:=by omega
   unfold kn;rw[if_pos (hvP h),hvP h,show((bQ l.length).all λi=> !ccA s (aC l i)&& !ccB l i)=true from bk.2 λi hi=>by obtain⟨g1,g2⟩:=h3 i (cG.1 hi);grind]
   simp
  clear V nr bS hvP R
  repeat' first|with_reducible apply bl|with_reducible intro
  all_goals repeat with_reducible cases‹_/\aM _ _›
  all_goals first|rfl|with_reducible solve_by_elim|with_reducible rfl|(with_reducible exact c0 ‹_›)|(with_reducible exact he ‹_›)|(with_reducible exact(hw ‹_› _ ‹_›).1)|(with_reducible exact(hw ‹_› _ ‹_›).2)|(with_reducible exact hr _ ‹_›)|(with_reducible exact hr6 _ ‹_›)|(with_reducible exact a1 _ ‹_›)|(with_reducible exact a3 _ ‹_›)|(with_reducible exact a4 _ ‹_› ‹_›)|(with_reducible exact tO _ ‹_› ‹_›)|(with_reducible exact tO2 _ ‹_› ‹_›)|(with_reducible exact tO3 _ ‹_› ‹_› _ ‹_›)|(with_reducible exact tl _)|(with_reducible exact no _ (.inl ‹_›) ‹_›)|(with_reducible exact no _ (.inr ‹_›) ‹_›)|(with_reducible first|exact sS _ _|exact z2 _)|exact z0.symm|(with_reducible exact yE ‹_› _ ‹_› ‹_› ‹_›)|grind)
noncomputable def t43:=t86.adk k43
def mmC(r o:aH):Bool:=dY r&&(dY o&&fK r o)
def mmR(a b:List aH)(i:Nat):Bool:=b.any λo=>mmC (aC a i) o
noncomputable def c46:Con:=con (ac (aL .R) (a1 (aL .R))) (λ(a,b)=>[a.length<=1000,(∀r∈a,r.length<=1000),b.length<=1000,(∀r∈b,r.length<=1000)]) (λ(a,b)=> .bool (aE8 a b))
def k46:c46.Okz 46:=ag t43 (λ(a,b)=>[lp 2 11 a.length (λi=>[aM (λi=>mmR a b i=false) i]) [] bW bW λi=>[cnt 5 17 b.length (aM λk=>mmC (aC a i) (aC b k)=false) λk=>[jb 8 31 (mmC (aC a i) (aC b k))]]]
  ) (λ(_,_)=>⟨_,rfl⟩) λ(a,b) hp=>aY ((0=(0:Int)/\(0:Nat)<=a.length/\aM (λi=>mmR a b i=false) 0)/\
 (∀x:Nat,aA (x:Int) λA=>aA (aC a x) λC=>x<=a.length/\aM (λi=>mmR a b i=false) x->(A<a.length->ix A a.length/\(0=(0:Int)/\(0:Nat)<=b.length/\aM (λk=>mmC C (aC b k)=false) 0)/\
   (∀x_1:Nat,aA (x_1:Int) λB=>aA (aC b x_1) λD=>x_1<=b.length/\aM (λk=>mmC C (aC b k)=false) x_1->(B<b.length->ix B b.length/\(C.length<=1000/\(dY C=true->D.length<=1000/\(dY D=true->ROk C/\ROk D/\fK C D=mmC C D)/\
       (dY D=false->false=mmC C D))/\
      (dY C=false->false=mmC C D))/\
     (∀y:Unit,(mmC C D=true->true=aE8 a b)/\
      (mmC C D=false->aE (B+1)/\B+1=((x_1+1:Nat):Int)/\x_1+1<=b.length/\aM (λk=>mmC C (aC b k)=false) (x_1+1)/\b.length-(x_1+1)<b.length-x_1)))/\
    (¬B<b.length->aE (A+1)/\A+1=((x+1:Nat):Int)/\x+1<=a.length/\aM (λi=>mmR a b i=false) (x+1)/\a.length-(x+1)<a.length-x)))/\
  (¬A<a.length->false=aE8 a b))) (by kernel_rfl) (by
  change a.length<=1000/\((∀r∈a,r.length<=1000))/\b.length<=1000/\((∀r∈b,r.length<=1000))at hp;obtain⟨hla,ha,hlb,hb⟩:=hp;have la:∀x:Nat,(x:Int)<a.length->(aC a x).length<=1000:=λx h=>ha _ (gD (by omega));have lb:∀x:Nat,(x:Int)<b.length->(aC b x).length<=1000:=λx h=>hb _ (gD (by omega));have oa:∀x:Nat,dY (aC a x)=true->(x:Int)<a.length->ROk (aC a x):=λx h h2=>BR h (la x h2);have ob:∀x:Nat,dY (aC b x)=true->(x:Int)<b.length->ROk (aC b x):=λx h h2=>BR h (lb x h2);have m1:∀r o:aH,dY r=true->dY o=true->fK r o=mmC r o:=λr o h1 h2=>by unfold mmC;grind
  have m2:∀r o:aH,dY o=false->false=mmC r o:=λr o h=>by unfold mmC;rw[h];simp
  have m3:∀r o:aH,dY r=false->false=mmC r o:=λr o h=>by unfold mmC;rw[h];rfl
  have m4:∀r o:aH,dY r=true->dY o=true->(!GE r o)=mmC r o:=λr o h1 h2=>by rw[<-m1 r o h1 h2,Ty (CR.of h1) (CR.of h2)]
  have v9:∀r:aH,∀v,v∈r->dY r=true->bd 1000000000 v:=λr v hv h=>(Dr ((CR.of h).near v hv)).mono;have yes:∀x y:Nat,mmC (aC a x) (aC b y)=true->(x:Int)<a.length->(y:Int)<b.length->true=aE8 a b:=λx y h h1 h2=>
   (l0.2 ⟨_,gD (show x<a.length by omega),l0.2 ⟨_,gD (show y<b.length by omega),h⟩⟩).symm
  have st:∀x y:Nat,aM (λk=>mmC (aC a x) (aC b k)=false) y->¬(y:Int)<b.length->y<=b.length->mmR a b x=false:=λx y h h1 h2=>by
   obtain rfl:y=b.length:=by omega
   exact Gk (t:= .R) (l:=b) (q:=λo=>mmC (aC a x) o) h
  have fin:∀x:Nat,aM (λi=>mmR a b i=false) x->¬(x:Int)<a.length->x<=a.length->false=aE8 a b:=λx h h1 h2=>by
   obtain rfl:x=a.length:=by omega
   exact(Gk (t:= .R) (l:=a) (q:=λr=>b.any λo=>dY r&&(dY o&&fK r o)) h).symm
  with_reducible ((repeat' first|apply bl|intro);all_goals repeat cases‹_/\_›)
  all_goals first|rfl|with_reducible solve_by_elim|(with_reducible first|assumption|rfl)|exact bz ‹_› (st _ _ ‹_› ‹_› ‹_›)|grind)
noncomputable def t46:=t43.adk k46
def rfP(k:Nat)(r:aH)(i:Nat):Bool:=(decide (k=0)&&decide (turn (aEY r ((i+r.length-1) % r.length)) (aEY r i) (aEY r ((i+1) % r.length))<0))||(decide (0<k)&&decide (0<turn (aEY r ((i+r.length-1) % r.length)) (aEY r i) (aEY r ((i+1) % r.length))))
def rfR(k:Nat)(r:aH)(i:Nat):Nat:=((bQ i).filter (rfP k r)).length
def rfS(R:List aH):Nat->Nat
 |0=>0
 |k+1=>rfS R k+rfR k (aC R k) (aC R k).length
def lm(s:Shape):Nat:=if ak s=true then rfS (aD s) (aD s).length else 0
noncomputable def c53:Con:=con (a1 aSh) (λs=>[Fit s]) (λs=> .iqz (lm s:Nat))
def k53:c53.Okz 53:=ag t46 (λs=>[lp 5 15 (aD s).length bW [] (λk=>[(3,.iqz (rfS (aD s) k:Nat))]) bW λk=>[lp 8 22 (aC (aD s) k).length bW [] (λi=>[(3,.iqz (rfS (aD s) k+rfR k (aC (aD s) k) i:Nat))]) bW λi=>[jb 12 61 (rfP k (aC (aD s) k) i),jU 13 [(3,.iqz (rfS (aD s) k+rfR k (aC (aD s) k) (i+1):Nat))]]]]
  ) (λ_=>⟨_,rfl⟩) λs hp=>aY (aA (0:Nat) λC=>aA (aD s) λE=>aA (!ak s) λL=>Fit s/\(L=true->0=(lm s:Int))/\
 (L=false->Fit s/\C<s.outer.length/\(∀r:aH,r∈s.holes->C<r.length)/\(0=(0:Int)/\0=(rfS E 0:Int)/\C<=E.length)/\
  (∀x:Nat,aA (x:Int) λA=>aA (aC E x) λF=>aA (rfS E x:Int) λJ=>aA (F.length:Int) λK=>x<=E.length->(A<E.length->ix A E.length/\(0=(0:Int)/\J=((rfS E x+rfR x F 0:Nat):Int)/\C<=F.length)/\
    (∀x_1:Nat,aA (x_1+1) λB=>aA (x_1:Int) λD=>aA (aEY F (B % F.length)) λH=>aA (aEY F x_1) λI=>aA (D+F.length-1) λM=>aA (cD M K) λN=>aA (aEY F N.toNat) λO=>aA ((rfS E x+rfR x F B:Nat):Int) λQ=>aA ((rfS E x+rfR x F x_1:Nat):Int) λS=>x_1<=F.length->(D<F.length->(ix D F.length/\aE (D+F.length)/\aE M/\K≠0/\ix N F.length/\aE (D+1)/\K≠0/\ix ((B % F.length:Nat):Int) F.length/\bd 1000000000 O/\bd 1000000000 I/\bd 1000000000 H/\((A=0->(turn O I H<0->true=rfP x F x_1)/\
         (¬turn O I H<0->(0<A->decide (0<turn O I H)=rfP x F x_1)/\
          (¬0<A->false=rfP x F x_1)))/\
        (¬A=0->(0<A->decide (0<turn O I H)=rfP x F x_1)/\
         (¬0<A->false=rfP x F x_1)))/\
       (∀y:Unit,(rfP x F x_1=true->aE (S+1)/\S+1=Q)/\
        (rfP x F x_1=false->S=Q)))/\
      (∀y:Unit,aE (D+1)/\D+1=((x_1+1:Nat):Int)/\Q=Q/\x_1+1<=F.length/\F.length-B<F.length-x_1))/\
     (¬D<F.length->aE (A+1)/\A+1=((x+1:Nat):Int)/\S=rfS E (x+1)/\x+1<=E.length/\E.length-(x+1)<E.length-x)))/\
   (¬A<E.length->J=lm s)))) (by kernel_rfl) (by
  change Fit s at hp;have V:(!ak s)=false->VS s:=λh=>(nt s).1 (nb h);have lR:(aD s).length<=2000:=by have:=hp.2.1;unfold aD;rw[gk];omega
  have e0:(!ak s)=true->0=(lm s:Int):=λh=>by unfold lm;grind
  have o1:(!ak s)=false->0<s.outer.length:=λh=>by have:=(V h).outer.three;omega
  have o2:(!ak s)=false->∀r∈s.holes,0<r.length:=λh r hr=>by have:=((V h).ring (show r∈aD s from cE _ hr)).three;omega
  have rg:(!ak s)=false->∀x:Nat,(x:Int)<(aD s).length->VR (aC (aD s) x):=λh x hx=>(V h).ring (gD (by omega));have l40:(!ak s)=false->∀x:Nat,(x:Int)<(aD s).length->(aC (aD s) x).length<=40:=λh x hx=>(rg h x hx).most;have tm:∀x i:Nat,(i:Int)<(aC (aD s) x).length->cD ((i:Int)+(aC (aD s) x).length-1) ((aC (aD s) x).length:Int)=(((i+(aC (aD s) x).length-1) % (aC (aD s) x).length:Nat):Int):=λx i h=>by grind
  have x1:∀x i:Nat,(i:Int)<(aC (aD s) x).length->ix (cD ((i:Int)+(aC (aD s) x).length-1) ((aC (aD s) x).length:Int)) (aC (aD s) x).length:=λx i h=>by rw[tm x i h];exact dQ (bq _ (by omega))
  have x2:∀x i:Nat,(i:Int)<(aC (aD s) x).length->ix (((i+1) % (aC (aD s) x).length:Nat):Int) (aC (aD s) x).length:=λx i h=>dQ (bq _ (by omega));have bN:(!ak s)=false->∀x:Nat,(x:Int)<(aD s).length->∀i:Nat,i<(aC (aD s) x).length->bd 1000000000 (aEY (aC (aD s) x) i):=λh x hx i hi=>lQ (rg h x hx).near hi (by decide);have b1:(!ak s)=false->∀x i:Nat,(i:Int)<(aC (aD s) x).length->(x:Int)<(aD s).length->bd 1000000000 (aEY (aC (aD s) x) (cD ((i:Int)+(aC (aD s) x).length-1) ((aC (aD s) x).length:Int)).toNat):=λh x i hi hx=>by rw[tm x i hi,iF];exact bN h x hx _ (bq _ (by omega))
  have b2:(!ak s)=false->∀x i:Nat,(i:Int)<(aC (aD s) x).length->(x:Int)<(aD s).length->bd 1000000000 (aEY (aC (aD s) x) i):=λh x i hi hx=>bN h x hx i (by omega);have b3:(!ak s)=false->∀x i:Nat,(i:Int)<(aC (aD s) x).length->(x:Int)<(aD s).length->bd 1000000000 (aEY (aC (aD s) x) ((i+1) % (aC (aD s) x).length)):=λh x i hi hx=>bN h x hx _ (bq _ (by omega));have p1:∀x i:Nat,(i:Int)<(aC (aD s) x).length->(x:Int)=0->turn (aEY (aC (aD s) x) (cD ((i:Int)+(aC (aD s) x).length-1) ((aC (aD s) x).length:Int)).toNat) (aEY (aC (aD s) x) i) (aEY (aC (aD s) x) ((i+1) % (aC (aD s) x).length))<0->true=rfP x (aC (aD s) x) i:=λx i h h2 h3=>by rw[tm x i h,iF]at h3;unfold rfP;grind
  have p2:∀x i:Nat,(i:Int)<(aC (aD s) x).length->0<(x:Int)->decide (0<turn (aEY (aC (aD s) x) (cD ((i:Int)+(aC (aD s) x).length-1) ((aC (aD s) x).length:Int)).toNat) (aEY (aC (aD s) x) i) (aEY (aC (aD s) x) ((i+1) % (aC (aD s) x).length)))=rfP x (aC (aD s) x) i:=λx i h h2=>by rw[tm x i h,iF];unfold rfP;rw[decide_eq_false (show¬x=0 by omega),decide_eq_true (show 0<x by omega)];simp
  have p3:∀x i:Nat,(i:Int)<(aC (aD s) x).length->¬turn (aEY (aC (aD s) x) (cD ((i:Int)+(aC (aD s) x).length-1) ((aC (aD s) x).length:Int)).toNat) (aEY (aC (aD s) x) i) (aEY (aC (aD s) x) ((i+1) % (aC (aD s) x).length))<0->¬0<(x:Int)->false=rfP x (aC (aD s) x) i:=λx i h h3 h2=>by rw[tm x i h,iF]at h3;unfold rfP;grind
  have p4:∀x i:Nat,¬(x:Int)=0->¬0<(x:Int)->false=rfP x (aC (aD s) x) i:=λx i h h2=>by omega
  have q1:∀x i:Nat,rfP x (aC (aD s) x) i=true->rfR x (aC (aD s) x) (i+1)=rfR x (aC (aD s) x) i+1:=λx i h=>by unfold rfR;rw[qS,pI,List.filter_cons_of_pos h,eW];rfl
  have q2:∀x i:Nat,rfP x (aC (aD s) x) i=false->rfR x (aC (aD s) x) (i+1)=rfR x (aC (aD s) x) i:=λx i h=>by unfold rfR;rw[qS,pI,List.filter_cons_of_neg (by rw[h];simp)];simp
  have q3:∀x i:Nat,rfR x (aC (aD s) x) i<=i:=λx i=>by have:=yt (rfP x (aC (aD s) x)) (bQ i);rw[yf]at this;exact this
  have q4:(!ak s)=false->∀x:Nat,x<=(aD s).length->rfS (aD s) x<=40*x:=λh x=>by
   induction x with
   |zero=>intro _;exact bI _
   |succ x ih=>
    intro hx;have h1:=ih (by omega);have h2:=q3 x (aC (aD s) x).length;have h3:=l40 h x (by omega);show rfS (aD s) x+rfR x (aC (aD s) x) (aC (aD s) x).length<=_;omega
  have w1:(!ak s)=false->∀x i:Nat,(i:Int)<(aC (aD s) x).length->(x:Int)<(aD s).length->aE (((rfS (aD s) x+rfR x (aC (aD s) x) i:Nat):Int)+1):=λh x i hi hx=>by have h1:=q4 h x (by omega);have h2:=q3 x i;have h3:=l40 h x hx;exact bD (by omega)
  have w2:(!ak s)=false->∀x i:Nat,(i:Int)<(aC (aD s) x).length->(x:Int)<(aD s).length->aE ((i:Int)+(aC (aD s) x).length)/\aE ((i:Int)+(aC (aD s) x).length-1)/\aE ((i:Int)+1):=λh x i hi hx=>by have h3:=l40 h x hx;exact⟨bD (by omega),bD (by omega),bD (by omega)⟩
  have w3:∀x:Nat,(x:Int)<(aD s).length->aE ((x:Int)+1):=λx hx=>bD (by omega);have s1:∀x i:Nat,rfP x (aC (aD s) x) i=true->((rfS (aD s) x+rfR x (aC (aD s) x) i:Nat):Int)+1=((rfS (aD s) x+rfR x (aC (aD s) x) (i+1):Nat):Int):=λx i h=>by grind
  have s2:∀x i:Nat,rfP x (aC (aD s) x) i=false->((rfS (aD s) x+rfR x (aC (aD s) x) i:Nat):Int)=((rfS (aD s) x+rfR x (aC (aD s) x) (i+1):Nat):Int):=λx i h=>by rw[q2 x i h]
  have s3:∀x i:Nat,¬(i:Int)<(aC (aD s) x).length->i<=(aC (aD s) x).length->((rfS (aD s) x+rfR x (aC (aD s) x) i:Nat):Int)=rfS (aD s) (x+1):=λx i h h2=>by
   obtain rfl:i=(aC (aD s) x).length:=by omega
   rfl
  have s4:(!ak s)=false->∀x:Nat,¬(x:Int)<(aD s).length->x<=(aD s).length->(rfS (aD s) x:Int)=lm s:=λh x h1 h2=>by
   obtain rfl:x=(aD s).length:=by omega
   unfold lm;grind
  have s5:∀x:Nat,(rfS (aD s) x:Int)=((rfS (aD s) x+rfR x (aC (aD s) x) 0:Nat):Int):=λx=>rfl;clear V rg bN tm q1 q2 q3 q4
  repeat' first|with_reducible apply bl|with_reducible intro
  all_goals repeat with_reducible cases‹_/\_›
  all_goals first|rfl|with_reducible solve_by_elim|(with_reducible first|assumption|rfl|exact o2 ‹_› _ ‹_› |exact b1 ‹_› _ _ ‹_› ‹_› |exact b2 ‹_› _ _ ‹_› ‹_› |exact b3 ‹_› _ _ ‹_› ‹_› |exact w1 ‹_› _ _ ‹_› ‹_› |exact(w2 ‹_› _ _ ‹_› ‹_›).1|exact(w2 ‹_› _ _ ‹_› ‹_›).2.1|exact(w2 ‹_› _ _ ‹_› ‹_›).2.2|exact s4 ‹_› _ ‹_› ‹_› |exact s5 _)|omega|(unfold ix;omega)|(unfold aE;omega))
noncomputable def t53:=t46.adk k53
def sqR:aH:=[⟨0,0⟩,⟨3,0⟩,⟨3,3⟩,⟨0,3⟩]
def awR:aH:=[⟨0,0⟩,⟨2,1⟩,⟨4,0⟩,⟨2,4⟩]
instance(lt:Int->Int->Bool)(l:List Int):Decidable (OrdOn lt l):=decidable_of_iff ((∀x∈l,∀y∈l,∀z∈l,lt x y=true->lt y z=true->lt x z=true)/\(∀x∈l,∀y∈l,lt x y=true->lt y x=false)/\(∀x∈l,∀y∈l,lt x y=false->lt y x=false->x=y)) ⟨λh=>⟨h.1,h.2.1,h.2.2⟩,λh=>⟨h.1,h.2,h.3⟩⟩
instance(v:List V)(L:List (List Int))(i j:Nat):Decidable (ArOk v L i j):=decidable_of_iff (i<L.length/\(j:Int)∈ai L i/\(∀x∈ai L i,0<=x/\x.toNat<v.length)/\(ai L i).length<=1000000) ⟨λh=>⟨h.1,h.2.1,h.2.2.1,h.2.2.2⟩,λh=>⟨h.1,h.2,h.3,h.4⟩⟩
instance(s:Shape):Decidable (GOk s):=inferInstanceAs (Decidable (∀k,k<(vOf s).length->0<(ai (oD s) k).length/\(∀x∈ai (oD s) k,0<=x/\x.toNat<(vOf s).length)/\OrdOn (ltA (vOf s) k) (ai (oD s) k)))
instance(s:Shape):Decidable (SOk s):=inferInstanceAs (Decidable (∀k,k<(pG s).length->ArOk (vOf s) (sG s k).1 (aZ (pG s) k).1 (aZ (pG s) k).2/\ArOk (vOf s) (sG s k).1 (aZ (pG s) k).2 (aZ (pG s) k).1/\(aZ (pG s) k).2≠(aZ (pG s) k).1))
def PcB(s:Shape):Prop:=(∀i,i<(soG s).length->∀x∈ai (soG s) i,ArOk (vOf s) (soG s) i x.toNat/\ArOk (vOf s) (soG s) x.toNat i)/\(∀h∈hsG s,ArOk (vOf s) (soG s) h.2 h.1)/\(∀i,i<(vOf s).length->0<=cv (nG s) i)/\
 ∀k,k<(hsG s).length->0<(trc (vOf s) (soG s) (trU (vOf s)) (pcK s k).1 (aZ (hsG s) k) []).2.length->(trc (vOf s) (soG s) (trU (vOf s)) (pcK s k).1 (aZ (hsG s) k) []).2.length<=1000/\0<(c5 (trc (vOf s) (soG s) (trU (vOf s)) (pcK s k).1 (aZ (hsG s) k) []).2).length
def PcB.ok{s:Shape}(h:PcB s):o9 s:=by
 refine⟨λi j hj=> ?_,h.2⟩;have hi:i<(soG s).length:=by
  rcases Nat.lt_or_ge i (soG s).length with h1|h1
  .exact h1
  .unfold ai at hj;grind
 have:=h.1 i hi _ hj;grind
instance(s:Shape):Decidable (PcB s):=by unfold PcB;infer_instance
def sqS:Shape:=⟨sqR,[]⟩
def awS:Shape:=⟨awR,[]⟩
def Gs:GOk sqS/\SOk sqS/\PcB sqS:=by decide+kernel
def HH:GOk awS/\SOk awS/\PcB awS:=by decide+kernel
def Pd:ak sqS=true/\pcG sqS=[sqR] :=by decide+kernel
def P2:ak awS=true/\pcG awS=[[⟨0,0⟩,⟨2,1⟩,⟨2,4⟩],[⟨4,0⟩,⟨2,4⟩,⟨2,1⟩]] :=by decide+kernel
def HI:kn awS [[⟨0,0⟩,⟨2,1⟩,⟨2,4⟩],[⟨4,0⟩,⟨2,4⟩,⟨2,1⟩]] =true/\aE8 [sqR] [[⟨0,0⟩,⟨2,1⟩,⟨2,4⟩],[⟨4,0⟩,⟨2,4⟩,⟨2,1⟩]] =true/\lm awS=1:=by decide+kernel
def aAs:Fit sqS:=⟨by decide,by decide,λr h=>(cn h).elim⟩
def Gj:Fit awS:=⟨by decide,by decide,λr h=>(cn h).elim⟩
def aBa:eV sqS=0:=by unfold eV;rw[Pd.1];rfl
def aBB:eV awS=0:=by unfold eV;rw[P2.1];rfl
noncomputable def c41:Con:=con (a0) (λ_=>[]) (λ_=> .bool true)
def k41:c41.Okz 41:=ag t53 (λ_=>[(10002,.mk Unit (λ_ _=>some ()) [] bW (λ_=>[(1,.lst .V sqR)]) bW (λ_=>0) bW),(10003,.mk Unit (λ_ _=>some ()) [7] bW (λ_=>[(2,.ptr 7 0)]) (λ_=>[(7,.box 26 [.lst .V awR,.nil])]) (λ_=>0) bW)]
  ) (λ_=>⟨_,rfl⟩) λ_ _=>aY ([(⟨0,0⟩:V),(⟨3,0⟩:V),(⟨3,3⟩:V),(⟨0,3⟩:V)] =sqR/\
 (∀y:Unit,[(⟨0,0⟩:V),(⟨2,1⟩:V),(⟨4,0⟩:V),(⟨2,4⟩:V)] =awR/\
  (∀y_1:Unit,Fit (⟨sqR,([] :List (List V))⟩:Shape)/\(ak (⟨sqR,([] :List (List V))⟩:Shape)=true->GOk (⟨sqR,([] :List (List V))⟩:Shape)/\SOk (⟨sqR,([] :List (List V))⟩:Shape)/\o9 (⟨sqR,([] :List (List V))⟩:Shape))/\Fit (⟨awR,([] :List (List V))⟩:Shape)/\(ak (⟨awR,([] :List (List V))⟩:Shape)=true->GOk (⟨awR,([] :List (List V))⟩:Shape)/\SOk (⟨awR,([] :List (List V))⟩:Shape)/\o9 (⟨awR,([] :List (List V))⟩:Shape))/\(eV (⟨sqR,([] :List (List V))⟩:Shape)=0->(eV (⟨awR,([] :List (List V))⟩:Shape)=0->(pcG (⟨sqR,([] :List (List V))⟩:Shape)).length<=1000000/\(∀r:aH,r∈pcG (⟨sqR,([] :List (List V))⟩:Shape)->r.length<=100000)/\((pcG (⟨sqR,([] :List (List V))⟩:Shape)==[sqR])=true->(((pcG (⟨awR,([] :List (List V))⟩:Shape)).length:Int)=2->Fit (⟨awR,([] :List (List V))⟩:Shape)/\(pcG (⟨awR,([] :List (List V))⟩:Shape)).length<=1000/\(∀r:aH,r∈pcG (⟨awR,([] :List (List V))⟩:Shape)->r.length<=1000)/\(kn (⟨awR,([] :List (List V))⟩:Shape) (pcG (⟨awR,([] :List (List V))⟩:Shape))=true->(pcG (⟨sqR,([] :List (List V))⟩:Shape)).length<=1000/\(∀r:aH,r∈pcG (⟨sqR,([] :List (List V))⟩:Shape)->r.length<=1000)/\(pcG (⟨awR,([] :List (List V))⟩:Shape)).length<=1000/\(∀r:aH,r∈pcG (⟨awR,([] :List (List V))⟩:Shape)->r.length<=1000)/\(aE8 (pcG (⟨sqR,([] :List (List V))⟩:Shape)) (pcG (⟨awR,([] :List (List V))⟩:Shape))=true->Fit (⟨awR,([] :List (List V))⟩:Shape)/\decide ((lm (⟨awR,([] :List (List V))⟩:Shape):Int)=1)=true)/\
        (aE8 (pcG (⟨sqR,([] :List (List V))⟩:Shape)) (pcG (⟨awR,([] :List (List V))⟩:Shape))=false->false=true))/\
       (kn (⟨awR,([] :List (List V))⟩:Shape) (pcG (⟨awR,([] :List (List V))⟩:Shape))=false->false=true))/\
      (¬((pcG (⟨awR,([] :List (List V))⟩:Shape)).length:Int)=2->false=true))/\
     ((pcG (⟨sqR,([] :List (List V))⟩:Shape)==[sqR])=false->false=true))/\
    (¬eV (⟨awR,([] :List (List V))⟩:Shape)=0->false=true))/\
   (¬eV (⟨sqR,([] :List (List V))⟩:Shape)=0->false=true)))) (by kernel_rfl) (by
  rw[show(⟨sqR,([] :List (List V))⟩:Shape)=sqS from rfl,show(⟨awR,([] :List (List V))⟩:Shape)=awS from rfl,aBa,aBB,Pd.2,P2.2,HI.1,HI.2.1,HI.2.2];have lo:∀n:Nat,4<=n->∀r∈([[⟨0,0⟩,⟨2,1⟩,⟨2,4⟩],[⟨4,0⟩,⟨2,4⟩,⟨2,1⟩]] :List aH),r.length<=n:=λn hn r hr=>by grind
  have lq:∀n:Nat,4<=n->∀r∈[sqR],r.length<=n:=λn hn r hr=>by rw[bi.1 hr];exact hn
  refine⟨rfl,λ_=>⟨rfl,λ_=>⟨aAs,λ_=>⟨Gs.1,Gs.2.1,Gs.2.2.ok⟩,Gj,λ_=>⟨HH.1,HH.2.1,HH.2.2.ok⟩,⟨λ_=>⟨λ_=>⟨by decide,lq _ (by decide),⟨λ_=>⟨λ_=>⟨Gj,by decide,lo _ (by decide),⟨λ_=>⟨by decide,lq _ (by decide),by decide,lo _ (by decide),⟨λ_=>⟨Gj,by decide⟩,λh=>(by cases h)⟩⟩,λh=>(by cases h)⟩⟩,λh=>absurd (by decide) h⟩,λh=>absurd h (by decide)⟩⟩,λh=>absurd rfl h⟩,λh=>absurd rfl h⟩⟩⟩⟩)
section
open Go.ChangeShapes Go.WideShapes Go.ChangeAt Go.RowKit Go.Joins Go.Deep
def Tryz.own:ownKnob bE.godebug=none:=by kernel_rfl
def Tryz.laidOut:laidOutB bE=true:=by kernel_rfl
def aAa:bE.cellsOf 26=2:=by kernel_rfl
def Z9:bE.cellsOf 44=2:=by kernel_rfl
def aAb:bE.cellsOf 23=1:=by kernel_rfl
def aAd:bE.bytesOf 44=16:=by kernel_rfl
def aAe:bE.bytesOf 23=24:=by kernel_rfl
def KN{C:bG}:∀(l:List aEZ) (b o:Nat),(∀i (h:i<l.length),C b (o+i*2) (.int .i64 l[i].x)/\C b (o+i*2+1) (.int .i64 l[i].y))->cP C (fZ l) b o
 |[],b,o,_=>by show cP C [] b o;unfold cP;trivial
 |v::l,b,o,h=>by
  show cP C (.int .i64 v.x:: .int .i64 v.y::fZ l) b o;have h0:=h 0 (by simp);unfold cP;refine⟨⟨_,by simpa using h0.1,rfl,by unfold aX;rfl⟩,?_⟩;unfold cP;refine⟨⟨_,by simpa using h0.2,rfl,by unfold aX;rfl⟩,?_⟩;refine KN l b (o+1+1) λi hi=> ?_;have:=h (i+1) (by grind);grind
def JU{C:bG}:∀(l:List aH) (b o:Nat),(∀i (h:i<l.length),∃u,C b (o+i) u/\u.oneCell'=true/\aX C (gR l[i]) u)->cP C (l.map gR) b o
 |[],b,o,_=>by simp only[List.map_nil];unfold cP;trivial
 |r::l,b,o,h=>by
  simp only[dB];unfold cP;refine⟨h 0 (by simp),JU l b (o+1) λi hi=> ?_⟩;have:=h (i+1) (by grind);grind
section
variable {H:Type} {enc:TypeId×Value->H} {w:World} {base:Nat} {spare:Nat->Bool} {held:Bool}
def KV{fuel:Nat}{v:Value}{y:DataW H×List MemPlace}(h:DataW.trod enc bE w base spare held fuel 23 [v] =some y):
  ∃r:aH,aX (nO w) (gR r) v/\v.oneCell'=true/\∀B,(∀n∈ml bE 23 y.1,n<=B)->r.length*16<=B:=by
 rcases open_slice_pairs Sd Tryz.underlying44 Z9 rfl rfl (by kernel_rfl) (by kernel_rfl) h with⟨h1,h2⟩|⟨a,len,cap,m,n,V0,V1,D0,D1,P0,P1,h1,_,hl,_,hm,hx,hc⟩
 .simp only[pP,and_true]at h1;subst h1;refine⟨[],?_,rfl,λB _=>by simp⟩;unfold gR aX;exact⟨none,0,rfl,bI _,λ_=>⟨rfl,rfl⟩,λad e=>by cases e⟩
 .simp only[pP,and_true]at h1;subst h1;have hlm:len<=m:=by rw[hm];split<;>omega
  have hint:∀i,i<m->∃p:Int×Int,V0 i= .int .i64 p.1/\V1 i= .int .i64 p.2:=by intro i hi;obtain⟨_,_,g3,g4⟩:=hc i hi;obtain⟨p,hp,_⟩:=DataW.trod_int rY g3;obtain⟨q,hq,_⟩:=DataW.trod_int rY g4;simp only[pP,and_true]at hp hq;exact⟨(p,q),hp,hq⟩
  obtain⟨f,hf⟩:=choose_lt (α:=Int×Int) (p:=λi p=>V0 i= .int .i64 p.1/\V1 i= .int .i64 p.2) hint;refine⟨(bQ len).map λi=>⟨(f i).1,(f i).2⟩,?_,rfl,λB hB=> ?_⟩
  .unfold gR aX;refine⟨some a,cap,by simp,by grind,(λe=>by cases e),λad e=> ?_⟩;cases e;refine⟨λhpos=> ?_,KN _ _ _ λi hi=> ?_⟩
   .have h0:=(hc 0 (by grind)).1;simpa[Cj]using IZ h0
   .simp only[da,yf]at hi;obtain⟨g1,g2,_⟩:=hc i (by omega);obtain⟨e0,e1⟩:=hf i (by omega);have hs:a.spot=none:=by simpa[Cj]using IZ (hc 0 (by omega)).1
    obtain⟨b,off,sp⟩:=a;dsimp only at hs;subst hs;rw[e0]at g1;rw[e1]at g2;simp only[jG,qO];unfold nO;rw[vj]at g1 g2;grind
  .have:=hB ((len+(m-len))*16) (by rw[hx];simp[ml,Sd,aAd]);grind
def Uq{fuel:Nat}{v:Value}{y:DataW H×List MemPlace}(h:DataW.trod enc bE w base spare held fuel 24 [v] =some y):
  ∃l:List aH,aX (nO w) (oR l) v/\v.oneCell'=true/\∀B,(∀n∈ml bE 24 y.1,n<=B)->l.length*24<=B/\∀r∈l,r.length*16<=B:=by
 rcases open_slice1 Cu aAb h with⟨h1,h2⟩|⟨a,len,cap,m,n,V,D,Pl,h1,_,hl,_,hm,hx,hc⟩
 .simp only[pP,and_true]at h1;subst h1;refine⟨[],?_,rfl,λB _=>⟨by simp,λr hr=>by cases hr⟩⟩;unfold oR aX;grind
 .simp only[pP,and_true]at h1;subst h1;have hlm:len<=m:=by rw[hm];split<;>omega
  have hring:∀i,i<m->∃r:aH,aX (nO w) (gR r) (V i)/\(V i).oneCell'=true/\∀B,(∀n∈ml bE 23 (D i),n<=B)->r.length*16<=B:=λi hi=>KV (hc i hi).2;obtain⟨f,hf⟩:=choose_lt (α:=aH) (p:=λi r=>aX (nO w) (gR r) (V i)/\(V i).oneCell'=true/\∀B,(∀n∈ml bE 23 (D i),n<=B)->r.length*16<=B) hring;refine⟨(bQ len).map f,?_,rfl,λB hB=> ?_⟩
  .unfold oR aX;refine⟨some a,cap,by simp,by grind,(λe=>by cases e),λad e=> ?_⟩;cases e;refine⟨λhpos=> ?_,JU _ _ _ λi hi=> ?_⟩
   .have h0:=(hc 0 (by grind)).1;simpa[Cj]using IZ h0
   .simp only[da,yf]at hi;have g1:=(hc i (by omega)).1;have hs:a.spot=none:=by simpa[Cj]using IZ (hc 0 (by omega)).1
    obtain⟨b,off,sp⟩:=a;dsimp only at hs;subst hs;rw[vj]at g1;simp only[jG,qO];exact⟨V i,g1,(hf i (by omega)).2.1,(hf i (by omega)).1⟩
  .have hw:∀x,x∈ml bE 24 (DataW.slice ((bQ len).map D) ((bQ (m-len)).map λj=>D (len+j)))->x<=B:=by rw[hx]at hB;exact hB
   have hmem:∀{l:List (DataW H)} {d:DataW H} {x:Nat},d∈l->x∈ml bE 23 d->x∈DataW.weightsAll bE 23 l:=by
    intro l;induction l with
    |nil=>grind
    |cons e l ih=>
     intro d x hd hx;simp only[DataW.weightsAll,bg];grind
   refine⟨?_,λr hr=> ?_⟩
   .have:=hw ((len+(m-len))*24) (by simp[ml,Cu,aAe]);grind
   .obtain⟨i,hi,rfl⟩:=bZ.1 hr;have hi:=cG.1 hi;refine(hf i (by omega)).2.2 B λx hx2=>hw x ?_;simp only[ml,Cu,bT,bg];grind
def Uo{r:Reach}{b0:Nat}{v:Value}{d:DataW H}{p:List MemPlace}(hv:Value.okWide bE w r b0 26 v)(h:DataW.Trod enc bE w base spare held 26 v d p)(hw:∀n∈ml bE 26 d,n<=reachBytes):
  ∃s:Shape,aX (nO w) (kS s) v/\qG s:=by
 obtain⟨v0,v1,y0,y1,n,rfl,rfl,_,h0,h1⟩:=open_agg2 Sf (by kernel_rfl) aAa hv h;obtain⟨ro,g1,g2,g3⟩:=KV h0;obtain⟨rs,g4,g5,g6⟩:=Uq h1;have hB:reachBytes<=140737488351232:=of_decide_eq_true (by kernel_rfl);have k1:=g3 reachBytes λx hx=>hw x (by simp only[ml,Sf,dB,Sh,bg];exact .inl hx);have k2:=g6 reachBytes λx hx=>hw x (by simp only[ml,Sf,dB,Sh,bg];grind);refine⟨⟨ro,rs⟩,?_,by grind,by grind,λq hq=>by grind⟩;unfold kS aX;refine⟨[v0,v1],rfl,?_,?_⟩
 .unfold az;refine⟨v0,[v1],rfl,g1,?_⟩;unfold az;exact⟨v1,[],rfl,g4,by unfold az;rfl⟩
 .intro u hu;grind
end
section
variable {H:Type} {enc:TypeId×Value->H} {w:World} {base:Nat} {spare:Nat->Bool} {held:Bool}
end
def aAy{f:FuncId}{xs:List SV}{r:SV}{B:List PV}{q:PV}(h:∃A q,avs xs=A.map .p/\r.av= .p q/\Sat bE false f A q)(hB:avs xs=B.map .p)(hq:r.av= .p q):Sat bE false f B q:=by
 obtain⟨A,q',h1,h2,h3⟩:=h;rw[hq]at h2;cases h2;rw[hB]at h1;have:B=A:=by have:=congrArg bM h1;rw[dU,dU]at this;cases this;rfl
 grind
def aBC(s:Shape):(aSh.enc s).av= .p (kS s):=by show eR [.p (.sl s.outer.length (fZ s.outer)),.p (.sl s.holes.length (LT.R.enc s.holes))] =_;rw[tG];rfl
end
def aA0{a b:V}(ha:bd 2000000000 a)(hb:bd 2000000000 b):(-4000000000000000000<=a.x*b.x/\a.x*b.x<=4000000000000000000)/\(-4000000000000000000<=a.y*b.y/\a.y*b.y<=4000000000000000000):=by unfold bd at ha hb;have h1:=gG (x:=a.x) (y:=b.x) (A:=2000000000) (B:=2000000000) (by omega) (by omega);have h2:=gG (x:=a.y) (y:=b.y) (A:=2000000000) (B:=2000000000) (by omega) (by omega);omega
noncomputable def aDt:Con:=con (ac aV (a1 aV)) (λ(a,b)=>[bd 2000000000 a,bd 2000000000 b]) (λ(a,b)=> .iqz (dot a b)
 )
def aBS:aDt.Okz 225:=ag tE (λ(_,_)=>[]) (λ(_,_)=>⟨_,rfl⟩) λ(a,b) hp=>aY (aE (a.x*b.x)/\aE (a.y*b.y)/\aE (a.x*b.x+a.y*b.y)/\a.x*b.x+a.y*b.y=dot a b) (by kernel_rfl) (by change bd 2000000000 a/\bd 2000000000 b at hp;have:=aA0 hp.1 hp.2;exact⟨bD (by omega),bD (by omega),bD (by omega),rfl⟩)
noncomputable def QF:=tE.adk aBS
noncomputable def aDG:Con:=con (ac aV (a1 aV)) (λ(a,b)=>[bd 2000000000 a,bd 2000000000 b]) (λ(a,b)=> .iqz (iq a b)
 )
def aB4:aDG.Okz 206:=ag QF (λ(_,_)=>[]) (λ(_,_)=>⟨_,rfl⟩) λ(a,b) hp=>aY (bd 2000000000 a/\bd 2000000000 b/\(0<cross a b->0=iq a b)/\
 (¬0<cross a b->(cross a b<0->2=iq a b)/\
  (¬cross a b<0->bd 2000000000 a/\bd 2000000000 b/\(dot a b<0->1=iq a b)/\
   (¬dot a b<0->3=iq a b)))) (by kernel_rfl) (by
  change bd 2000000000 a/\bd 2000000000 b at hp;obtain⟨ha,hb⟩:=hp;have e:iq a b=if 0<cross a b then 0 else if cross a b<0 then 2 else if dot a b<0 then 1 else 3:=rfl;grind)
noncomputable def QQ:=QF.adk aB4
noncomputable def aDU:Con:=con (ac aV (ac aV (a1 aV))) (λ(f,a,b)=>[bd 2000000000 f,bd 2000000000 a,bd 2000000000 b]) (λ(f,a,b)=> .bool (ip f a b)
 )
def aCi:aDU.Okz 178:=ag QQ (λ(_,_,_)=>[]) (λ(_,_,_)=>⟨_,rfl⟩) λ(f,a,b) hp=>aY (bd 2000000000 f/\bd 2000000000 a/\bd 2000000000 f/\bd 2000000000 b/\(iq f a<iq f b->true=ip f a b)/\
 (¬iq f a<iq f b->(iq f a=iq f b->bd 2000000000 a/\bd 2000000000 b/\decide (0<cross a b)=ip f a b)/\
  (¬iq f a=iq f b->false=ip f a b))) (by kernel_rfl) (by
  change bd 2000000000 f/\bd 2000000000 a/\bd 2000000000 b at hp;obtain⟨hf,ha,hb⟩:=hp;refine⟨hf,ha,hf,hb,λh=>by unfold ip;grind,λh=>⟨λh2=>⟨ha,hb,by unfold ip;grind⟩,λh2=>by unfold ip;grind⟩⟩)
noncomputable def Qd:=QQ.adk aCi
def nR(p:V)(e:S):List V:=if e.a=p then [e.b]else if e.b=p then [e.a]else []
def cQ(l:List S)(p:V):List V:=l.flatMap (nR p)
def Di{l:List S}{p:V}{x:Nat}(h:x<l.length):cQ (l.take (x+1)) p=cQ (l.take x) p++nR p (aK l x):=by unfold cQ;rw[iR h,pH,eZ h];simp
def Ye(p:V)(e:S):(nR p e).length<=1:=by unfold nR;grind
def ET(p:V):∀l:List S,(cQ l p).length<=l.length
 |[] =>bI _
 |e::l=>by
  have h1:=ET p l;have h2:=Ye p e;unfold cQ at*;grind
def Ku{l:List S}{p x:V}(h:x∈cQ l p):∃e∈l,x=e.a\/x=e.b:=by unfold cQ at h;obtain⟨e,he,hx⟩:=cZ.1 h;unfold nR at hx;grind
noncomputable def aDV:Con:=con (ac (aL .S) (a1 aV)) (λ(l,_)=>[l.length<=900000]) (λ(l,p)=> .lst .V (cQ l p))
def aCj:aDV.Okz 177:=ag Qd (λ(l,p)=>[lp 3 6 l.length bW [900] (λk=>[(5,.own 900 .V (cQ (l.take k) p).length)]) (λk=>[(900,.row 44 .V (cQ (l.take k) p))])]
  ) (λ(_,_)=>⟨_,rfl⟩) λ(l,p) hp=>aY (aA (aP 0 l) λJ=>(0=(0:Int)/\(cQ J p).length=0/\cQ J p=([] :List V)/\(0:Nat)<=l.length)/\
 (∀x:Nat,aA (x+1) λA=>aA (x:Int) λB=>aA (aK l x) λC=>aA ((x+1:Nat):Int) λE=>aA (aP x l) λF=>aA (cQ F p) λG=>aA (aP A l) λH=>aA (cQ H p) λI=>x<=l.length->(B<l.length->ix B l.length/\(C.a=p->ix B l.length/\G.length=G.length/\G.length+[C.b].length<=1000000/\aE (B+1)/\B+1=E/\(cQ F p++[C.b]).length=I.length/\cQ F p++[C.b] =cQ H p/\x+1<=l.length/\l.length-A<l.length-x)/\
   (¬C.a=p->ix B l.length/\(C.b=p->ix B l.length/\G.length=G.length/\G.length+[C.a].length<=1000000/\aE (B+1)/\B+1=E/\(cQ F p++[C.a]).length=I.length/\cQ F p++[C.a] =cQ H p/\x+1<=l.length/\l.length-A<l.length-x)/\
    (¬C.b=p->aE (B+1)/\B+1=E/\G.length=I.length/\cQ F p=cQ H p/\x+1<=l.length/\l.length-A<l.length-x)))/\
  (¬B<l.length->G.length=G.length/\cQ F p=cQ l p))) (by kernel_rfl) (by
  change l.length<=900000 at hp;have le:∀x:Nat,x<=l.length->(cQ (aP x l) p).length<=900000:=λx h=>by have:=ET p (aP x l);grind
  have a1:∀x:Nat,∀z:V,x<=l.length->(cQ (aP x l) p).length+[z].length<=1000000:=λx z h=>by grind
  have e1:∀x:Nat,(aK l x).a=p->(x:Int)<l.length->cQ (aP x l) p++[(aK l x).b] =cQ (aP (x+1) l) p:=λx h h2=>by rw[Di (by omega)];unfold nR;rw[if_pos h]
  have e2:∀x:Nat,¬(aK l x).a=p->(aK l x).b=p->(x:Int)<l.length->cQ (aP x l) p++[(aK l x).a] =cQ (aP (x+1) l) p:=λx h h1 h2=>by rw[Di (by omega)];unfold nR;grind
  have e3:∀x:Nat,¬(aK l x).a=p->¬(aK l x).b=p->(x:Int)<l.length->cQ (aP x l) p=cQ (aP (x+1) l) p:=λx h h1 h2=>by rw[Di (by omega)];unfold nR;grind
  have e4:∀x:Nat,¬(x:Int)<l.length->cQ (aP x l) p=cQ l p:=λx h=>by rw[fT (by omega)]
  have w:∀x:Nat,(x:Int)<l.length->aE ((x:Int)+1):=λx h=>bD (by omega)
  with_reducible ((repeat' first|apply bl|intro);all_goals repeat cases‹_/\_›)
  all_goals first|rfl|with_reducible solve_by_elim|(with_reducible first|assumption|rfl|exact congrArg dA (e1 _ ‹_› ‹_›)|exact congrArg dA (e2 _ ‹_› ‹_› ‹_›)|exact congrArg dA (e3 _ ‹_› ‹_› ‹_›))|grind)
noncomputable def Qe:=Qd.adk aCj
def p7(p q:V)(cw:Bool)(b x:V):V:=if x=q then b else if b=q\/ip (aE1 q p) (aE1 x p) (aE1 b p)≠cw then x else b
def nxU(l:List V)(p q:V)(cw:Bool)(k:Nat):V:=(l.take k).foldl (p7 p q cw) q
def ww(p q:V)(cw:Bool):∀(l:List V) (b:V),oe p q cw b l=l.foldl (p7 p q cw) b
 |[],b=>rfl
 |x::l,b=>by
  unfold oe;rw[yX];unfold p7;split
  .exact ww p q cw l b
  .split
   .exact ww p q cw l x
   .exact ww p q cw l b
def xE{l:List V}{p q:V}{cw:Bool}{k:Nat}(h:k<l.length):nxU l p q cw (k+1)=p7 p q cw (nxU l p q cw k) (aEY l k):=by unfold nxU;rw[iR h,vz,nth_eq h];rfl
def GV(l:List V)(p q:V)(cw:Bool):∀k,k<=l.length->nxU l p q cw k=q\/nxU l p q cw k∈l
 |0,_=> .inl rfl
 |k+1,h=>by
  have ih:=GV l p q cw k (by omega);have hm:aEY l k∈l:=dh (by omega);rw[xE (by omega)];unfold p7;grind
def X7(l:List V)(p q:V)(cw:Bool):dX l p q cw=q\/dX l p q cw∈l:=by have:=GV l p q cw l.length (bI _);unfold nxU at this;rw[ke,<-ww]at this;exact this
noncomputable def aEG:Con:=con (ac (aL .S) (ac aV (ac aV (a1 aB)))) (λ(l,p,q,_)=>[l.length<=900000,bd 500000000 p,bd 500000000 q,(∀e∈l,bd 500000000 e.a/\bd 500000000 e.b)]) (λ(l,p,q,cw)=>aV.enc (dX (cQ l p) p q cw))
def aC5:aEG.Okz 118:=ag Qe (λ(l,p,q,cw)=>[lp 5 12 (cQ l p).length bW [] bW (λk=>[(13,.box 44 [.iqz (nxU (cQ l p) p q cw k).x,.iqz (nxU (cQ l p) p q cw k).y])])]
  ) (λ(_,_,_,_)=>⟨_,rfl⟩) λ(l,p,q,cw) hp=>aY (aA (cQ l p) λD=>aA (aE1 q p) λH=>aA (nxU D p q cw 0) λM=>aA (dX D p q cw) λN=>l.length<=900000/\bd 1000000000 q/\bd 1000000000 p/\(0=(0:Int)/\q.x=M.x/\q.y=M.y/\(0:Nat)<=D.length)/\
 (∀x:Nat,aA (x+1) λA=>aA (x:Int) λB=>aA (B+1) λC=>aA (aEY D x) λE=>aA ((x+1:Nat):Int) λG=>aA (aE1 E p) λI=>aA (nxU D p q cw x) λJ=>aA (aE1 J p) λK=>aA (nxU D p q cw A) λL=>aA (ip H I K !=cw) λO=>x<=D.length->(B<D.length->ix B D.length/\(E=q->aE C/\B+1=G/\J.x=L.x/\J.y=L.y/\x+1<=D.length/\D.length-A<D.length-x)/\
   (¬E=q->ix B D.length/\bd 1000000000 E/\bd 1000000000 p/\bd 1000000000 J/\bd 1000000000 p/\(J=q->ix B D.length/\aE C/\B+1=G/\E.x=L.x/\E.y=L.y/\x+1<=D.length/\D.length-A<D.length-x)/\
    (¬J=q->bd 2000000000 H/\bd 2000000000 I/\bd 2000000000 K/\(O=true->ix B D.length/\aE C/\B+1=G/\E.x=L.x/\E.y=L.y/\x+1<=D.length/\D.length-A<D.length-x)/\
     (O=false->aE C/\B+1=G/\J.x=L.x/\J.y=L.y/\x+1<=D.length/\D.length-A<D.length-x))))/\
  (¬B<D.length->J.x=N.x/\J.y=N.y))) (by kernel_rfl) (by
  change l.length<=900000/\bd 500000000 p/\bd 500000000 q/\((∀e∈l,bd 500000000 e.a/\bd 500000000 e.b))at hp;obtain⟨hl,hp1,hq,he⟩:=hp;have el:(cQ l p).length<=900000:=by have:=ET p l;omega
  have m5:∀v:V,bd 500000000 v->bd 1000000000 v:=λv h=>by unfold bd at*;omega
  have eb:∀v∈cQ l p,bd 500000000 v:=λv hv=>by obtain⟨e,h1,h2⟩:=Ku hv;grind
  have p9:=m5 _ hp1;have q9:=m5 _ hq;generalize cQ l p=E at el eb|-;have nb5:∀x:Nat,x<=E.length->bd 500000000 (nxU E p q cw x):=λx h=>by
   rcases GV E p q cw x h with e|e
   .grind
   grind
  have sb:∀a b:V,bd 500000000 a->bd 500000000 b->bd 2000000000 (aE1 a b):=λa b h1 h2=>by unfold bd aE1 at*;grind
  have b1:∀x:Nat,(x:Int)<E.length->bd 1000000000 (aEY E x):=λx h=>m5 _ (eb _ (dh (by omega)));have b2:∀x:Nat,x<=E.length->bd 1000000000 (nxU E p q cw x):=λx h=>m5 _ (nb5 x h);have b3:=sb _ _ hq hp1;have b4:∀x:Nat,(x:Int)<E.length->bd 2000000000 (aE1 (aEY E x) p):=λx h=>sb _ _ (eb _ (dh (by omega))) hp1;have b5:∀x:Nat,x<=E.length->bd 2000000000 (aE1 (nxU E p q cw x) p):=λx h=>sb _ _ (nb5 x h) hp1;have s1:∀x:Nat,aEY E x=q->(x:Int)<E.length->nxU E p q cw x=nxU E p q cw (x+1):=λx h h2=>by rw[xE (by omega)];unfold p7;rw[if_pos h]
  have s2:∀x:Nat,¬aEY E x=q->nxU E p q cw x=q->(x:Int)<E.length->aEY E x=nxU E p q cw (x+1):=λx h h1 h2=>by rw[xE (by omega)];unfold p7;grind
  have s3:∀x:Nat,¬aEY E x=q->(ip (aE1 q p) (aE1 (aEY E x) p) (aE1 (nxU E p q cw x) p) !=cw)=true->(x:Int)<E.length->aEY E x=nxU E p q cw (x+1):=λx h h1 h2=>by rw[xE (by omega)];unfold p7;grind
  have s4:∀x:Nat,¬aEY E x=q->¬nxU E p q cw x=q->(ip (aE1 q p) (aE1 (aEY E x) p) (aE1 (nxU E p q cw x) p) !=cw)=false->(x:Int)<E.length->nxU E p q cw x=nxU E p q cw (x+1):=λx h h0 h1 h2=>by rw[xE (by omega)];unfold p7;grind
  have fin:∀x:Nat,¬(x:Int)<E.length->nxU E p q cw x=dX E p q cw:=λx h=>by unfold nxU;rw[fT (by omega),<-ww];rfl
  have w:∀x:Nat,(x:Int)<E.length->aE ((x:Int)+1):=λx h=>bD (by omega);have l9:l.length<=900000:=hl;clear nb5 eb he m5 sb
  with_reducible ((repeat' first|apply bl|intro);all_goals repeat cases‹_/\_›)
  all_goals first|rfl|with_reducible solve_by_elim|(with_reducible first|assumption|rfl)|exact congrArg V.x (s1 _ ‹_› ‹_›)|exact congrArg V.y (s1 _ ‹_› ‹_›)|exact congrArg V.x (s2 _ ‹_› ‹_› ‹_›)|exact congrArg V.y (s2 _ ‹_› ‹_› ‹_›)|exact congrArg V.x (s3 _ ‹_› ‹_› ‹_›)|exact congrArg V.y (s3 _ ‹_› ‹_› ‹_›)|exact congrArg V.x (s4 _ ‹_› ‹_› ‹_› ‹_›)|exact congrArg V.y (s4 _ ‹_› ‹_› ‹_› ‹_›)|exact congrArg V.x (fin _ ‹_›)|exact congrArg V.y (fin _ ‹_›)|grind)
noncomputable def RT:=Qe.adk aC5
def jm(l:List S)(p q:V):Bool:=decide (0<=turn p (dX (cQ l p) p q true) (dX (cQ l p) p q false))
noncomputable def aEE:Con:=con (ac (aL .S) (ac aV (a1 aV))) (λ(l,p,q)=>[l.length<=900000,bd 500000000 p,bd 500000000 q,(∀e∈l,bd 500000000 e.a/\bd 500000000 e.b)]) (λ(l,p,q)=> .bool (jm l p q)
 )
def aC3:aEE.Okz 120:=ag RT (λ(_,_,_)=>[]) (λ(_,_,_)=>⟨_,rfl⟩) λ(l,p,q) hp=>aY (aA (dX (cQ l p) p q true) λB=>aA (dX (cQ l p) p q false) λC=>l.length<=900000/\bd 500000000 p/\bd 500000000 q/\(∀e:S,e∈l->bd 500000000 e.a/\bd 500000000 e.b)/\l.length<=900000/\bd 500000000 p/\bd 500000000 q/\(∀e:S,e∈l->bd 500000000 e.a/\bd 500000000 e.b)/\bd 1000000000 p/\bd 1000000000 B/\bd 1000000000 C/\decide (0<=turn p B C)=jm l p q) (by kernel_rfl) (by
 change l.length<=900000/\bd 500000000 p/\bd 500000000 q/\((∀e∈l,bd 500000000 e.a/\bd 500000000 e.b))at hp;obtain⟨hl,hp1,hq,he⟩:=hp;have m5:∀v:V,bd 500000000 v->bd 1000000000 v:=λv h=>by unfold bd at*;omega
 have nb5:∀cw:Bool,bd 1000000000 (dX (cQ l p) p q cw):=λcw=>by
  rcases X7 (cQ l p) p q cw with e|e
  .grind
  .obtain⟨f,h1,h2⟩:=Ku e;grind
 exact⟨hl,hp1,hq,he,hl,hp1,hq,he,m5 _ hp1,nb5 true,nb5 false,rfl⟩)
noncomputable def RR:=RT.adk aC3
noncomputable def aEF:Con:=con (a1 (aL .V)) (λr=>[r.length<=100000,(∀u∈r,bd 1000000000 u)]) (λr=> .lst .V (bo (c5 r)))
def aC4:aEF.Okz 119:=ag RR (λr=>[lp 3 4 r.length bW [900] (λk=>[(3,.own 900 .V (dL r k).length)]) (λk=>[(900,.row 44 .V (dL r k))])]
  ) (λ_=>⟨_,rfl⟩) λr hp=>aY (aA (r.length:Int) λG=>(0=(0:Int)/\(dL r 0).length=0/\dL r 0=([] :List V)/\(0:Nat)<=r.length)/\
 (∀x:Nat,aA (x+1) λA=>aA (x:Int) λB=>aA (dL r x) λC=>aA (aEY r x) λD=>aA (aEY r (A % r.length)) λF=>aA (B+r.length-1) λH=>aA (cD H G) λI=>aA (dL r A).length λJ=>aA (aEY r I.toNat) λK=>aA ((x+1:Nat):Int) λL=>x<=r.length->(B<r.length->aE (B+r.length)/\aE H/\G≠0/\ix I r.length/\ix B r.length/\aE (B+1)/\G≠0/\ix ((A % r.length:Nat):Int) r.length/\bd 1000000000 K/\bd 1000000000 D/\bd 1000000000 F/\(¬turn K D F=0->ix B r.length/\C.length=C.length/\C.length+[D].length<=1000000/\aE (B+1)/\B+1=L/\(dL r x++[D]).length=J/\dL r x++[D] =dL r A/\x+1<=r.length/\r.length-A<r.length-x)/\
   (¬(¬turn K D F=0)->aE (B+1)/\B+1=L/\C.length=J/\dL r x=dL r A/\x+1<=r.length/\r.length-A<r.length-x))/\
  (¬B<r.length->C.length=C.length/\C.length<=100000/\bo C=bo (c5 r)))) (by kernel_rfl) (by
  change r.length<=100000/\((∀u∈r,bd 1000000000 u))at hp;obtain⟨hl,hb⟩:=hp;have bN:∀i:Nat,i<r.length->bd 1000000000 (aEY r i):=λi h=>hb _ (dh h);have tm:∀x:Nat,(x:Int)<r.length->cD ((x:Int)+r.length-1) (r.length:Int)=(((x+r.length-1) % r.length:Nat):Int):=λx h=>by grind
  have lt:∀x:Nat,(x:Int)<r.length->(x+r.length-1) % r.length<r.length:=λx h=>bq _ (by omega);have lt2:∀x:Nat,(x:Int)<r.length->(x+1) % r.length<r.length:=λx h=>bq _ (by omega);have f1:∀x:Nat,(x:Int)<r.length->aE ((x:Int)+r.length):=λx h=>bD (by omega);have f2:∀x:Nat,(x:Int)<r.length->aE ((x:Int)+r.length-1):=λx h=>bD (by omega);have f4:∀x:Nat,(x:Int)<r.length->ix (cD ((x:Int)+r.length-1) (r.length:Int)) r.length:=λx h=>by rw[tm x h];exact dQ (lt x h)
  have f5:∀x:Nat,(x:Int)<r.length->aE ((x:Int)+1):=λx h=>bD (by omega);have f6:∀x:Nat,(x:Int)<r.length->ix (((x+1) % r.length:Nat):Int) r.length:=λx h=>dQ (lt2 x h);have f7:∀x:Nat,(x:Int)<r.length->bd 1000000000 (aEY r (cD ((x:Int)+r.length-1) (r.length:Int)).toNat):=λx h=>by rw[tm x h];exact bN _ (lt x h)
  have f8:∀x:Nat,(x:Int)<r.length->bd 1000000000 (aEY r x):=λx h=>bN _ (by omega);have f9:∀x:Nat,(x:Int)<r.length->bd 1000000000 (aEY r ((x+1) % r.length)):=λx h=>bN _ (lt2 x h);have f10:∀x:Nat,(x:Int)<r.length->¬turn (aEY r (cD ((x:Int)+r.length-1) (r.length:Int)).toNat) (aEY r x) (aEY r ((x+1) % r.length))=0->dL r x++[aEY r x] =dL r (x+1):=λx h h2=>by rw[tm x h,iF]at h2;rw[tu,if_pos (show rA r x=true from decide_eq_true h2)]
  have f11:∀x:Nat,(x:Int)<r.length->¬¬turn (aEY r (cD ((x:Int)+r.length-1) (r.length:Int)).toNat) (aEY r x) (aEY r ((x+1) % r.length))=0->dL r x=dL r (x+1):=λx h h2=>by rw[tm x h,iF]at h2;rw[tu,if_neg (show¬rA r x=true from λh3=>h2 (of_decide_eq_true h3))]
  have f12:∀x:Nat,∀z:V,x<=r.length->(dL r x).length+[z].length<=1000000:=λx z h=>by have:=sT r x;simp only[tU];omega
  have f13:∀x:Nat,x<=r.length->(dL r x).length<=100000:=λx h=>by have:=sT r x;omega
  have g0:∀x:Nat,¬(x:Int)<r.length->x<=r.length->bo (dL r x)=bo (c5 r):=λx h h2=>by rw[show x=r.length by omega];rfl
  with_reducible ((repeat' first|apply bl|intro);all_goals repeat cases‹_/\_›)
  all_goals first|rfl|with_reducible solve_by_elim|(with_reducible first|assumption|rfl|exact congrArg dA (f10 _ ‹_› ‹_›)|exact congrArg dA (f11 _ ‹_› ‹_›))|grind)
noncomputable def RS:=RR.adk aC4
noncomputable def aEH:Con:=con (a1 (aL .V)) (λr=>[r.length<=1000]) (λr=> .lst .V r.reverse)
def aC6:aEH.Okz 117:=ag RS (λr=>[(3,.mk Nat (λF _=>match F.at 4 with| .int _ n=>some ((r.length-1-n).toNat)|_=>none) [900] (λk=>[k<=r.length]) (λk=>[(4,.iqz ((r.length:Int)-1-k)),(3,.own 900 .V (r.reverse.take k).length)]) (λk=>[(900,.row 44 .V (r.reverse.take k))]) (λk=>r.length-k) λ_=>[])]
  ) (λ_=>⟨_,rfl⟩) λr hp=>aY (aE ((r.length:Int)-1)/\((r.length:Int)-1=r.length-1-((r.length:Int)-1-(r.length-1)).toNat/\(aP ((r.length:Int)-1-(r.length-1)).toNat (ic r)).length=0/\aP ((r.length:Int)-1-(r.length-1)).toNat (ic r)=([] :List V)/\((r.length:Int)-1-(r.length-1)).toNat<=r.length)/\
 (∀x:Nat,x<=r.length->(0<=(r.length:Int)-1-x->ix ((r.length:Int)-1-x) r.length/\(aP x (ic r)).length=(aP x (ic r)).length/\(aP x (ic r)).length+[(aEY r ((r.length:Int)-1-x).toNat)].length<=1000000/\aE ((r.length:Int)-1-x-1)/\(r.length:Int)-1-x-1=r.length-1-((r.length:Int)-1-(r.length-1-x-1)).toNat/\(aP x (ic r)++[(aEY r ((r.length:Int)-1-x).toNat)]).length=(aP ((r.length:Int)-1-(r.length-1-x-1)).toNat (ic r)).length/\aP x (ic r)++[(aEY r ((r.length:Int)-1-x).toNat)] =aP ((r.length:Int)-1-(r.length-1-x-1)).toNat (ic r)/\((r.length:Int)-1-(r.length-1-x-1)).toNat<=r.length/\r.length-((r.length:Int)-1-(r.length-1-x-1)).toNat<r.length-x)/\
  (¬0<=(r.length:Int)-1-x->(aP x (ic r)).length=(aP x (ic r)).length/\aP x (ic r)=ic r))) (by kernel_rfl) (by
  change r.length<=1000 at hp;have k1:∀x:Nat,0<=(r.length:Int)-1-x->((r.length:Int)-1-(r.length-1-x-1)).toNat=x+1:=λx h=>by omega
  have k0:((r.length:Int)-1-(r.length-1)).toNat=0:=by omega
  have e1:∀x:Nat,x<=r.length->(aP x (ic r)).length=x:=λx h=>by grind
  have e2:∀x:Nat,0<=(r.length:Int)-1-x->aP x (ic r)++[aEY r ((r.length:Int)-1-x).toNat] =aP (x+1) (ic r):=λx h=>by rw[iR (show x<r.reverse.length by grind),List.getElem_reverse,nth_eq (show((r.length:Int)-1-x).toNat<r.length by omega)];simp_all
  have e3:∀x:Nat,¬0<=(r.length:Int)-1-x->aP x (ic r)=ic r:=λx h=>fT (by grind);rw[k0];refine⟨bD (by omega),⟨by omega,rfl,rfl,iY _⟩,λx hx=>⟨λh=> ?_,λh=>⟨rfl,e3 x h⟩⟩⟩;rw[k1 x h,e2 x h,e1 x hx];refine⟨⟨by omega,by omega⟩,rfl,by grind,bD (by omega),by omega,rfl,rfl,by omega,by omega⟩)
noncomputable def RU:=RS.adk aC6
def lfP(r:aH)(i:Nat):Bool:=decide (0<turn (aEY r ((i+r.length-1) % r.length)) (aEY r i) (aEY r ((i+1) % r.length)))
def lfR(r:aH)(i:Nat):Nat:=((bQ i).filter (lfP r)).length
noncomputable def aED:Con:=con (a1 (aL .V)) (λr=>[r.length<=1000,(∀u∈r,bd 1000000000 u)]) (λr=> .iqz (lfR r r.length:Nat))
def aC2:aED.Okz 121:=ag RU (λr=>[lp 3 4 r.length bW [] (λk=>[(3,.iqz (lfR r k:Nat))]) bW]
  ) (λ_=>⟨_,rfl⟩) λr hp=>aY (aA (r.length:Int) λG=>(0=(0:Int)/\0=(lfR r 0:Int)/\(0:Nat)<=r.length)/\
 (∀x:Nat,aA (x+1) λA=>aA (x:Int) λB=>aA (aEY r x) λC=>aA (aEY r (A % r.length)) λE=>aA (lfR r x:Int) λF=>aA (B+r.length-1) λH=>aA (cD H G) λI=>aA (aEY r I.toNat) λJ=>aA ((x+1:Nat):Int) λK=>x<=r.length->(B<r.length->aE (B+r.length)/\aE H/\G≠0/\ix I r.length/\ix B r.length/\aE (B+1)/\G≠0/\ix ((A % r.length:Nat):Int) r.length/\bd 1000000000 J/\bd 1000000000 C/\bd 1000000000 E/\(0<turn J C E->aE (F+1)/\aE (B+1)/\B+1=K/\F+1=lfR r A/\x+1<=r.length/\r.length-A<r.length-x)/\
   (¬0<turn J C E->aE (B+1)/\B+1=K/\F=lfR r A/\x+1<=r.length/\r.length-A<r.length-x))/\
  (¬B<r.length->F=lfR r r.length))) (by kernel_rfl) (by
  change r.length<=1000/\((∀u∈r,bd 1000000000 u))at hp;obtain⟨hl,hb⟩:=hp;have bN:∀i:Nat,i<r.length->bd 1000000000 (aEY r i):=λi h=>hb _ (dh h);have tm:∀x:Nat,(x:Int)<r.length->cD ((x:Int)+r.length-1) (r.length:Int)=(((x+r.length-1) % r.length:Nat):Int):=λx h=>by grind
  have lt:∀x:Nat,(x:Int)<r.length->(x+r.length-1) % r.length<r.length:=λx h=>bq _ (by omega);have lt2:∀x:Nat,(x:Int)<r.length->(x+1) % r.length<r.length:=λx h=>bq _ (by omega);have f1:∀x:Nat,(x:Int)<r.length->aE ((x:Int)+r.length):=λx h=>bD (by omega);have f2:∀x:Nat,(x:Int)<r.length->aE ((x:Int)+r.length-1):=λx h=>bD (by omega);have f4:∀x:Nat,(x:Int)<r.length->ix (cD ((x:Int)+r.length-1) (r.length:Int)) r.length:=λx h=>by rw[tm x h];exact dQ (lt x h)
  have f5:∀x:Nat,(x:Int)<r.length->aE ((x:Int)+1):=λx h=>bD (by omega);have f6:∀x:Nat,(x:Int)<r.length->ix (((x+1) % r.length:Nat):Int) r.length:=λx h=>dQ (lt2 x h);have f7:∀x:Nat,(x:Int)<r.length->bd 1000000000 (aEY r (cD ((x:Int)+r.length-1) (r.length:Int)).toNat):=λx h=>by rw[tm x h];exact bN _ (lt x h)
  have f8:∀x:Nat,(x:Int)<r.length->bd 1000000000 (aEY r x):=λx h=>bN _ (by omega);have f9:∀x:Nat,(x:Int)<r.length->bd 1000000000 (aEY r ((x+1) % r.length)):=λx h=>bN _ (lt2 x h);have q1:∀x:Nat,(x:Int)<r.length->0<turn (aEY r (cD ((x:Int)+r.length-1) (r.length:Int)).toNat) (aEY r x) (aEY r ((x+1) % r.length))->(lfR r x:Int)+1=lfR r (x+1):=λx h h2=>by rw[tm x h,iF]at h2;unfold lfR;rw[qS,pI,List.filter_cons_of_pos (show lfP r x=true from decide_eq_true h2),eW];rfl
  have q2:∀x:Nat,(x:Int)<r.length->¬0<turn (aEY r (cD ((x:Int)+r.length-1) (r.length:Int)).toNat) (aEY r x) (aEY r ((x+1) % r.length))->(lfR r x:Int)=lfR r (x+1):=λx h h2=>by rw[tm x h,iF]at h2;unfold lfR;rw[qS,pI,List.filter_cons_of_neg (show¬lfP r x=true from λh3=>h2 (of_decide_eq_true h3))];simp
  have q3:∀x:Nat,lfR r x<=x:=λx=>by have:=yt (lfP r) (bQ x);rw[yf]at this;exact this
  have q4:∀x:Nat,(x:Int)<r.length->aE ((lfR r x:Int)+1):=λx h=>by grind
  have q5:∀x:Nat,¬(x:Int)<r.length->x<=r.length->(lfR r x:Int)=lfR r r.length:=λx h h2=>by grind
  with_reducible ((repeat' first|apply bl|intro);all_goals repeat cases‹_/\_›)
  all_goals first|rfl|with_reducible solve_by_elim|(with_reducible first|assumption|rfl)|grind)
noncomputable def RQ:=RU.adk aC2
end Go.Proofs.YtdaeofhdgabhjaaGreat
