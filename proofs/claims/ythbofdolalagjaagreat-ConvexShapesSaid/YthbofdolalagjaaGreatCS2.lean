/- What the statement stands on: contracts of functions, plain laws. Part 2 of 7, no condition of its own. (I17 I18 I19 I20 I21 I22 I23 I24 I25 I26 I27 I28 I29 I30 I31 I32 I33 I34 I35 I36 I37 I38 I40 I41 I39 I42 I43 I44 I45 I46 N1 E0 E5 N2 N3 E12 N4 N5 N6 N7 N19 N8) -/
import Derived.Test.YthbofdolalagjaaGreatCS1
import Derived.WalkKit
import Derived.Below
import Derived.Deep.MidRow
import Derived.Test.YthbofdolalagjaaGreatProg
import Derived.WalkSpells
import Derived.WalkLawsBesides
import Derived.Lib.Hide
import Derived.Deep.QuietTactic
import Derived.BigQuiet
import Derived.WalkSmall
import Derived.Deep.RegionHeld3
import Derived.LoopTactic
import Derived.Orders
import Derived.Laws.OwnMore
import Derived.Maps.AppendAt
import Derived.Laws.Small
set_option linter.all false
set_option maxRecDepth 100000
set_option maxHeartbeats 8000000
open Bool renaming eq_false_iff->pu,true_and->jM,eq_iff_iff->fL,false_eq_true->lN,and_eq_true->bj,or_eq_true->jQ,eq_false_or_eq_true->TB,not_eq_true'->zP
open List renaming mem_flatten->lu,mem_append_left->ig,mem_flatMap->dG,mem_cons->bI,not_mem_nil->cq,mem_cons_of_mem->cG,mem_cons_self->cI,all_eq_true->bh,mem_append->bl,flatMap_cons->ff,map_append->dM,flatten_cons->mT,nodup_iff_pairwise_ne->oV,pairwise_map->km,nodup_append->lv,map_cons->dX,map_nil->po,range->bM,mem_range->cD,mem_map->bR,nodup_nil->DK,any_eq_true->jd,map_map->dU,map_congr_left->mU,Pairwise.imp->Iv,pairwise_iff_getElem->sW,mem_iff_getElem->jT,append_assoc->jt,singleton_append->DN,perm_append_comm->wo,cons_append->kM,nodup_cons->mV,append_of_mem->zQ,perm_cons_erase->S9,eq_nil_or_concat->TA,mem_append_right->gq,flatMap_map->Iw,length_append->fM,length_cons->iE,append_nil->ww,flatMap_append->uV,getD_eq_getElem?_getD->eI,getElem?_append_right->lO,filter_append->rB,mem_filter->fG,filter_cons_of_pos->Ix,exists_mem_of_ne_nil->Iy,mem_singleton->bn,getElem?_drop->wq,getElem?_take->pp,length_eq_zero_iff->p7,map_toArray->I2,length_take->mX,getElem?_map->gr,lookup->iU,take_of_length_le->iV,replicate->cl,replicate_succ->xE,getElem?_append_left->oU,mem_replicate->TD,length_map->di,length->eQ,getElem?_eq_getElem->dw,lookup_cons->dY,getElem?_set_ne->TF,mem_filterMap->I8
open Int renaming mul_pos->bL,mul_le_mul_of_nonneg_left->dS,add_mul->pq,mul_zero->du,lt_trichotomy->q9,mul_nonneg->cJ,mul_eq_zero->cp,le_refl->kk,mul_neg->nL,mul_neg_of_pos_of_neg->fz,mul_neg_of_neg_of_pos->nK,mul_pos_of_neg_of_neg->wh,le_of_lt->iy,mul_nonpos_of_nonneg_of_nonpos->DI
open Nat renaming mod_eq_of_lt->dh,lt_trichotomy->zM,lt_or_gt_of_ne->DM,add_mod_right->pk,mod_lt->bz,le_refl->bZ,lt_or_ge->oZ,le_trans->cL,zero_add->kN,mul_le_mul->nP,eq_zero_or_pos->qz,mul_eq_zero->I3,decEq->p9,add_mul->zV,le_mul_of_pos_right->TE
open Ne renaming symm->nO
open Prod renaming snd->DP
open Classical renaming byContradiction->dQ
open Array renaming getElem?_modify->Iz,getD_eq_getD_getElem?->gh,getElem?_eq_getElem->w7,getElem?_setIfInBounds->w8,toList_inj->p8,length_toList->zU,range->I5,map->uc
open Go.Region renaming binds->iT,ready->DQ,wanted->iz
open Option renaming map_some->eJ,getD_some->lz,bind_some->rC,map_eq_some_iff->mW,isSome_iff_exists->pw,bind_eq_some_iff->rD,some.injEq->fg
open Go.Code renaming region->zR
open Go.Act renaming put->og
open Go.Instr renaming loadAt->DT,sureAddr->DU,indexAt->I1,sliceBounds->DX
open Go.Sem renaming run_bind->cr,run_pure->da
open Go.Op renaming operands->ce,equalIn->uY,intArith->I0,intCmp->zS
open Go.Result renaming andThen_ok->dB
open Go.Value renaming int->cg,ownBlock->DV,cells->I4
open Go.Addr renaming add_mid->w9
open Go.Call renaming operands->ju
open Go.Obj renaming map->xD
open Go.World renaming block_lt_of_cell?->kO,cell?_of_block->je,ownsRow_nil->I6
open Go.Deferred renaming ofValue->ud
open Go.IntKind renaming i64->jV
open Go.RowKit
open Go.Proofs.YthbofdolalagjaaGreat.Geo
namespace Go.Proofs.YthbofdolalagjaaGreat
section
namespace Geo
def MI{r:aD}(hr:VR r){v:V}(hw:aX v 2000=true)(h:cT r v≠1):cT r v=if cK r (pt v)then 2 else 0:=by
 have h4:=ko hw (show(2000:Int)<=4000 by omega);have hp:cn (dq v)=true:=by rw[z7];exact h4
 unfold cT at h|-;rw[h4]at h|-;rw[Ai hr hp λe he=> ?_]
 .rfl
 refine pu.2 λho=>h ?_;unfold bg;rw[(iF _).2 hr,hp];exact yH ⟨e,he,ho⟩
def aBK{r:aD}(hr:VR r){v:V}(hw:aX v 2000=true)(h:cT r v=2):cK r (pt v)=true:=by have:=MI hr hw (by omega);grind
def aAD{r:aD}(hr:VR r){v:V}(hw:aX v 2000=true)(h:cT r v=0):cK r (pt v)=false:=by have:=MI hr hw (by omega);grind
section
variable {s:Shape} {D:List S}
def Aq{r:aD}(hr:r∈aE s){v:V}(hv:v∈r):v∈bk s:=lu.2 ⟨r,hr,hv⟩
def u7{r:aD}(hr:r∈aE s){e:S}(he:e∈aJ r):sides s D e.a e.b:= .inl (ig _ (dG.2 ⟨r,hr,he⟩))
def xZ(T:Tg s D){r q:aD}(hr:r∈aE s)(hq:q∈aE s)(hrq:r≠q){v:V}(hv:v∈r){e:S}(he:e∈aJ q):v≠e.a/\v≠e.b:=by obtain⟨h1,h2⟩:=i8 he;have:=zy (aE s) T.vs.nodup r hr q hq;grind
def Ew(T:Tg s D){r q:aD}(hr:r∈aE s)(hq:q∈aE s)(hrq:r≠q){a b:V}(ha:a∈r)(hab:sides s D a b):∃N0:Int,∀n,N0<=n->∀p,In (thin a b n) p->cK q p=cK q (pt a):=by
 have N:=T.segs.net;obtain⟨N0,_,h2⟩:=N.thin hab;refine⟨N0,λn hn p hp=>(vI (by have:=(T.vs.ring hq).three;omega) (show(0:Int)<1 by omega) hp.1 λe he hm=> ?_).symm⟩;obtain⟨x,y,k,t,hx,hy,hxy,hk,ht,g⟩:=hm;have hs:sides s D e.a e.b:=u7 hq he;rcases Int.lt_or_le 0 t with ht'|ht'
 .obtain⟨f,hf,hle⟩:=h2 n hn e.a e.b hs x y hx hy hxy;dsimp only at hle;have e1:x*ev f (pt e.a)+y*ev f (pt e.b)=k*ev f (pt a)+t*ev f p:=by rw[<-ag,g,ag]
  have p1:=bL ht' (hp.2 f hf);have p2:0<=ev f (pt a):=by
   have hL:=i9 (N.ne hab);unfold thin at hf;simp only[bI,cq,or_false]at hf;rcases hf with rfl|rfl|rfl
   .rw[cH];omega
   .rw[l9,cH,k9];omega
   .rw[o7,cH,qQ,BA];omega
  have:=mpp hk p2;omega
 .have:t=0:=by omega
  subst this;have hd:=congrArg P3.d g;simp only[cmb,pt]at hd;have hov:=xZ T hr hq hrq ha he;rcases N.clear hs (Aq hr ha) x y k hx hy (by rw[g];unfold cmb;simp) (by omega)with e1|e1
  .grind
  grind
def WJ(T:Tg s D){r q:aD}(hr:r∈aE s)(hq:q∈aE s)(hrq:r≠q){e:S}(he:e∈aJ r):cK q (pt e.a)=cK q (pt e.b):=by
 have N:=T.segs.net;refine vI (by have:=(T.vs.ring hq).three;omega) (show(0:Int)<1 by omega) (show(0:Int)<1 by omega) λd hd hm=> ?_;obtain⟨h1,h2⟩:=i8 he;have o1:=xZ T hr hq hrq h1 hd;have o2:=xZ T hr hq hrq h2 hd;rcases N.off (u7 hr he) (u7 hq hd)with⟨_,g⟩|⟨g,_⟩|⟨g,_⟩
 .rcases g with g|⟨g,_⟩|⟨g,_⟩|⟨g,_⟩|⟨g,_⟩
  .exact g hm
  .grind
  .grind
  .grind
  grind
 .grind
 grind
def Nl(T:Tg s D){r q:aD}(hr:r∈aE s)(hq:q∈aE s)(hrq:r≠q):∀i,i<r.length->cK q (pt (nth r i))=cK q (pt (nth r 0))
 |0,_=>rfl
 |i+1,hi=>by
  have:=WJ T hr hq hrq (e:=bO r i) (Bm (T.vs.ring hr) (by omega));rw[show(bO r i).b=nth r (i+1) by show nth r ((i+1) % r.length)=_;rw[dh hi],show(bO r i).a=nth r i from rfl]at this;rw[<-this];exact Nl T hr hq hrq i (by omega)
def O8(T:Tg s D){r:aD}(hr:r∈s.holes){v:V}(hv:v∈r):cT s.outer v=2:=by obtain⟨i,hi,rfl⟩:=rN hr;have:=T.vs.ins i hi;unfold bT at this;grind
def Bi(T:Tg s D){r:aD}(hr:r∈s.holes):r≠s.outer:=by intro e;have h:=T.vs;have hv:nth r 0∈r:=eL.2 ⟨0,by have:=(h.ring (cG _ hr)).three;omega,rfl⟩;obtain⟨i,hi,rfl⟩:=rN hr;have ap:=h.apo i hi;rw[e]at ap hv;exact xO h.outer ap hv (Bm h.outer (i:=0) (by grind)) (by rw[<-e];exact fQ (jw (h.hole i hi).near 0 (by grind)))
def W5(T:Tg s D){q:aD}(hq:q∈s.holes){v:V}(hv:v∈s.outer):cK q (pt v)=false:=by
 have h:=T.vs;have N:=T.segs.net;have hq':q∈aE s:=cG _ hq;have ho':s.outer∈aE s:=cI;have hne:=(Bi T hq).symm;have h3:=h.outer.three;have all:=Nl T ho' hq' hne;have li:=nV (r:=s.outer) (by omega);have low:cK q (pt (nth s.outer (dP s.outer)))=false:=by
  have hv0:nth s.outer (dP s.outer)∈s.outer:=dO li;have least:∀a∈s.outer,(nth s.outer (dP s.outer)).y<=a.y:=λa ha=>by obtain⟨i,hi,rfl⟩:=eL.1 ha;have:=tF s.outer s.outer.length i hi;unfold leV at this;unfold dP;omega
  have below:∀u∈q,(nth s.outer (dP s.outer)).y<=u.y:=λu hu=>by obtain⟨_,_,⟨a,ha,hay⟩,_⟩:=Vk (by omega) (O8 T hq hu);grind
  have fr:=Fd h.outer _ hv0;generalize nth s.outer (dP s.outer)=v0 at*;rw[vI (q:=⟨v0.x,v0.y-5000,1⟩) (by have:=(h.ring hq').three;omega) (show(0:Int)<1 by omega) (by grind) λe he hm=> ?_]
  .exact OW (by have:=(h.ring hq').three;omega) (Fd (h.ring hq')) (by grind) (by grind)
  .obtain⟨x,y,k,t,hx,hy,hxy,hk,ht,g⟩:=hm;obtain⟨e1,e2⟩:=i8 he;have b1:=dS (below _ e1) hx;have b2:=dS (below _ e2) hy;have hov:=xZ T ho' hq' hne hv0 he;have gy:=congrArg P3.y g;have gd:=congrArg P3.d g;simp only[cmb,pt]at gy gd;have t0:t=0:=by
    have m1:x*v0.y+y*v0.y=k*v0.y+t*v0.y:=by rw[<-pq,<-pq];congr 1;omega
    have m2:t*(v0.y-5000)=t*v0.y-t*5000:=Int.mul_sub _ _ _;omega
   subst t0;rcases N.clear (u7 hq' he) (Aq ho' hv0) x y k hx hy (by rw[g];unfold cmb;simp) (by omega)with e1|e1
   .grind
   grind
 obtain⟨i,hi,rfl⟩:=eL.1 hv;grind
def Y9(T:Tg s D){r q:aD}(hr:r∈s.holes)(hq:q∈s.holes)(hrq:r≠q){v:V}(hv:v∈r):cK q (pt v)=false:=by
 have h:=T.vs;have hw:aX v 2000=true:=i6 h (Aq (cG _ hr) hv);refine aAD (h.ring (cG _ hq)) hw ?_;obtain⟨i,hi,rfl⟩:=rN hr;obtain⟨k,hk,rfl⟩:=rN hq;have key:bT (aC s.holes i) (aC s.holes k) 0=true:=by
  rcases zM i k with g|g|g
  .exact h.out2 k i g hk
  .grind
  .exact h.out1 i k g hi
 unfold bT at key;grind
def Ha{α:Type}{P:α->Int->Prop}:∀{l:List α},(∀x∈l,∃N0:Int,∀n,N0<=n->P x n)->∃N0:Int,∀n,N0<=n->∀x∈l,P x n
 |[],_=>⟨0,by grind⟩
 |x::l,h=>by
  obtain⟨n1,h1⟩:=h x (by grind);obtain⟨n2,h2⟩:=Ha λy hy=>h y (cG _ hy);refine⟨max n1 n2,λn hn y hy=> ?_⟩;grind
def KU(T:Tg s D){a b:V}(ha:a∈s.outer)(hab:sides s D a b):∃N0:Int,∀n,N0<=n->∀p,In (thin a b n) p->c8 s p=cK s.outer p:=by
 obtain⟨N0,h0⟩:=Ha (l:=s.holes) (P:=λq n=>∀p,In (thin a b n) p->cK q p=cK q (pt a)) λq hq=>Ew T cI (cG _ hq) (Bi T hq).symm ha hab;refine⟨N0,λn hn p hp=> ?_⟩;unfold c8;have:(s.holes.all λh=> !(cK h p))=true:=by rw[bh];intro q hq;rw[h0 n hn q hq p hp,W5 T hq ha];rfl
 grind
def Lr(T:Tg s D){r:aD}(hr:r∈s.holes){a b:V}(ha:a∈r)(hab:sides s D a b):∃N0:Int,∀n,N0<=n->∀p,In (thin a b n) p->c8 s p= !(cK r p):=by
 have hr':r∈aE s:=cG _ hr;obtain⟨N1,h1⟩:=Ew T hr' cI (Bi T hr) ha hab;obtain⟨N0,h0⟩:=Ha (l:=s.holes) (P:=λq n=>r≠q->∀p,In (thin a b n) p->cK q p=cK q (pt a)) λq hq=>by
  by_cases g:r=q
  .simp_all
  .obtain⟨m,hm⟩:=Ew T hr' (cG _ hq) g ha hab;exact⟨m,by grind⟩
 refine⟨max N0 N1,λn hn p hp=> ?_⟩;unfold c8;rw[h1 n (by omega) p hp,aBK T.vs.outer (i6 T.vs (Aq hr' ha)) (O8 T hr ha),jM,fL,bh];refine⟨λg=>g r hr,λg q hq=> ?_⟩;by_cases e:r=q
 .grind
 .rw[h0 n (by omega) q hq e p hp,Y9 T hr hq e ha];rfl
def A8{ins ins':P3->Bool}{a b:V}(h:∃N0:Int,∀n,N0<=n->∀p,In (thin a b n) p->ins p=ins' p):Lft ins a b↔Lft ins' a b:=by
 obtain⟨N0,h⟩:=h;constructor<;>rintro⟨m,g⟩
 .exact⟨max N0 m,by grind⟩
 .exact⟨max N0 m,by grind⟩
def Oi{W:List V}{side:V->V->Prop}{ins:P3->Bool}(H:Calm W side ins){a b:V}(hab:side a b):Lft (λp=> !ins p) a b↔¬Lft ins a b:=by
 constructor
 .intro h g;exact g.not (H.net.ne hab) h
 .intro h;rcases aBJ H hab with g|g
  .grind
  .exact g
def AZ(T:Tg s D){e:S}(he:e∈aJ s.outer):Lft (c8 s) e.a e.b/\¬Lft (c8 s) e.b e.a:=by obtain⟨h1,h2⟩:=i8 he;have hs:sides s D e.a e.b:=u7 cI he;rw[A8 (KU T h1 hs),A8 (KU T h2 hs.symm)];exact⟨T.vs.outer.left he,T.vs.outer.right he⟩
def BD(T:Tg s D){r:aD}(hr:r∈s.holes){e:S}(he:e∈aJ r):Lft (c8 s) e.b e.a/\¬Lft (c8 s) e.a e.b:=by obtain⟨h1,h2⟩:=i8 he;have hs:sides s D e.a e.b:=u7 (cG _ hr) he;have hv:=T.vs.ring (cG _ hr);have C:=hv.calm;rw[A8 (Lr T hr h2 hs.symm),A8 (Lr T hr h1 hs),Oi C (.inl he),Oi C (.inr he)];exact⟨hv.right he,λg=>g (hv.left he)⟩
def mP(s:Shape):List S:=aJ s.outer++(s.holes.flatMap aJ).map swp
def L5(s:Shape):ao s=aJ s.outer++s.holes.flatMap aJ:=by unfold ao aE;grind
def BV(T:Tg s D)(e:S):e∈mP s↔eC (ao s) e.a e.b/\Lft (c8 s) e.a e.b:=by
 unfold mP eC;rw[bl,mq,L5,bl,bl,dG,dG,dG];constructor
 .rintro(h|⟨r,hr,h⟩)
  .exact⟨.inl (.inl h),(AZ T h).1⟩
  .exact⟨.inr (.inr ⟨r,hr,h⟩),(BD T hr h).1⟩
 .rintro⟨(h|⟨r,hr,h⟩)|(h|⟨r,hr,h⟩),g⟩
  .exact .inl h
  .exact absurd g (BD T hr h).2
  .exact absurd g (AZ T h).2
  .exact .inr ⟨r,hr,h⟩
def VS.AN(h:VS s):(ao s).Nodup:=by
 have hn:=h.nodup;have e:(ao s).map S.a=bk s:=by
  unfold ao bk;have key:∀l:List aD,(∀r∈l,VR r)->(l.flatMap aJ).map S.a=l.flatten:=by
   intro l;induction l with
   |nil=>intro _;rfl
   |cons r l ih=>
    intro hl;rw[ff,dM,mT,ih (by grind),Mh (by have:=(hl r (by grind)).three;omega)]
  exact key _ λr hr=>h.ring hr
 rw[oV,<-e,km]at hn;exact oV.2 (hn.imp (by grind))
def V8(T:Tg s D):(mP s).Nodup:=by have hn:=T.vs.AN;rw[L5,lv]at hn;unfold mP;rw[lv];refine⟨hn.1,GL hn.2.1,λa ha b hb e=> ?_⟩;subst e;rw[mq,dG]at hb;obtain⟨r,hr,hb⟩:=hb;have e1:=(i8 ha).1;have e2:=(i8 hb).2;exact Bi T hr (zy (aE s) T.vs.nodup r (cG _ hr) s.outer cI _ e2 e1)
end
end Geo
end
section
namespace Geo
def Up(x:V):Prop:=0<x.y\/(x.y=0/\0<x.x)
def Dn(x:V):Prop:=x.y<0\/(x.y=0/\x.x<0)
instance(x:V):Decidable (Up x):=by unfold Up;infer_instance
instance(x:V):Decidable (Dn x):=by unfold Dn;infer_instance
def neg(x:V):V:=⟨-x.x,-x.y⟩
def lQ(x y:V):cross y x= -cross x y:=by unfold cross;grind
section
variable {v:Nat->V} {m:Nat}
end
end Geo
end
namespace Geo
def vv(r:aD)(i:Nat):V:=nth r (i % r.length)
end Geo
section
namespace Geo
def On(o:Bool)(v x:V):Prop:=if o=true then Up (sub x v)else Dn (sub x v)
section
variable {W:List V} {side:V->V->Prop} {ins:P3->Bool}
def Ccw(v x y:V):Prop:=0<ev (lin v x) (pt y)
def Tri.sector(N:Net W side){a b c:V}(h:Tri W side ins a b c){x:V}(hx:side a x):¬(Ccw a b x/\Ccw a x c):=by
 unfold Ccw;rintro⟨h1,h2⟩;have h2':0<ev (lin c a) (pt x):=by rw[<-iH c a x];exact h2
 obtain⟨f,hf,hle⟩:=h.free N a x hx (1+(ev (lin b c) (pt x)).natAbs) 1 (by omega) (by omega) (by omega);dsimp only at hle;simp only[bI,cq,or_false]at hf;rcases hf with rfl|rfl|rfl
 .rw[cH,du]at hle;omega
 .rw[iH a b c]at hle;have:=dS (show 1<=ev (lin a b) (pt c) by have:=h.left;omega) (show 0<=1+((ev (lin b c) (pt x)).natAbs:Int) by omega);omega
 .rw[cX,du]at hle;omega
def Mid(W:List V)(side:V->V->Prop)(ins:P3->Bool)(o:Bool)(v x:V):Prop:=On o v x/\∃y,Tri W side ins v x y/\On (!o) v y
open Classical in
open Classical in
variable {v u w:V}
open Classical in
noncomputable def cnt(W:List V)(side:V->V->Prop)(ins:P3->Bool)(o:Bool)(v:V):Int:=if∃x,Mid W side ins o v x then 1 else 0
end
end Geo
end
section
namespace Geo
section
variable {s:Shape} {D:List S}
end
open Classical in
open Classical in
open Classical in
section
variable {s:Shape} {D:List S}
end
end Geo
end
section
namespace Geo
def Jj{a b c w:V}(na:aX a 2000=true)(nb:aX b 2000=true)(nc:aX c 2000=true)(nw:aX w 2000=true)(h:0<ev (lin a b) (pt c)):
  cT [a,b,c] w=0↔¬(0<=ev (lin a b) (pt w)/\0<=ev (lin b c) (pt w)/\0<=ev (lin c a) (pt w)):=by
 have m4:∀{x:V},aX x 2000=true->aX x 4000=true:=λh=>ko h (by omega);have hv:cY [a,b,c] =true:=(rh (rr na nb nc)).2 (by unfold turn;rw[qM,<-dt];exact h);have hp:cn (dq w)=true:=by rw[z7];exact m4 nw
 have e2:cT [a,b,c] w=2↔0<ev (lin a b) (pt w)/\0<ev (lin b c) (pt w)/\0<ev (lin c a) (pt w):=by unfold cT;rw[m4 nw];have:=aA7 hv (dq w) hp (by rw[<-dt];exact h);unfold j0 at this;rw[rp]at this;simp only[Bool.not_true,lN,if_false];rw[this];simp only[dX,po,bI,cq,or_false,forall_eq_or_imp,forall_eq];exact Iff.rfl
 have on1:(∃e∈aJ [a,b,c],onS e w=true)->cT [a,b,c] w=1:=by
  rintro⟨e,he,ho⟩;have ve:bD e=true:=by rw[rp]at he;simp only[bI,cq,or_false]at he;rcases he with rfl|rfl|rfl<;>simp[bD,m4 na,m4 nb,m4 nc]
  unfold cT bg;rw[m4 nw,hv,hp];exact yH ⟨e,he,(Fj e w).2 ((gi ve).1 ho)⟩
 have r1:ev (lin b c) (pt a)=ev (lin a b) (pt c):=iH a b c;have r2:ev (lin c a) (pt b)=ev (lin a b) (pt c):=by unfold ev lin pt;grind
 constructor
 .rintro h0 ⟨h1,h2,h3⟩;have seg:∀{x y z:V},aX x 4000=true->aX y 4000=true->0<ev (lin x y) (pt z)->ev (lin x y) (pt w)=0->0<=ev (lin y z) (pt w)->0<=ev (lin z x) (pt w)->onS ⟨x,y⟩ w=true:=λ{x y z} hx hy hd h0 h1 h2=>by have g:=qP (c:=z) h0;exact LY hx hy h1 h2 hd (by rw[g];unfold cmb pt;simp)
  by_cases z1:ev (lin a b) (pt w)=0
  .have:=on1 ⟨⟨a,b⟩,by rw[rp];simp,by grind⟩;omega
  .by_cases z2:ev (lin b c) (pt w)=0
   .have:=on1 ⟨⟨b,c⟩,by rw[rp];simp,by grind⟩;omega
   .by_cases z3:ev (lin c a) (pt w)=0
    .have:=on1 ⟨⟨c,a⟩,by rw[rp];simp,by grind⟩;omega
    omega
 .intro hno;rcases JR [a,b,c] w with g|g|g
  .exact g
  .obtain⟨e,he,ho⟩:=Ji g;have comb:∀{x y:V},x≠y->aX x 4000=true->aX y 4000=true->onS ⟨x,y⟩ w=true->∀f:P3,0<=ev f (pt x)->0<=ev f (pt y)->0<=ev f (pt w):=λ{x y} hne hx hy ho f h1 h2=>by obtain⟨s,t,k,p1,p2,p3,p4,p5⟩:=Gb (by simp[bD,hx,hy]) hne ho;have e:=congrArg (ev f) p5;rw[ag,ag]at e;have:=mpp p1 h1;have:=mpp p2 h2;refine nnl p3 ?_;grind
   have nab:a≠b:=λg=>by rw[g,show ev (lin b b) (pt c)=0 by unfold ev lin pt;grind]at h;omega
   have nbc:b≠c:=λg=>by rw[g,cX]at h;omega
   have nca:c≠a:=λg=>by rw[g,cH]at h;omega
   have la:0<=ev (lin a b) (pt a)/\0<=ev (lin b c) (pt a)/\0<=ev (lin c a) (pt a):=⟨by rw[cH];omega,by omega,by rw[cX];omega⟩;have lb:0<=ev (lin a b) (pt b)/\0<=ev (lin b c) (pt b)/\0<=ev (lin c a) (pt b):=⟨by rw[cX];omega,by rw[cH];omega,by omega⟩;have lc:0<=ev (lin a b) (pt c)/\0<=ev (lin b c) (pt c)/\0<=ev (lin c a) (pt c):=⟨by omega,by rw[cX];omega,by rw[cH];omega⟩;rw[rp]at he;grind
  omega
def aBV(a b c:V):∃k:Int,0<k/\ctr a b c=⟨k*(p3 (fT a b c)).x,k*(p3 (fT a b c)).y,k*(p3 (fT a b c)).d⟩:=by
 unfold fT;split
 .rename_i h;refine⟨3,by omega,?_⟩;unfold ctr p3;grind
 .refine⟨1,by omega,?_⟩;unfold ctr p3;grind
def Kw(a b c:V):0<(fT a b c).den:=by unfold fT;grind
section
variable {s:Shape} {D:List S}
def Oz{k:Int}(hk:0<k)(p:P3):c8 s ⟨k*p.x,k*p.y,k*p.d⟩=c8 s p:=by
 unfold c8;rw[yJ hk]
 congr 1
 rw[fL,bh,bh];constructor
 .intro g r hr;rw[<-yJ hk];exact g r hr
 .intro g r hr;rw[yJ hk];exact g r hr
def Lm(h:VS s){p:Pt}(hp:cn p=true)(ho:∀e∈ao s,onP e p=false):eR s p=2↔c8 s (p3 p)=true:=by
 have w:∀r∈aE s,bg r p=if cK r (p3 p)then 2 else 0:=λr hr=>Ai (h.ring hr) hp λe he=>ho e (dG.2 ⟨r,hr,he⟩);rw[AG];unfold c8;rw[bj,bh,w _ cI];have hv:=(qC s).2 h;constructor
 .rintro⟨_,h1,h2⟩;refine⟨by grind,λq hq=> ?_⟩;have:=h2 q hq;rw[w q (cG _ hq)]at this;grind
 .rintro⟨h1,h2⟩;refine⟨hv,by rw[h1];rfl,λq hq=> ?_⟩;rw[w q (cG _ hq)];grind
def WO(h:VS s){p:Pt}(hp:cn p=true)(hw:eR s p=2):∀e∈ao s,onP e p=false:=by
 intro e he;obtain⟨r,hr,he⟩:=dG.1 he;refine pu.2 λho=> ?_;have one:bg r p=1:=by unfold bg;rw[(iF _).2 (h.ring hr),hp];exact yH ⟨e,he,ho⟩
 rw[AG]at hw;rcases bI.1 hr with e1|hr
 .grind
 grind
def lV(a b c:V):T3:=if turn a b c<0 then⟨a,c,b⟩else⟨a,b,c⟩
def U5(a b c:V):fT a c b=fT a b c:=by rw[<-EP,<-EP];exact Ja (by grind)
def K7(T:Tg s D){v:List V}(hv:∀x,x∈v↔x∈bk s){a b c:V}(hab:sides s D a b)(hbc:sides s D b c)(hca:sides s D c a)(hl:0<ev (lin a b) (pt c)):
  ((∀w∈v,w=a\/w=b\/w=c\/cT [a,b,c] w=0)/\eR s (fT a b c)=2)↔Tri (bk s) (sides s D) (c8 s) a b c:=by
 have N:=T.filled.net;have near:=λ{x} (hx:x∈bk s)=>i6 T.vs hx;have na:=near (N.mem hab);have nb:=near (N.mem hbc);have nc:=near (N.mem hca);have hp:=Te na nb nc;obtain⟨k,hk,ek⟩:=aBV a b c;have em:∀g:(∀w∈v,w=a\/w=b\/w=c\/cT [a,b,c] w=0),∀w∈bk s,0<=ev (lin a b) (pt w)->0<=ev (lin b c) (pt w)->0<=ev (lin c a) (pt w)->w=a\/w=b\/w=c:=λg w hw h1 h2 h3=>by
  rcases g w ((hv w).2 hw)with e|e|e|e
  .exact .inl e
  .grind
  .grind
  .exact absurd ⟨h1,h2,h3⟩ ((Jj na nb nc (near hw) hl).1 e)
 constructor
 .rintro⟨g1,g2⟩;refine⟨hab,hbc,hca,hl,em g1,?_⟩;show c8 s (ctr a b c)=true;rw[ek,Oz hk];exact(Lm T.vs hp (WO T.vs hp g2)).1 g2
 .intro X;refine⟨λw hw=> ?_,?_⟩
  .by_cases g:0<=ev (lin a b) (pt w)/\0<=ev (lin b c) (pt w)/\0<=ev (lin c a) (pt w)
   .rcases X.empty w ((hv w).1 hw) g.1 g.2.1 g.2.2 with e|e|e
    .exact .inl e
    .grind
    grind
   .exact .inr (.inr (.inr ((Jj na nb nc (by grind) hl).2 g)))
  .refine(Lm T.vs hp λe he=>pu.2 λho=> ?_).2 ?_
   .obtain⟨x,y,m,h1,h2,h3,h4,h5⟩:=HG (Kw a b c) (T.vs.rb he) ho;have cd:=Kw a b c;have pm:=bL h3 cd;obtain⟨f,hf,hle⟩:=X.free N e.a e.b (.inl (ig _ he)) x y h1 h2 (by omega);dsimp only at hle;have q:=(CJ hl).2 f hf;rw[ek,show ev f ⟨k*(p3 (fT a b c)).x,k*(p3 (fT a b c)).y,k*(p3 (fT a b c)).d⟩=k*ev f (p3 (fT a b c)) by unfold ev;grind]at q;have q2:0<ev f (p3 (fT a b c)):=jW hk q;have e1:x*ev f (pt e.a)+y*ev f (pt e.b)=m*ev f (p3 (fT a b c)):=by rw[<-ag,h5];unfold ev p3;grind
    have:=bL h3 q2;omega
   .have:=X.mid;change c8 s (ctr a b c)=true at this;rw[ek,Oz hk]at this;exact this
end
end Geo
end
section
namespace Geo
def Aa{a b c:V}(h:0<turn a b c):lV a b c=⟨a,b,c⟩:=by unfold lV;grind
def EO{a b c:V}(h:0<turn a b c):lV a c b=⟨a,b,c⟩:=by unfold lV;rw[if_pos (by rw[tL];omega)]
def FS{a b c:V}:0<turn a b c↔0<ev (lin a b) (pt c):=by unfold turn;rw[qM,dt]
section
variable {s:Shape} {D:List S}
def Ly(T:Tg s D){v:List V}(hv:∀x,x∈v↔x∈bk s)(hn:v.Nodup){i j k:Nat}(hij:i<j)(hjk:j<k)(hk:k<v.length)
  (h1:sides s D (nth v i) (nth v j)) (h2:sides s D (nth v j) (nth v k)) (h3:sides s D (nth v i) (nth v k)):
  lW s v i j k=true↔(turn (nth v i) (nth v j) (nth v k)≠0/\Tri (bk s) (sides s D) (c8 s) (lV (nth v i) (nth v j) (nth v k)).a (lV (nth v i) (nth v j) (nth v k)).b (lV (nth v i) (nth v j) (nth v k)).c):=by
 have N:=T.filled.net;have near:=λ{x} (hx:x∈bk s)=>i6 T.vs hx;have na:=near (N.mem h1);have nb:=near (N.mem h2);have nc:=near (N.mem (N.symm h2));have idx:∀n,n<v.length->∀m,m<v.length->(n≠m↔nth v n≠nth v m):=λn h1 m h2=>⟨λh e=>h (fS hn h1 h2 e),by grind⟩;have all:∀R:aD,(∀w,cT (c5 (nth v i) (nth v j) (nth v k)) w=cT R w)->(((bM v.length).all λn=> !(n !=i&&n !=j&&n !=k&&cT (c5 (nth v i) (nth v j) (nth v k)) (nth v n) !=0))=true↔∀w∈v,w=nth v i\/w=nth v j\/w=nth v k\/cT R w=0):=λR hR=>by
  rw[bh];constructor
  .intro g w hw;obtain⟨n,hn',rfl⟩:=eL.1 hw;grind
  .intro g n hn';have hn':=cD.1 hn';have:=g (nth v n) (dO hn');grind
 unfold lW;rw[bj,bj,bne_iff_ne,beq_iff_eq];generalize hA:nth v i=a at*;generalize hB:nth v j=b at*;generalize hC:nth v k=c at*;rcases q9 (turn a b c) 0 with g|g|g
 .have g':0<turn a c b:=by rw[tL];omega
  have hl:=FS.1 g';have hval:VR [a,c,b] :=(iF _).1 ((rh (rr na nc nb)).2 g');have eT:c5 a b c=bw [a,c,b] :=by unfold c5 dD;rw[if_pos g,if_pos ((iF _).2 hval)]
  have hw:∀w,cT (c5 a b c) w=cT [a,c,b] w:=λw=>by rw[eT];exact J7 hval (by have:=nV (r:=[a,c,b]) (by simp);omega) w
  have eo:lV a b c=⟨a,c,b⟩:=by unfold lV;rw[if_pos g]
  rw[eo,<-K7 T hv h3 (N.symm h2) (N.symm h1) hl,<-U5 a b c,all _ hw];grind
 .simp[g]
 .have hl:=FS.1 g;have hval:VR [a,b,c] :=(iF _).1 ((rh (rr na nb nc)).2 g);have eT:c5 a b c=bw [a,b,c] :=by unfold c5 dD;rw[if_neg (by omega),if_pos ((iF _).2 hval)]
  have hw:∀w,cT (c5 a b c) w=cT [a,b,c] w:=λw=>by rw[eT];exact J7 hval (by have:=nV (r:=[a,b,c]) (by simp);omega) w
  rw[Aa g,<-K7 T hv h1 h2 (N.symm h3) hl,all _ hw];grind
structure Idx(s:Shape)(D:List S)(v:List V)(L:List (Nat×Nat×Nat)):Prop where
 nodup:L.Nodup
 mem:∀i j k,(i,j,k)∈L↔i<j/\j<k/\k<v.length/\sides s D (nth v i) (nth v j)/\sides s D (nth v i) (nth v k)/\sides s D (nth v j) (nth v k)/\lW s v i j k=true
def pO(v:List V)(p:Nat×Nat×Nat):T3:=lV (nth v p.1) (nth v p.2.1) (nth v p.2.2)
def Idx.all3(T:Tg s D){v:List V}(hv:∀x,x∈v↔x∈bk s)(hn:v.Nodup){L:List (Nat×Nat×Nat)}(I:Idx s D v L):All3 (bk s) (sides s D) (c8 s) (L.map (pO v)):=by
 have N:=T.filled.net;have get:∀{p},p∈L->p.1<p.2.1/\p.2.1<p.2.2/\p.2.2<v.length/\turn (nth v p.1) (nth v p.2.1) (nth v p.2.2)≠0/\Tri (bk s) (sides s D) (c8 s) (pO v p).a (pO v p).b (pO v p).c:=λ{p} hp=>by obtain⟨i,j,k⟩:=p;obtain⟨h1,h2,h3,h4,h5,h6,h7⟩:=(I.mem i j k).1 hp;obtain⟨g1,g2⟩:=(Ly T hv hn h1 h2 h3 h4 h6 h5).1 h7;exact⟨h1,h2,h3,g1,g2⟩
 refine⟨λt ht=> ?_,λa b c h=> ?_,?_⟩
 .grind
 ·
  have put:∀{i j k:Nat} {t:T3},i<j->j<k->k<v.length->sides s D (nth v i) (nth v j)->sides s D (nth v i) (nth v k)->sides s D (nth v j) (nth v k)->turn (nth v i) (nth v j) (nth v k)≠0->lV (nth v i) (nth v j) (nth v k)=t->Tri (bk s) (sides s D) (c8 s) t.a t.b t.c->t∈L.map (pO v):=λ{i j k t} h1 h2 h3 h4 h5 h6 h7 h8 h9=>by subst h8;exact bR.2 ⟨(i,j,k),(I.mem i j k).2 ⟨h1,h2,h3,h4,h5,h6,(Ly T hv hn h1 h2 h3 h4 h6 h5).2 ⟨h7,h9⟩⟩,rfl⟩
  have ht:0<turn a b c:=FS.2 h.left;have ht1:0<turn b c a:=by rw[<-vB];exact ht
  have ht2:0<turn c a b:=by rw[<-vB];exact ht1
  have f1:turn a c b≠0:=by rw[tL];omega
  have f2:turn b a c≠0:=by rw[tL];omega
  have f3:turn c b a≠0:=by rw[tL];omega
  have ab:=h.ab;have bc:=h.bc;have ca:=h.ca;obtain⟨i,hi,rfl⟩:=eL.1 ((hv a).2 (N.mem ab));obtain⟨j,hj,rfl⟩:=eL.1 ((hv b).2 (N.mem bc));obtain⟨k,hk,rfl⟩:=eL.1 ((hv c).2 (N.mem ca));have n1:i≠j:=λe=>N.ne ab (by rw[e]);have n2:j≠k:=λe=>N.ne bc (by rw[e]);have n3:k≠i:=λe=>N.ne ca (by rw[e]);rcases DM n1 with g1|g1<;>rcases DM n2 with g2|g2<;>rcases DM n3 with g3|g3
  .omega
  .exact .inl (put g1 g2 hk ab (N.symm ca) bc (by omega) (Aa ht) h)
  .exact .inr (.inr (put g3 g1 hj ca (N.symm bc) ab (by omega) (Aa ht2) h.rot.rot))
  .exact .inl (put g3 g2 hj (N.symm ca) ab (N.symm bc) f1 (EO ht) h)
  .exact .inr (.inl (put g2 g3 hi bc (N.symm ab) ca (by omega) (Aa ht1) h.rot))
  .exact .inr (.inl (put g1 g3 hk (N.symm ab) bc (N.symm ca) f2 (EO ht1) h.rot))
  .exact .inr (.inr (put g2 g1 hi (N.symm bc) ca (N.symm ab) f3 (EO ht2) h.rot.rot))
  .omega
 .rw[km];refine(List.Pairwise.and_mem.1 (oV.1 I.nodup)).imp ?_;rintro⟨i,j,k⟩ ⟨i',j',k'⟩ ⟨hp,hq,hne⟩;obtain⟨a1,a2,a3,_,_⟩:=get hp;obtain⟨b1,b2,b3,_,_⟩:=get hq;dsimp only at a1 a2 a3 b1 b2 b3;have vs:∀{i j k:Nat} (x:V),(x=(pO v (i,j,k)).a\/x=(pO v (i,j,k)).b\/x=(pO v (i,j,k)).c)↔(x=nth v i\/x=nth v j\/x=nth v k):=λ{i j k} x=>by unfold pO lV;grind
  have same:(∀x,(x=nth v i\/x=nth v j\/x=nth v k)->(x=nth v i'\/x=nth v j'\/x=nth v k'))->False:=λg=>by
   have k1:∀n,n<v.length->(nth v n=nth v i'\/nth v n=nth v j'\/nth v n=nth v k')->n=i'\/n=j'\/n=k':=λn hn' h=>by
    rcases h with h|h|h
    .exact .inl (fS hn hn' (by omega) h)
    .exact .inr (.inl (fS hn hn' (by omega) h))
    .exact .inr (.inr (fS hn hn' (by omega) h))
   have m1:=k1 i (by omega) (g _ (.inl rfl));have m2:=k1 j (by omega) (g _ (.inr (.inl rfl)));have m3:=k1 k (by omega) (g _ (.inr (.inr rfl)));grind
  refine⟨λe=>same λx hx=> ?_,λe=>same λx hx=> ?_,λe=>same λx hx=> ?_⟩
  .rw[<-vs x]at hx|-;grind
  .rw[<-vs x]at hx|-;rw[e]at hx;unfold T3.rot at hx;grind
  .rw[<-vs x]at hx|-;rw[e]at hx;unfold T3.rot at hx;grind
end
end Geo
end
section
namespace Geo
section
variable (s:Shape) (v:List V) (T:Tab)
def kL(i j:Nat):Nat->List (Nat×Nat×Nat)
 |0=>[]
 |m+1=>kL i j m++(if T i (j+1+m)&&(T j (j+1+m)&&lW s v i j (j+1+m))then [(i,j,j+1+m)]else [])
def jL(i:Nat):Nat->List (Nat×Nat×Nat)
 |0=>[]
 |m+1=>jL i m++(if T i (i+1+m)then kL s v T i (i+1+m) (v.length-(i+1+m+1))else [])
def iL:Nat->List (Nat×Nat×Nat)
 |0=>[]
 |i+1=>iL i++jL s v T i (v.length-(i+1))
variable {s v T}
def ye{i j:Nat}:∀{m:Nat} {a b c:Nat},(a,b,c)∈kL s v T i j m↔a=i/\b=j/\j<c/\c<j+1+m/\T i c=true/\T j c=true/\lW s v i j c=true
 |0,a,b,c=>by
  unfold kL;grind
 |m+1,a,b,c=>by
  unfold kL;rw[bl,ye];grind
def ND{i j:Nat}:∀m,(kL s v T i j m).Nodup
 |0=>DK
 |m+1=>by
  unfold kL;rw[lv];refine⟨ND m,by grind,?_⟩;rintro⟨a,b,c⟩ hp q hq e;have:=ye.1 hp;grind
def CE{i:Nat}:∀{m:Nat} {a b c:Nat},(a,b,c)∈jL s v T i m↔a=i/\i<b/\b<i+1+m/\b<c/\c<v.length/\T i b=true/\T i c=true/\T b c=true/\lW s v i b c=true
 |0,a,b,c=>by
  unfold jL;grind
 |m+1,a,b,c=>by
  unfold jL;rw[bl,CE];constructor
  .rintro(⟨h1,h2,h3,h4⟩|h)
   .grind
   .split at h
    .obtain⟨h1,rfl,h3,h4,h5,h6,h7⟩:=ye.1 h;grind
    .cases h
  .rintro⟨h1,h2,h3,h4,h5,h6,h7,h8,h9⟩;by_cases g:b=i+1+m
   .subst g;right;rw[if_pos h6];exact ye.2 (by grind)
   grind
def NE{i:Nat}:∀m,(jL s v T i m).Nodup
 |0=>DK
 |m+1=>by
  unfold jL;rw[lv];refine⟨NE m,by split;exact ND _;simp,?_⟩;rintro⟨a,b,c⟩ hp q hq e;subst e;have:=CE.1 hp;split at hq
  .have:=ye.1 hq;omega
  .cases hq
def HO:∀{n:Nat} {a b c:Nat},(a,b,c)∈iL s v T n↔a<n/\a<b/\b<c/\c<v.length/\T a b=true/\T a c=true/\T b c=true/\lW s v a b c=true
 |0,a,b,c=>by
  unfold iL;grind
 |n+1,a,b,c=>by
  unfold iL;rw[bl,HO,CE];grind
def NI:∀n,(iL s v T n).Nodup
 |0=>DK
 |n+1=>by
  unfold iL;rw[lv];refine⟨NI n,NE _,?_⟩;rintro⟨a,b,c⟩ hp q hq e;subst e;have:=HO.1 hp;have:=CE.1 hq;omega
end
def Uk{l:List S}{a b:V}:il l a b=true↔eC l a b:=by
 unfold il eC;rw[jd];constructor
 .rintro⟨e,he,h⟩;simp only[jQ,bj,beq_iff_eq]at h;rcases h with⟨h1,h2⟩|⟨h1,h2⟩
  .left;rw[<-h1,<-h2];exact he
  .right;rw[<-h1,<-h2];exact he
 grind
section
variable {s:Shape} {v:List V} {T:Tab}
def aBL{D:List S}(hT:∀i k,i<v.length->k<v.length->(T i k=true↔sides s D (nth v i) (nth v k))):Idx s D v (iL s v T v.length):=by refine⟨NI _,λi j k=> ?_⟩;rw[HO];grind
end
end Geo
end
section
namespace Geo
def T3.ring(t:T3):aD:=[t.a,t.b,t.c]
def Co(r:aD):T3:=⟨nth r 0,nth r 1,nth r 2⟩
def Rt(t u:T3):Prop:=t=u\/t=u.rot\/t=u.rot.rot
def aBX(t:T3):∃u:T3,Rt u t/\bw t.ring=u.ring:=by
 have h:=nV (r:=t.ring) (by simp[T3.ring]);unfold bw;generalize dP t.ring=n at h;match n,h with
 |0,_=>exact⟨t,.inl rfl,rfl⟩
 |1,_=>exact⟨t.rot,.inr (.inl rfl),rfl⟩
 |2,_=>exact⟨t.rot.rot,.inr (.inr rfl),rfl⟩
def bgn(t:T3):T3:=Co (bw t.ring)
def P8(t:T3):Rt (bgn t) t/\bw t.ring=(bgn t).ring:=by
 obtain⟨u,h1,h2⟩:=aBX t;have:bgn t=u:=by unfold bgn;rw[h2];rfl
 grind
def Rt.symm{t u:T3}(h:Rt t u):Rt u t:=by
 rcases h with rfl|rfl|rfl
 .exact .inl rfl
 .exact .inr (.inr rfl)
 .exact .inr (.inl rfl)
def Rt.trans{t u w:T3}(h:Rt t u)(g:Rt u w):Rt t w:=by
 rcases h with rfl|rfl|rfl<;>rcases g with rfl|rfl|rfl
 .exact .inl rfl
 .exact .inr (.inl rfl)
 .exact .inr (.inr rfl)
 .exact .inr (.inl rfl)
 .exact .inr (.inr rfl)
 .exact .inl rfl
 .exact .inr (.inr rfl)
 .exact .inl rfl
 .exact .inr (.inl rfl)
section
variable {W:List V} {side:V->V->Prop} {ins:P3->Bool}
def Tri.rt{t u:T3}(h:Tri W side ins t.a t.b t.c)(g:Rt u t):Tri W side ins u.a u.b u.c:=by
 rcases g with rfl|rfl|rfl
 .exact h
 .exact h.rot
 .exact h.rot.rot
def Pc{t u:T3}:¬Rt t u↔(t≠u/\t≠u.rot/\t≠u.rot.rot):=by unfold Rt;grind
def All3.rots{TL:List T3}(A:All3 W side ins TL){f:T3->T3}(hf:∀t,Rt (f t) t):All3 W side ins (TL.map f):=by
 refine⟨λt ht=> ?_,λa b c h=> ?_,?_⟩
 .obtain⟨u,hu,rfl⟩:=bR.1 ht;exact(A.tri u hu).rt (hf u)
 .have key:∀u:T3,u∈TL->Rt u ⟨a,b,c⟩->(⟨a,b,c⟩:T3)∈TL.map f\/(⟨b,c,a⟩:T3)∈TL.map f\/(⟨c,a,b⟩:T3)∈TL.map f:=λu hu hr=>by
   have m:=List.mem_map_of_mem (f:=f) hu;rcases(hf u).trans hr with e|e|e
   .grind
   .rw[e]at m;exact .inr (.inl m)
   .rw[e]at m;exact .inr (.inr m)
  rcases A.all a b c h with h|h|h
  .exact key _ h (.inl rfl)
  .exact key _ h (.inr (.inl rfl))
  .exact key _ h (.inr (.inr rfl))
 .rw[km];refine A.once.imp λ{t u} h=> ?_;rw[<-Pc]at h|-;exact λg=>h (((hf t).symm.trans g).trans (hf u))
def All3.perm'{TL TM:List T3}(A:All3 W side ins TL)(p:TL.Perm TM):All3 W side ins TM:=by
 refine⟨λt ht=>A.tri t (p.mem_iff.2 ht),λa b c h=> ?_,?_⟩
 .simp only[<-p.mem_iff];exact A.all a b c h
 .refine(p.pairwise_iff λ{t u} h=> ?_).1 A.once;rw[<-Pc]at h|-;exact λg=>h g.symm
end
end Geo
end
section
namespace Geo
section
variable {s:Shape} {D:List S}
def X5(T:Tg s D){v:List V}(hv:∀x,x∈v↔x∈bk s)(hn:v.Nodup){L:List (Nat×Nat×Nat)}(I:Idx s D v L){R:List aD}(p:R.Perm (L.map λq=>c5 (nth v q.1) (nth v q.2.1) (nth v q.2.2))):
  ∃TL,All3 (bk s) (sides s D) (c8 s) TL/\R=TL.map T3.ring:=by
 have N:=T.filled.net;have e:(L.map λq=>c5 (nth v q.1) (nth v q.2.1) (nth v q.2.2))=((L.map (pO v)).map bgn).map T3.ring:=by
  rw[dU,dU];refine mU λq hq=> ?_;obtain⟨i,j,k⟩:=q;obtain⟨h1,h2,h3,sij,sik,sjk,he⟩:=(I.mem i j k).1 hq;have na:=i6 T.vs (N.mem sij);have nb:=i6 T.vs (N.mem sjk);have nc:=i6 T.vs (N.mem (N.symm sjk));have ht:turn (nth v i) (nth v j) (nth v k)≠0:=by unfold lW at he;rw[bj,bj,bne_iff_ne]at he;exact he.1.1
  show c5 (nth v i) (nth v j) (nth v k)=(bgn (lV (nth v i) (nth v j) (nth v k))).ring;rw[<-(P8 _).2];unfold c5 dD lV;by_cases g:turn (nth v i) (nth v j) (nth v k)<0
  .rw[if_pos g,if_pos g,if_pos ((rh (rr na nc nb)).2 (by rw[tL];omega))];rfl
  .rw[if_neg g,if_neg g,if_pos ((rh (rr na nb nc)).2 (by omega))];rfl
 rw[e]at p;have q:=p.map Co;rw[dU,show(Co∘T3.ring)=id from rfl,List.map_id]at q;refine⟨R.map Co,((I.all3 T hv hn).rots λt=>(P8 t).1).perm' q.symm,?_⟩;rw[dU]
 conv=>lhs;rw[<-List.map_id R]
 refine mU λr hr=> ?_;obtain⟨t,_,rfl⟩:=bR.1 (p.mem_iff.1 hr);rfl
end
end Geo
end
section
namespace Geo
section
variable {s:Shape} {D:List S}
end
end Geo
end
section
namespace Geo
section
variable {s:Shape} {D:List S}
variable (T:Tg s D) {q:Pt} (hq:cn q=true) (hqd:0<q.den)
include T hq hqd
end
end Geo
end
namespace Geo
def iB(v:V):Prop:=0<v.y\/(v.y=0/\0<v.x)
instance(v:V):Decidable (iB v):=by unfold iB;infer_instance
def dot(a b:V):Int:=a.x*b.x+a.y*b.y
def alt(a b:V):Prop:=(iB a/\¬iB b)\/((iB a↔iB b)/\0<cross a b)
instance(a b:V):Decidable (alt a b):=by unfold alt;infer_instance
def wD(f t:V):Int:=if 0<cross f t then 0 else if cross f t<0 then 2 else if dot f t<0 then 1 else 3
def qh(f a b:V):Bool:=decide (wD f a<wD f b)||(decide (wD f a=wD f b)&&decide (0<cross a b))
def nz(v:V):Prop:=¬(v.x=0/\v.y=0)
def jo(a b:V):Prop:=¬(cross a b=0/\0<=dot a b)
def ZU(a b:V):dot b a=dot a b:=by unfold dot;grind
def GW{a:V}(ha:iB a){k:Int}(hk:0<=k):0<=k*a.y/\(k*a.y=0->0<=k*a.x/\(k*a.x=0->k=0)):=by
 rcases ha with h|⟨h,h2⟩
 .refine⟨cJ hk (by omega),λh0=> ?_⟩;rcases cp.1 h0 with h1|h1
  .grind
  .omega
 .rw[h,du];refine⟨kk _,λ_=>⟨cJ hk (by omega),λh0=> ?_⟩⟩;rcases cp.1 h0 with h1|h1
  .exact h1
  .omega
def aCJ{a b c:V}(ha:iB a)(hb:iB b)(hc:iB c){i j k:Int}(hi:0<=i)(hj:0<=j)(hk:0<=k)(hx:i*a.x+j*b.x+k*c.x=0)(hy:i*a.y+j*b.y+k*c.y=0):i=0/\j=0/\k=0:=by obtain⟨a1,a2⟩:=GW ha hi;obtain⟨b1,b2⟩:=GW hb hj;obtain⟨c1,c2⟩:=GW hc hk;omega
def eV(v:V):Int:=if iB v then 1 else-1
def HY{v:V}(h:nz v):iB ⟨eV v*v.x,eV v*v.y⟩:=by
 unfold eV nz at*;by_cases hp:iB v
 .simp_all
 .unfold iB at*;grind
def H6(v:V):eV v*eV v=1:=by unfold eV;split<;>rfl
def aA9(u v w:V):cross u v*w.x+cross v w*u.x+cross w u*v.x=0/\cross u v*w.y+cross v w*u.y+cross w u*v.y=0:=by unfold cross;grind
def xg{u v w:V}(hu:nz u)(hv:nz v)(hw:nz w)(h1:0<=eV w*cross u v)(h2:0<=eV u*cross v w)(h3:0<=eV v*cross w u):cross u v=0/\cross v w=0/\cross w u=0:=by obtain⟨x,y⟩:=aA9 u v w;have sw:=H6 w;have su:=H6 u;have sv:=H6 v;have key:=aCJ (HY hw) (HY hu) (HY hv) h1 h2 h3 (by grind) (by grind);grind
def AS{u v w:V}(hu:nz u)(hv:nz v)(hw:nz w)(h1:eV w*cross u v<=0)(h2:eV u*cross v w<=0)(h3:eV v*cross w u<=0):cross u v=0/\cross v w=0/\cross w u=0:=by have:=xg hv hu hw (by rw[lQ u v,nL];omega) (by rw[lQ w u,nL];omega) (by rw[lQ v w,nL];omega);rw[lQ u v,lQ w u,lQ v w]at this;omega
def qJ{u v:V}(hu:nz u)(hv:nz v)(h:cross u v=0):(0<dot u v/\(iB u↔iB v))\/(dot u v<0/\(iB u↔¬iB v)):=by
 have e1:dot u u*v.x=dot u v*u.x:=by unfold dot cross at*;grind
 have e2:dot u u*v.y=dot u v*u.y:=by unfold dot cross at*;grind
 have hd:0<dot u u:=by
  unfold dot nz at*;have sq:∀x:Int,0<=x*x:=λx=>by
   rcases Int.le_total 0 x with h|h
   .exact cJ h h
   .have:=cJ (show 0<= -x by omega) (show 0<= -x by omega);grind
  have h1:=sq u.x;have h2:=sq u.y;by_cases hx:u.x=0
  .have hy:u.y≠0:=by grind
   have:u.y*u.y≠0:=λh=>by rcases cp.1 h with h|h<;>exact hy h
   omega
  .have:u.x*u.x≠0:=λh=>by rcases cp.1 h with h|h<;>exact hx h
   omega
 generalize dot u u=d at*;generalize dot u v=k at*;have sg:∀a b:Int,d*a=k*b->(0<k->(0<a↔0<b)/\(a=0↔b=0))/\(k<0->(0<a↔b<0)/\(a=0↔b=0)/\(a<0↔0<b))/\(k=0->a=0):=by
  intro a b e;obtain⟨p1,p2,p3,p4,p5,p6⟩:=iq d a;obtain⟨q1,q2,q3,q4,q5,q6⟩:=iq k b;refine⟨λhk=> ?_,λhk=> ?_,λhk=> ?_⟩
  .grind
  .grind
  .grind
 obtain⟨x1,x2,x3⟩:=sg _ _ e1;obtain⟨y1,y2,y3⟩:=sg _ _ e2;rcases q9 k 0 with hk|hk|hk
 .unfold iB nz at*;omega
 .exact absurd (by grind) hv
 .unfold iB;omega
def Ic(u v w:V):Prop:=(alt u v/\alt v w)\/(alt v w/\alt w u)\/(alt w u/\alt u v)
def YO{u v w:V}(hu:nz u)(hv:nz v)(hw:nz w)(_h1:jo u v)(_h2:jo v w)(_h3:jo w u):qh u v w=true↔Ic u v w:=by have t1:=xg hu hv hw;have t2:=AS hu hv hw;have l1:=qJ hu hv;have l3:=qJ hw hu;have d3:=ZU w u;have c3:=lQ w u;unfold jo at _h1 _h2 _h3;unfold eV at t1 t2;unfold qh Ic alt wD;generalize cross u v=a at*;grind
end Geo
section
namespace Geo
def GD{a b:V}(h:alt a b):¬alt b a:=by have c:=lQ a b;unfold alt at*;grind
def sF(p q:V)(cw:Bool)(b:V):List V->V
 |[] =>b
 |x::l=>if x=q then sF p q cw b l else if b=q\/qh (sub q p) (sub x p) (sub b p)≠cw then sF p q cw x l else sF p q cw b l
def fV(l:List V)(p q:V)(cw:Bool):V:=sF p q cw q l
def nf{p q m:V}{cw:Bool}(hm:m≠q){S:V->Prop}(H1:∀x,S x->x≠q->x≠m->qh (sub q p) (sub m p) (sub x p)≠cw)(H2:∀x,S x->x≠q->x≠m->¬qh (sub q p) (sub x p) (sub m p)≠cw):
  ∀(l:List V) (b:V),(∀x∈l,S x)->(b=q\/S b)->(b=m\/m∈l)->sF p q cw b l=m
 |[],b,_,_,h=>by
  rcases h with h|h
  .exact h
  .cases h
 |x::l,b,hl,hb,h=>by
  have hl':∀y∈l,S y:=by grind
  have hx:=hl x cI;unfold sF;by_cases e1:x=q
  .rw[if_pos e1];refine nf hm H1 H2 l b hl' hb ?_;grind
  .rw[if_neg e1];by_cases e2:x=m
   .subst e2;by_cases e3:b=x
    .subst e3;split
     .exact nf hm H1 H2 l b hl' (.inr hx) (.inl rfl)
     .exact nf hm H1 H2 l b hl' (.inr hx) (.inl rfl)
    .rw[if_pos]
     .exact nf hm H1 H2 l x hl' (.inr hx) (.inl rfl)
     grind
   .by_cases e3:b=m
    .subst e3;rw[if_neg]
     .exact nf hm H1 H2 l b hl' hb (.inl rfl)
     grind
    .have hml:m∈l:=by
      rcases h with h|h
      .grind
      .grind
     split
     .exact nf hm H1 H2 l x hl' (.inr hx) (.inr hml)
     .exact nf hm H1 H2 l b hl' hb (.inr hml)
def AP{p q:V}{cw:Bool}:∀(l:List V),(∀x∈l,x=q)->sF p q cw q l=q
 |[],_=>rfl
 |x::l,h=>by
  unfold sF;rw[if_pos (h x (by grind))];exact AP l (by grind)
structure Fan(p:V)(L:List V):Prop where
 nz:∀x∈L,nz (sub x p)
 apart:∀x∈L,∀y∈L,x≠y->jo (sub x p) (sub y p)
 sorted:L.Pairwise λa b=>alt (sub a p) (sub b p)
def PR(a:V):¬alt a a:=λh=>GD h h
section
variable {p:V} {L:List V}
def Fan.nodup(F:Fan p L):L.Nodup:=Iv (R:=λa b=>alt (sub a p) (sub b p)) (λ{a b} h (e:a=b)=>by subst e;exact PR _ h) F.sorted
def Fan.lt(F:Fan p L){i j:Nat}(hi:i<L.length)(hj:j<L.length)(h:i<j):alt (sub L[i] p) (sub L[j] p):=sW.1 F.sorted i j hi hj h
def Fan.ix(F:Fan p L){i j:Nat}(hi:i<L.length)(hj:j<L.length):alt (sub L[i] p) (sub L[j] p)↔i<j:=by
 constructor
 .intro h;rcases zM i j with h1|h1|h1
  .exact h1
  .subst h1;exact absurd h (PR _)
  .exact absurd h (GD (F.lt hj hi h1))
 .exact F.lt hi hj
def Fan.ne(F:Fan p L){i j:Nat}(hi:i<L.length)(hj:j<L.length)(h:i≠j):L[i]≠L[j] :=by
 rcases DM h with h1|h1
 .exact sW.1 F.nodup i j hi hj h1
 .exact(sW.1 F.nodup j i hj hi h1).symm
def Fan.soon(F:Fan p L){i j k:Nat}(hi:i<L.length)(hj:j<L.length)(hk:k<L.length)(h1:i≠j)(h2:j≠k)(h3:k≠i):
  qh (sub L[i] p) (sub L[j] p) (sub L[k] p)=true↔(i<j/\j<k)\/(j<k/\k<i)\/(k<i/\i<j):=by
 have m:∀{i:Nat} (hi:i<L.length),L[i]∈L:=by grind
 rw[YO (F.nz _ (m hi)) (F.nz _ (m hj)) (F.nz _ (m hk)) (F.apart _ (m hi) _ (m hj) (F.ne hi hj h1)) (F.apart _ (m hj) _ (m hk) (F.ne hj hk h2)) (F.apart _ (m hk) _ (m hi) (F.ne hk hi h3))];unfold Ic;rw[F.ix hi hj,F.ix hj hk,F.ix hk hi]
def Fan.next(F:Fan p L){l:List V}(hl:∀x,x∈l↔x∈L){i:Nat}(hi:i<L.length){j:Nat}(hj:j<L.length)(hij:j=(i+1) % L.length):fV l p L[i] false=L[j] :=by
 by_cases h1:L.length=1
 .have e:j=i:=by rw[hij,h1];omega
  subst e;refine AP l λx hx=> ?_;obtain⟨k,hk,rfl⟩:=jT.1 ((hl x).1 hx);grind
 .have hc:(j=i+1/\i+1<L.length)\/(j=0/\i+1=L.length):=by
   by_cases h:i+1<L.length
   .rw[hij,dh h];omega
   .have:i+1=L.length:=by omega
    simp_all
  have hne:j≠i:=by omega
  refine nf (S:=λx=>x∈L) (F.ne hj hi hne) ?_ ?_ l _ (by grind) (.inl rfl) (by grind)
  .intro x hx e1 e2;obtain⟨k,hk,rfl⟩:=jT.1 hx;have k1:k≠i:=by grind
   have k2:k≠j:=by grind
   rw[(F.soon hi hj hk (nO hne) (nO k2) k1).2 (by omega)];simp
  .intro x hx e1 e2;obtain⟨k,hk,rfl⟩:=jT.1 hx;have k1:k≠i:=by grind
   have k2:k≠j:=by grind
   have:=mt (F.soon hi hk hj (nO k1) k2 hne).1 (by omega);grind
def Fan.prev(F:Fan p L){l:List V}(hl:∀x,x∈l↔x∈L){i:Nat}(hi:i<L.length){j:Nat}(hj:j<L.length)(hij:j=(i+L.length-1) % L.length):fV l p L[i] true=L[j] :=by
 by_cases h1:L.length=1
 .have e:j=i:=by omega
  subst e;refine AP l λx hx=> ?_;obtain⟨k,hk,rfl⟩:=jT.1 ((hl x).1 hx);grind
 .have hc:(i=j+1)\/(i=0/\j+1=L.length):=by
   by_cases h:i=0
   .rw[hij,dh (by omega)];omega
   .rw[hij,show i+L.length-1=(i-1)+L.length by omega,pk,dh (by omega)];omega
  have hne:j≠i:=by omega
  refine nf (S:=λx=>x∈L) (F.ne hj hi hne) ?_ ?_ l _ (by grind) (.inl rfl) (by grind)
  .intro x hx e1 e2;obtain⟨k,hk,rfl⟩:=jT.1 hx;have k1:k≠i:=by grind
   have k2:k≠j:=by grind
   have:=mt (F.soon hi hj hk (nO hne) (nO k2) k1).1 (by omega);omega
  .intro x hx e1 e2;obtain⟨k,hk,rfl⟩:=jT.1 hx;have k1:k≠i:=by grind
   have k2:k≠j:=by grind
   rw[(F.soon hi hk hj (nO k1) k2 hne).2 (by omega)];simp
end
end Geo
end
section
namespace Geo
section
variable {W:List V} {side:V->V->Prop}
def lD{a p:V}(h:a≠p):nz (sub a p):=λ⟨h1,h2⟩=>h (by obtain⟨ax,ay⟩:=a;obtain⟨px,py⟩:=p;unfold sub at h1 h2;grind)
def Net.fanApart(N:Net W side){p x y:V}(hx:side p x)(hy:side p y)(hne:x≠y):jo (sub x p) (sub y p):=λ⟨h1,h2⟩=>hne (by
 symm;refine N.ray hx hy (by rw[dt];exact h1) ?_;have e:ev (ae p x) (pt y)=dot (sub x p) (sub y p):=by unfold ev ae pt dot sub;grind
 omega)
def aBQ(N:Net W side){p:V}{L:List V}(h:∀x∈L,side p x)(hs:L.Pairwise λa b=>alt (sub a p) (sub b p)):Fan p L where
 nz:=λx hx=>lD (N.ne (h x hx)).symm
 apart:=λx hx y hy hne=>N.fanApart (h x hx) (h y hy) hne
 sorted:=hs
end
def Xw{a b c:V}(ha:nz a)(hb:nz b)(hc:nz c)(h1:alt a b)(h2:alt b c):alt a c:=by have t1:=xg ha hb hc;have t2:=AS ha hb hc;have c3:=lQ a c;unfold eV at t1 t2;unfold alt at*;grind
def aA6{a b:V}(ha:nz a)(hb:nz b)(h:jo a b)(h1:¬alt a b):alt b a:=by have l:=qJ ha hb;have c:=lQ a b;unfold jo at h;unfold alt at*;grind
end Geo
end
section
namespace Geo
def cS:V->List V->List S
 |_,[] =>[]
 |a,x::l=>⟨a,x⟩::cS x l
def cyc:List V->List S
 |[] =>[]
 |a::l=>cS a (l++[a])
def uk:∀(a:V) (l:List V) (x:V) (m:List V),cS a (l++x::m)=cS a (l++[x])++cS x m
 |a,[],x,m=>rfl
 |a,y::l,x,m=>by
  show(⟨a,y⟩:S)::cS y (l++x::m)=(⟨a,y⟩:S)::(cS y (l++[x])++cS x m);rw[uk y l x m]
def At:∀(a:V) (l:List V) (x:V),(cS a (l++[x])).map S.a=a::l
 |a,[],x=>rfl
 |a,y::l,x=>by
  show a::(cS y (l++[x])).map S.a=_;rw[At y l x]
def Av:∀(a:V) (l:List V),(cS a l).map S.b=l
 |a,[] =>rfl
 |a,y::l=>by
  show y::(cS y l).map S.b=_;rw[Av y l]
def vO:∀r:List V,(cyc r).map S.a=r
 |[] =>rfl
 |a::l=>At a l a
def FI{r:List V}(h:r.Nodup):(cyc r).Nodup:=by rw[<-vO r]at h;exact Iv (by grind) (km.1 h)
def qp{r:List V}{e:S}(h:e∈cyc r):e.a∈r:=by rw[<-vO r];grind
def qo{r:List V}{e:S}(h:e∈cyc r):e.b∈r:=by
 cases r with
 |nil=>cases h
 |cons a l=>
  have:e.b∈(cS a (l++[a])).map S.b:=bR.2 ⟨e,h,rfl⟩;rw[Av]at this;grind
def PI(a:V)(l:List V):(cyc (l++[a])).Perm (cyc (a::l)):=by
 cases l with
 |nil=>exact .refl _
 |cons x m=>
  show(cS x (m++[a] ++[x])).Perm (⟨a,x⟩::cS x (m++[a]));rw[jt,DN,uk];exact(wo (l₁:=cS x (m++[a])) (l₂:=cS a [x]))
structure CX(r:List V):Prop where
 three:3<=r.length
 nodup:r.Nodup
 left:∀e∈cyc r,∀v∈r,0<=ev (lin e.a e.b) (pt v)
def CX.rot{a:V}{l:List V}(h:CX (a::l)):CX (l++[a]) where
 three:=by have:=h.three;grind
 nodup:=(wo (l₁:=l) (l₂:=[a])).nodup_iff.2 h.nodup
 left:=λe he v hv=>h.left e ((PI a l).mem_iff.1 he) v (by grind)
def U2{u p q:V}(hu:nz u)(hp:nz p)(hq:nz q)(h1:jo u p)(h2:jo u q)(h3:jo p q)(a:0<=cross u p)(b:cross u q<=0)(c:cross p q<=0):0<cross u p/\cross u q<0:=by have t1:=xg hu hp hq;have t2:=AS hu hp hq;have l1:=qJ hu hp;have l2:=qJ hu hq;have l3:=qJ hp hq;have c3:=lQ u q;unfold eV at t1 t2;unfold jo at h1 h2 h3;grind
def PK{f:P3}{o w u v:V}(h0:ev f (pt o)=0)(hw:0<=ev f (pt w))(hu:0<=ev f (pt u))(hD:0<ev (lin o w) (pt u))(h1:0<=ev (lin o w) (pt v))(h2:0<=ev (lin u o) (pt v)):0<=ev f (pt v):=by
 have e:ev (lin o w) (pt u)*ev f (pt v)=ev (lin u o) (pt v)*ev f (pt w)+ev (lin o w) (pt v)*ev f (pt u)+(ev (lin o w) (pt u)-ev (lin u o) (pt v)-ev (lin o w) (pt v))*ev f (pt o):=by unfold ev lin pt;grind
 have a:=cJ h2 hw;have b:=cJ h1 hu;rw[h0,du]at e;by_cases hn:ev f (pt v)<0
 .have:=fz hD hn;omega
 .omega
section
variable {W:List V} {side:V->V->Prop}
def Zd{i j v p:V}{f k1 k2:P3}(hij:i≠j)(h1i:ev k1 (pt i)=0)(h1j:0<ev k1 (pt j))(h2j:ev k2 (pt j)=0)(h2i:0<ev k2 (pt i))(fi:0<=ev f (pt i))(fj:0<=ev f (pt j))
  (hv:ev (lin i j) (pt v)<=0) (v1:0<=ev k1 (pt v)) (v2:0<=ev k2 (pt v)) (hp:0<ev (lin i j) (pt p)) (p1:0<=ev k1 (pt p)) (p2:0<=ev k2 (pt p)) (fp:ev f (pt p)=0):0<=ev f (pt v):=by
 have hL:=i9 hij;have hQ:ev (lin i j) (cmb (ev (lin i j) (pt p)) (pt v) (-ev (lin i j) (pt v)) (pt p))=0:=by rw[ag,Int.neg_mul,Int.mul_comm];omega
 have g:=lS hQ;have e:∀k:P3,ev k (cmb (ev (lin i j) (pt p)) (pt v) (-ev (lin i j) (pt v)) (pt p))=ev (lin i j) (pt p)*ev k (pt v)+ -ev (lin i j) (pt v)*ev k (pt p):=λk=>ag ..;generalize cmb (ev (lin i j) (pt p)) (pt v) (-ev (lin i j) (pt v)) (pt p)=Q at*;have m:∀k:P3,(bo i j*Q.d-ev (ae i j) Q)*ev k (pt i)+ev (ae i j) Q*ev k (pt j)=bo i j*ev k Q:=λk=>by rw[<-ag,g];unfold ev;grind
 generalize ev (ae i j) Q=t at*;generalize bo i j*Q.d-t=s at*;generalize bo i j=L at*;have q1:0<=ev k1 Q:=by rw[e k1];exact Int.add_nonneg (cJ (by omega) v1) (cJ (by omega) p1)
 have q2:0<=ev k2 Q:=by rw[e k2];exact Int.add_nonneg (cJ (by omega) v2) (cJ (by omega) p2)
 have m1:=m k1;have m2:=m k2;have m3:=m f;rw[h1i,du]at m1;rw[h2j,du]at m2;have t0:0<=t:=by
  have:=cJ (show 0<=L by omega) q1;by_cases hn:t<0
  .have:=nK hn h1j;omega
  .omega
 have s0:0<=s:=by
  have:=cJ (show 0<=L by omega) q2;by_cases hn:s<0
  .have:=nK hn h2i;omega
  .omega
 have f0:0<=L*ev f Q:=by rw[<-m3];exact Int.add_nonneg (cJ s0 fi) (cJ t0 fj)
 rw[e f,fp,du,Int.add_zero]at f0;by_cases hn:ev f (pt v)<0
 .have:=fz hL (fz hp hn);omega
 .omega
def Net.onSide(N:Net W side){i j a:V}{k1 k2:P3}(hij:side i j)(ha:a∈W)(h1i:ev k1 (pt i)=0)(h1j:0<ev k1 (pt j))(h2j:ev k2 (pt j)=0)(h2i:0<ev k2 (pt i))(h0:ev (lin i j) (pt a)=0)(a1:0<=ev k1 (pt a))(a2:0<=ev k2 (pt a)):a=i\/a=j:=by
 have hL:=i9 (N.ne hij);have g:=lS h0;have m:∀k:P3,(bo i j*(pt a).d-ev (ae i j) (pt a))*ev k (pt i)+ev (ae i j) (pt a)*ev k (pt j)=bo i j*ev k (pt a):=λk=>by rw[<-ag,g];unfold ev;grind
 have m1:=m k1;have m2:=m k2;rw[h1i,du]at m1;rw[h2j,du]at m2;refine N.clear hij ha (bo i j*(pt a).d-ev (ae i j) (pt a)) (ev (ae i j) (pt a)) (bo i j) ?_ ?_ (by rw[g];unfold cmb pt;simp) hL
 .by_cases hn:bo i j*(pt a).d-ev (ae i j) (pt a)<0
  .have:=nK hn h2i;have:=cJ (show 0<=bo i j by omega) a2;omega
  .omega
 .by_cases hn:ev (ae i j) (pt a)<0
  .have:=nK hn h1j;have:=cJ (show 0<=bo i j by omega) a1;omega
  .omega
end
end Geo
end
section
namespace Geo
structure Jn(W:List V)(side:V->V->Prop)(r1 r2:List V)(i j x y z w:V):Prop where
 net:Net W side
 c1:CX r1
 c2:CX r2
 s1:∀e∈cyc r1,side e.a e.b
 s2:∀e∈cyc r2,side e.a e.b
 ij:(⟨i,j⟩:S)∈cyc r1
 jx:(⟨j,x⟩:S)∈cyc r1
 yi:(⟨y,i⟩:S)∈cyc r1
 ji:(⟨j,i⟩:S)∈cyc r2
 iw:(⟨i,w⟩:S)∈cyc r2
 zj:(⟨z,j⟩:S)∈cyc r2
 t1:0<=ev (lin y i) (pt w)
 t2:0<=ev (lin z j) (pt x)
 yw:y≠w
 zx:z≠x
 yj:y≠j
 xi:x≠i
 zi:z≠i
 wj:w≠j
section
variable {W:List V} {side:V->V->Prop} {r1 r2:List V} {i j x y z w:V}
def Jn.symm(J:Jn W side r1 r2 i j x y z w):Jn W side r2 r1 j i w z y x:=
 ⟨J.net,J.c2,J.c1,J.s2,J.s1,J.ji,J.iw,J.zj,J.ij,J.jx,J.yi,J.t2,J.t1,J.zx,J.yw,J.zi,J.wj,J.yj,J.xi⟩
def Jn.corner(J:Jn W side r1 r2 i j x y z w):0<ev (lin i j) (pt y)/\ev (lin i j) (pt w)<0:=by
 have N:=J.net;have sj:=J.s1 _ J.ij;have sy:=N.symm (J.s1 _ J.yi);have sw:=J.s2 _ J.iw;dsimp only at sj sy sw;have a:=J.c1.left _ J.ij y (qp J.yi);have b:=J.c2.left _ J.ji w (qo J.iw);have c:=J.t1;dsimp only at a b;rw[jy]at b c;have k:=U2 (lD (N.ne sj).symm) (lD (N.ne sy).symm) (lD (N.ne sw).symm) (N.fanApart sj sy J.yj.symm) (N.fanApart sj sw J.wj.symm) (N.fanApart sy sw J.yw)
  (by rw[<-dt];exact a) (by rw[<-dt];omega) (by rw[<-dt];omega)
 rw[<-dt,<-dt]at k;exact k
def Jn.ends(J:Jn W side r1 r2 i j x y z w):0<ev (lin y i) (pt j)/\0<ev (lin j x) (pt i)/\0<ev (lin i w) (pt j)/\0<ev (lin j i) (pt z):=by
 obtain⟨a,b⟩:=J.corner;obtain⟨c,d⟩:=J.symm.corner;refine⟨by rw[<-iH];exact a,?_,?_,c⟩
 .rw[iH,jy];omega
 .rw[iH,jy];omega
def Jn.pos(J:Jn W side r1 r2 i j x y z w){a:V}(ha:a∈r1):a=i\/a=j\/0<ev (lin i j) (pt a):=by
 obtain⟨e1,e2,_,_⟩:=J.ends;have h:=J.c1.left _ J.ij a ha;dsimp only at h;by_cases h0:ev (lin i j) (pt a)=0
 .have m:a∈W:=by rw[<-vO r1]at ha;obtain⟨e,he,rfl⟩:=bR.1 ha;exact J.net.mem (J.s1 e he)
  rcases J.net.onSide (J.s1 _ J.ij) m (cX y i) e1 (cH j x) e2 h0 (J.c1.left _ J.yi a ha) (J.c1.left _ J.jx a ha)with e|e
  .exact .inl e
  grind
 omega
def Jn.half(J:Jn W side r1 r2 i j x y z w){e:S}(he:e∈cyc r1)(hne:e≠⟨i,j⟩){v:V}(hv:v∈r2):0<=ev (lin e.a e.b) (pt v):=by
 obtain⟨e1,e2,e3,e4⟩:=J.ends;have hi:=qp J.ij;have hj:=qo J.ij;have vji:=J.c2.left _ J.ji v hv;have viw:=J.c2.left _ J.iw v hv;have vzj:=J.c2.left _ J.zj v hv;dsimp only at vji viw vzj;have v1:0<=ev (lin y i) (pt v):=PK (cX y i) J.t1 (by omega) e3 viw vji;have v2:0<=ev (lin j x) (pt v):=PK (cH j x) (by omega) (by rw[iH];exact J.t2) e4 vji vzj;have vij:ev (lin i j) (pt v)<=0:=by rw[jy]at vji;omega
 have key:∀p∈r1,ev (lin e.a e.b) (pt p)=0->0<ev (lin i j) (pt p)->0<=ev (lin e.a e.b) (pt v):=λp hp h0 h1=>
  Zd (J.net.ne (J.s1 _ J.ij)) (cX y i) e1 (cH j x) e2 (J.c1.left e he i hi) (J.c1.left e he j hj) vij v1 v2 h1 (J.c1.left _ J.yi p hp) (J.c1.left _ J.jx p hp) h0
 have ka:=key e.a (qp he) (cH _ _);have kb:=key e.b (qo he) (cX _ _);rcases J.pos (qp he)with h|h|h
 .rcases J.pos (qo he)with g|g|g
  .exact absurd (h.trans g.symm) (J.net.ne (J.s1 e he))
  .exact absurd (by cases e;grind) hne
  .exact kb g
 .rcases J.pos (qo he)with g|g|g
  .grind
  .exact absurd (h.trans g.symm) (J.net.ne (J.s1 e he))
  .exact kb g
 .exact ka h
end
def BW(i j:V)(A B:List V):cyc (i::(B++j::A))=cS i (B++[j])++cS j (A++[i]):=by show cS i (B++j::A++[i])=_;rw[jt,kM,uk]
def CX.join{W:List V}{side:V->V->Prop}{i j x y z w:V}{A B:List V}(J:Jn W side (i::j::A) (j::i::B) i j x y z w):CX (i::(B++j::A)):=by
 have n1:=J.c1.nodup;have n2:=J.c2.nodup;have q1:=mV.1 (FI J.c1.nodup);have q2:=mV.1 (FI J.c2.nodup);have dis:∀a∈A,∀b∈B,a≠b:=λa ha b hb e=>by subst e;have p1:=J.pos (a:=a) (by grind);have p2:=J.symm.pos (a:=a) (by grind);rw[jy]at p2;grind
 refine⟨?_,?_,?_⟩
 .have h1:=J.c1.three;grind
 .grind
 .intro e he v hv;have vv:v∈i::j::A\/v∈j::i::B:=by
   rcases bI.1 hv with h|h
   .grind
   .grind
  rw[BW]at he;rcases bl.1 he with he|he
  .have h2:e∈cyc (j::i::B):=cG _ he;rcases vv with h|h
   .exact J.symm.half h2 (λg=>q2.1 (g▸he)) h
   .exact J.c2.left e h2 v h
  .have h1:e∈cyc (i::j::A):=cG _ he;rcases vv with h|h
   .exact J.c1.left e h1 v h
   .exact J.half h1 (λg=>q1.1 (g▸he)) h
end Geo
end
namespace Geo
def kw:∀(k l:List V),(cyc (l++k)).Perm (cyc (k++l))
 |[],l=>by grind
 |a::k,l=>by
  have h1:=kw k (l++[a]);rw[jt,DN,<-jt]at h1;exact h1.trans (PI a (k++l))
def CX.swap:∀{k l:List V},CX (k++l)->CX (l++k)
 |[],l,h=>by grind
 |a::k,l,h=>by
  have h1:=CX.rot (a:=a) (l:=k++l) h;rw[jt]at h1;have h2:=CX.swap h1;grind
def Kh{α β:Type}{f:α->β}:∀{l:List α},(l.map f).Nodup->∀{a b:α},a∈l->b∈l->f a=f b->a=b
 |x::l,h,a,b,ha,hb,e=>by
  rw[dX,mV]at h;rcases bI.1 ha with ha|ha<;>rcases bI.1 hb with hb|hb
  .rw[ha,hb]
  .grind
  .grind
  .exact Kh h.2 ha hb e
def Bq{r:List V}(h:r.Nodup){e f:S}(he:e∈cyc r)(hf:f∈cyc r)(g:e.a=f.a):e=f:=
 Kh (f:=S.a) (by rw[vO];exact h) he hf g
def B6{r:List V}(h:CX r){i j:V}(hm:(⟨i,j⟩:S)∈cyc r):∃k l A,r=k++l/\l++k=i::j::A:=by
 have hi:=qp hm;obtain⟨k,l,rfl⟩:=zQ hi;have h2:=h.swap;have hp:=(kw k (i::l)).mem_iff (a:=(⟨i,j⟩:S));have hm2:=hp.2 hm;have h3:=h2.three;rw[kM]at h2 hm2 h3;match e:l++k with
 |[] =>grind
 |j'::A=>
  rw[e]at hm2 h2;have:=Bq h2.nodup hm2 (show(⟨i,j'⟩:S)∈cyc (i::j'::A)from cI) rfl;grind
structure Faces(nx:S->V)(H:S->Prop)(F:List (List V)):Prop where
 cx:∀r∈F,CX r
 once:(F.flatMap cyc).Nodup
 all:∀e,e∈F.flatMap cyc↔H e
 next:∀r∈F,∀e∈cyc r,∀f∈cyc r,e.b=f.a->nx e=f.b
def Faces.perm{nx:S->V}{H:S->Prop}{F G:List (List V)}(h:Faces nx H F)(p:F.Perm G):Faces nx H G where
 cx:=λr hr=>h.cx r (p.mem_iff.2 hr)
 once:=(p.flatMap_right cyc).nodup_iff.1 h.once
 all:=λe=>by rw[<-(p.flatMap_right cyc).mem_iff];exact h.all e
 next:=λr hr=>h.next r (p.mem_iff.2 hr)
def Faces.rotF{nx:S->V}{H:S->Prop}{k l:List V}{F:List (List V)}(h:Faces nx H ((k++l)::F)):Faces nx H ((l++k)::F):=by
 have p:(((k++l)::F).flatMap cyc).Perm (((l++k)::F).flatMap cyc):=by rw[ff,ff];exact(kw l k).append_right _
 refine⟨λr hr=> ?_,p.nodup_iff.1 h.once,λe=>by rw[<-p.mem_iff];exact h.all e,λr hr e he f hf=> ?_⟩
 .rcases bI.1 hr with e|hr
  .subst e;exact(h.cx _ (by grind)).swap
  .exact h.cx r (by grind)
 .rcases bI.1 hr with g|hr
  .subst g;exact h.next _ (by grind) e ((kw k l).mem_iff.1 he) f ((kw k l).mem_iff.1 hf)
  .exact h.next r (by grind) e he f hf
def yn(i j:V)(F F':List (List V)):Prop:=∃r q A B F2,F.Perm (r::q::F2)/\(∃k l,r=k++l/\l++k=i::j::A)/\(∃k l,q=k++l/\l++k=j::i::B)/\F'=(i::(B++j::A))::F2
def yn.len{i j:V}{F F':List (List V)}(h:yn i j F F'):F.length=F'.length+1:=by obtain⟨r,q,A,B,F2,p,_,_,rfl⟩:=h;rw[p.length_eq];simp
def Faces.drop{W:List V}{side:V->V->Prop}(N:Net W side){nx nx':S->V}{H:S->Prop}{F:List (List V)}(Fc:Faces nx H F)(hs:∀e,H e->side e.a e.b){i j:V}(hij:H ⟨i,j⟩)(hji:H ⟨j,i⟩)
  (h1:∀e,H e->e.b=i->nx e=j->nx' e=nx ⟨j,i⟩) (h2:∀e,H e->e.b=j->nx e=i->nx' e=nx ⟨i,j⟩)
  (h3:∀e,H e->e≠⟨i,j⟩->e≠⟨j,i⟩->¬(e.b=i/\nx e=j)->¬(e.b=j/\nx e=i)->nx' e=nx e)
  (t1:∀y,H ⟨y,i⟩->nx ⟨y,i⟩=j->y≠nx ⟨j,i⟩/\0<=ev (lin y i) (pt (nx ⟨j,i⟩))) (t2:∀z,H ⟨z,j⟩->nx ⟨z,j⟩=i->z≠nx ⟨i,j⟩/\0<=ev (lin z j) (pt (nx ⟨i,j⟩))):
  ∃F',Faces nx' (λe=>H e/\e≠⟨i,j⟩/\e≠⟨j,i⟩) F'/\yn i j F F':=by
 obtain⟨A,F1,G1,r0,p1,r1⟩:∃A F1,Faces nx H ((i::j::A)::F1)/\∃r,F.Perm (r::F1)/\∃k l,r=k++l/\l++k=i::j::A:=by obtain⟨r,hr,hm⟩:=dG.1 ((Fc.all _).2 hij);obtain⟨k,l,A,e1,e2⟩:=B6 (Fc.cx r hr) hm;have p:=S9 hr;have g:=Fc.perm p;rw[e1]at g;have g2:=g.rotF;rw[e2]at g2;exact⟨A,_,g2,r,by rw[e1]at p|-;exact p,k,l,e1,e2⟩
 have c1:=G1.cx _ cI;have ij1:(⟨i,j⟩:S)∈cyc (i::j::A):=cI;have n1:=c1.nodup;rw[mV,mV]at n1;obtain⟨n3,n4,n5⟩:=n1;obtain⟨x,A',eA⟩:∃x A',A=x::A':=by
  match A,c1.three with
  |x::A',_=>grind
 obtain⟨y,A2,eA2⟩:∃y A2,A=A2++[y] :=by
  rcases TA A with e|⟨A2,y,e⟩
  .grind
  grind
 have jx1:(⟨j,x⟩:S)∈cS j (A++[i]):=by rw[eA];exact cI
 have yi1:(⟨y,i⟩:S)∈cS j (A++[i]):=by rw[eA2,jt,DN,uk];exact gq _ cI
 have up1:∀{e},e∈cS j (A++[i])->e∈cyc (i::j::A):=λh=>cG _ h;obtain⟨B,F2,G2,q0,p2,r2⟩:∃B F2,Faces nx H ((i::j::A)::(j::i::B)::F2)/\∃q,F1.Perm (q::F2)/\∃k l,q=k++l/\l++k=j::i::B:=by
  obtain⟨r,hr,hm⟩:=dG.1 ((G1.all _).2 hji);rcases bI.1 hr with e|hr
  .rw[e]at hm;have:=Bq c1.nodup hm (up1 jx1) rfl;grind
  .obtain⟨k,l,B,e1,e2⟩:=B6 (G1.cx r (by grind)) hm;have p:=S9 hr;have g:=(G1.perm (p.cons _)).perm (List.Perm.swap _ _ _);rw[e1]at g;have g2:=g.rotF;rw[e2]at g2;exact⟨B,_,g2.perm (List.Perm.swap _ _ _),r,by rw[e1]at p|-;exact p,k,l,e1,e2⟩
 clear G1;have m1:(i::j::A)∈(i::j::A)::(j::i::B)::F2:=by grind
 have m2:(j::i::B)∈(i::j::A)::(j::i::B)::F2:=by grind
 have m3:∀{r},r∈F2->r∈(i::j::A)::(j::i::B)::F2:=by grind
 have c2:=G2.cx _ m2;have ji2:(⟨j,i⟩:S)∈cyc (j::i::B):=cI;have n1:=c2.nodup;rw[mV,mV]at n1;obtain⟨k3,k4,k5⟩:=n1;obtain⟨w,B',eB⟩:∃w B',B=w::B':=by
  match B,c2.three with
  |w::B',_=>grind
 obtain⟨z,B2,eB2⟩:∃z B2,B=B2++[z] :=by
  rcases TA B with e|⟨B2,z,e⟩
  .grind
  grind
 have iw2:(⟨i,w⟩:S)∈cS i (B++[j]):=by rw[eB];exact cI
 have zj2:(⟨z,j⟩:S)∈cS i (B++[j]):=by rw[eB2,jt,DN,uk];exact gq _ cI
 have up2:∀{e},e∈cS i (B++[j])->e∈cyc (j::i::B):=λh=>cG _ h;have hm:∀{r e},r∈(i::j::A)::(j::i::B)::F2->e∈cyc r->H e:=λhr he=>(G2.all _).1 (by grind);have xA:x∈A:=by rw[eA];grind
 have yA:y∈A:=by rw[eA2];grind
 have wB:w∈B:=by rw[eB];grind
 have zB:z∈B:=by rw[eB2];grind
 have nij:nx ⟨i,j⟩=x:=G2.next _ m1 _ ij1 _ (up1 jx1) rfl;have nji:nx ⟨j,i⟩=w:=G2.next _ m2 _ ji2 _ (up2 iw2) rfl;have nyi:nx ⟨y,i⟩=j:=G2.next _ m1 _ (up1 yi1) _ ij1 rfl;have nzj:nx ⟨z,j⟩=i:=G2.next _ m2 _ (up2 zj2) _ ji2 rfl;have T1:=t1 y (hm m1 (up1 yi1)) nyi;have T2:=t2 z (hm m2 (up2 zj2)) nzj;rw[nji]at T1;rw[nij]at T2;have J:Jn W side (i::j::A) (j::i::B) i j x y z w:=⟨N,c1,c2,by grind,by grind,ij1,up1 jx1,up1 yi1,ji2,up2 iw2,up2 zj2,T1.2,T2.2,T1.1,T2.1,
  by grind,by grind,by grind,by grind⟩
 have cj:=CX.join J;have nj:=cj.nodup;rw[mV,bl,lv]at nj;have P:(((i::j::A)::(j::i::B)::F2).flatMap cyc).Perm (⟨i,j⟩::⟨j,i⟩::(((i::(B++j::A))::F2).flatMap cyc)):=by rw[ff,ff,ff,BW];show(⟨i,j⟩::(cS j (A++[i])++(⟨j,i⟩::(cS i (B++[j])++F2.flatMap cyc)))).Perm _;refine List.Perm.cons _ (List.perm_middle.trans (List.Perm.cons _ ?_));rw[<-jt];exact wo.append_right _
 have nd:=P.nodup_iff.1 G2.once;rw[mV,mV,bI]at nd;obtain⟨d1,d2,d3⟩:=nd;have d4:(⟨i,j⟩:S)∉((i::(B++j::A))::F2).flatMap cyc:=by grind
 have keep:∀r∈(i::j::A)::(j::i::B)::F2,∀e∈cyc r,∀f∈cyc r,e.b=f.a->e≠⟨i,j⟩->e≠⟨j,i⟩->f≠⟨i,j⟩->f≠⟨j,i⟩->nx' e=f.b:=λr hr e he f hf g e1 e2 f1 f2=>by
  have hn:=G2.next r hr e he f hf g;rw[<-hn];refine h3 e (hm hr he) e1 e2 ?_ ?_
  .rintro⟨p1,p2⟩;cases f;grind
  .rintro⟨p1,p2⟩;cases f;grind
 refine⟨(i::(B++j::A))::F2,⟨λr hr=> ?_,d3,λe=> ?_,λr hr e he f hf g=> ?_⟩,r0,q0,A,B,F2,p1.trans (p2.cons _),r1,r2,rfl⟩
 .rcases bI.1 hr with e|hr
  .grind
  .exact G2.cx r (m3 hr)
 .rw[<-G2.all,P.mem_iff,bI,bI];constructor
  .intro h;exact⟨.inr (.inr h),by grind,by grind⟩
  grind
 .have ne:∀{e},e∈cyc r->e≠⟨i,j⟩/\e≠⟨j,i⟩:=λh=>⟨λg=>d4 (g▸dG.2 ⟨_,hr,h⟩),λg=>d2 (g▸dG.2 ⟨_,hr,h⟩)⟩;obtain⟨e1,e2⟩:=ne he;obtain⟨f1,f2⟩:=ne hf;rcases bI.1 hr with hr|hr
  .subst hr;rw[BW]at he hf;have sB:∀{f},f∈cS i (B++[j])->f.a=i\/f.a∈B:=λ{f} h=>by
    have:f.a∈(cS i (B++[j])).map S.a:=by grind
    rw[At]at this;grind
   have sA:∀{f},f∈cS j (A++[i])->f.a=j\/f.a∈A:=λ{f} h=>by
    have:f.a∈(cS j (A++[i])).map S.a:=by grind
    rw[At]at this;grind
   have tB:∀{f},f∈cS i (B++[j])->f.b∈B\/f.b=j:=λ{f} h=>by
    have:f.b∈(cS i (B++[j])).map S.b:=by grind
    rw[Av]at this;grind
   have tA:∀{f},f∈cS j (A++[i])->f.b∈A\/f.b=i:=λ{f} h=>by
    have:f.b∈(cS j (A++[i])).map S.b:=by grind
    rw[Av]at this;grind
   have AB:∀v,v∈A->v∈B->False:=λv ha hb=>nj.2.2.2 v hb v (by grind) rfl;rcases bl.1 he with he|he<;>rcases bl.1 hf with hf|hf
   .grind
   .have ej:e.b=j:=by
     rcases tB he with h|h
     .grind
     .exact h
    rw[h2 e (hm m2 (up2 he)) ej (G2.next _ m2 e (up2 he) _ ji2 ej)];exact G2.next _ m1 _ ij1 f (up1 hf) (ej.symm.trans g)
   .have ei:e.b=i:=by
     rcases tA he with h|h
     .grind
     .exact h
    rw[h1 e (hm m1 (up1 he)) ei (G2.next _ m1 e (up1 he) _ ij1 ei)];exact G2.next _ m2 _ ji2 f (up2 hf) (ei.symm.trans g)
   grind
  grind
end Geo
section
namespace Geo
def Jo{u v t:V}(hu:nz u)(hv:nz v)(ht:nz t)(h1:jo u t)(h2:jo v t)(hc:0<cross v u)(hs:¬(0<cross v t/\0<cross t u)):qh u t v=true/\qh u v t≠true:=by have t1:=xg hv ht hu;have t2:=AS hv ht hu;have l2:=qJ hv ht;have c1:=lQ v u;have c2:=lQ t u;have c3:=lQ v t;unfold jo at h1 h2;unfold eV at t1 t2;unfold qh wD;grind
section
variable {W:List V} {side:V->V->Prop} {ins:P3->Bool}
def Tri.next(N:Net W side){a b c:V}(T:Tri W side ins a b c){l:List V}(hl:∀x,x∈l↔side b x):fV l b a true=c:=by
 have ba:=N.symm T.ab;have bc:=T.bc;have hc:c≠a:=N.ne T.ca;have hcr:0<cross (sub c b) (sub a b):=by rw[<-dt,iH];exact T.left
 refine nf (S:=λx=>side b x) hc ?_ ?_ l a (by grind) (.inl rfl) (by grind)
 .intro x hx e1 e2;exact(Jo (lD (N.ne ba).symm) (lD (N.ne bc).symm) (lD (N.ne hx).symm) (N.fanApart ba hx e1.symm) (N.fanApart bc hx e2.symm) hcr (by have:=T.rot.sector N hx;unfold Ccw at this;rw[dt,dt]at this;exact this)).2
 .intro x hx e1 e2;have:=(Jo (lD (N.ne ba).symm) (lD (N.ne bc).symm) (lD (N.ne hx).symm) (N.fanApart ba hx e1.symm) (N.fanApart bc hx e2.symm) hcr (by have:=T.rot.sector N hx;unfold Ccw at this;rw[dt,dt]at this;exact this)).1
  grind
def Tri.cx(N:Net W side){a b c:V}(T:Tri W side ins a b c):CX [a,b,c] where
 three:=by simp
 nodup:=by have h1:=N.ne T.ab;have h2:=N.ne T.bc;have h3:=N.ne T.ca;grind
 left:=by intro e he v hv;have l:=T.left;have l2:=T.rot.left;have l3:=T.rot.rot.left;have he:e∈([⟨a,b⟩,⟨b,c⟩,⟨c,a⟩] :List S):=he;simp only[bI,cq,or_false]at he hv;rcases he with rfl|rfl|rfl<;>rcases hv with rfl|rfl|rfl<;>first|(rw[cH];exact kk _)|(rw[cX];exact kk _)|grind
def aBR(H:Filled W side ins){TL:List T3}(A:All3 W side ins TL){DS:List S}(hn:DS.Nodup)(hm:∀e:S,e∈DS↔side e.a e.b/\Lft ins e.a e.b){nx:S->V}(hx:∀a b c,Tri W side ins a b c->nx ⟨a,b⟩=c):
  Faces nx (λe=>e∈DS) (TL.map λt=>[t.a,t.b,t.c]):=by
 have N:=H.net;have P:=A.perm H hn hm;have e:(TL.map λt=>[t.a,t.b,t.c]).flatMap cyc=TL.flatMap T3.sides:=by rw[Iw];rfl
 refine⟨λr hr=> ?_,by grind,λf=>by grind,λr hr f hf g hg h=> ?_⟩
 .obtain⟨t,ht,rfl⟩:=bR.1 hr;exact(A.tri t ht).cx N
 .obtain⟨t,ht,rfl⟩:=bR.1 hr;have T:=A.tri t ht;have h1:=N.ne T.ab;have h2:=N.ne T.bc;have h3:=N.ne T.ca;have hf:f∈([⟨t.a,t.b⟩,⟨t.b,t.c⟩,⟨t.c,t.a⟩] :List S):=hf;have hg:g∈([⟨t.a,t.b⟩,⟨t.b,t.c⟩,⟨t.c,t.a⟩] :List S):=hg;simp only[bI,cq,or_false]at hf hg;rcases hf with rfl|rfl|rfl<;>rcases hg with rfl|rfl|rfl<;>dsimp only at h|-
  .grind
  .grind
  .grind
  .grind
  .grind
  .exact hx _ _ _ T.rot
  .exact hx _ _ _ T.rot.rot
  .grind
  grind
end
end Geo
end
section
namespace Geo
section
variable {p:V} {L l l':List V}
def aAe{n a m:Nat}(ha:a<n)(h:m=(a+n-1) % n):(1<=a/\m+1=a)\/(a=0/\m+1=n):=by
 by_cases h0:a=0
 .rw[h,dh (by omega)];omega
 .rw[h,show a+n-1=(a-1)+n by omega,pk,dh (by omega)];omega
def aAp{n a m:Nat}(ha:a<n)(h:m=(a+1) % n):(a+1<n/\m=a+1)\/(a+1=n/\m=0):=by
 by_cases h0:a+1<n
 .rw[h,dh h0];omega
 .have:a+1=n:=by omega
  simp_all
def Fan.prevAt(F:Fan p L)(hl:∀x,x∈l↔x∈L){a:Nat}(ha:a<L.length):∃m,∃hm:m<L.length,fV l p L[a] true=L[m]/\((1<=a/\m+1=a)\/(a=0/\m+1=L.length)):=
 ⟨(a+L.length-1) % L.length,bz _ (by omega),F.prev hl ha (bz _ (by omega)) rfl,aAe ha rfl⟩
def Fan.nextAt(F:Fan p L)(hl:∀x,x∈l↔x∈L){a:Nat}(ha:a<L.length):∃m,∃hm:m<L.length,fV l p L[a] false=L[m]/\((a+1<L.length/\m=a+1)\/(a+1=L.length/\m=0)):=
 ⟨(a+1) % L.length,bz _ (by omega),F.next hl ha (bz _ (by omega)) rfl,aAp ha rfl⟩
def Fan.Wx(F:Fan p L)(hl:∀x,x∈l↔x∈L)(hl':∀x,x∈l'↔x∈L){q:V}(hq:q∈L):fV l' p q true=fV l p q true:=by obtain⟨a,ha,rfl⟩:=jT.1 hq;rw[F.prev hl ha (bz _ (by omega)) rfl,F.prev hl' ha (bz _ (by omega)) rfl]
def Fan.OT(F:Fan p L)(hl:∀x,x∈l↔x∈L){q:V}(hq:q∈L)(h:2<=L.length):fV l p q true≠q:=by obtain⟨a,ha,rfl⟩:=jT.1 hq;obtain⟨m,hm,e,h2⟩:=F.prevAt hl ha;rw[e];exact F.ne hm ha (by omega)
def Fan.LQ(F:Fan p L)(hl:∀x,x∈l↔x∈L){q j:V}(hq:q∈L)(h:fV l p q true=j):fV l p j false=q:=by obtain⟨a,ha,rfl⟩:=jT.1 hq;obtain⟨m,hm,e,h2⟩:=F.prevAt hl ha;obtain⟨k,hk,e3,h3⟩:=F.nextAt hl hm;grind
def Fan.PS(F:Fan p L)(hl:∀x,x∈l↔x∈L){j:V}(hj:j∈L)(h:3<=L.length):fV l p j false≠fV l p j true:=by obtain⟨a,ha,rfl⟩:=jT.1 hj;obtain⟨m,hm,e,h2⟩:=F.prevAt hl ha;obtain⟨k,hk,e3,h3⟩:=F.nextAt hl ha;rw[e,e3];exact F.ne hk hm (by omega)
def Fan.dropNext(F:Fan p L){j q:V}(hl:∀x,x∈l↔x∈L)(hl':∀x,x∈l'↔x∈L/\x≠j)(hq:q∈L)(hj:j∈L)(hne:q≠j):fV l' p q true=if fV l p q true=j then fV l p j true else fV l p q true:=by
 obtain⟨a,ha,rfl⟩:=jT.1 hq;obtain⟨b,hb,rfl⟩:=jT.1 hj;obtain⟨m,hm,e,h2⟩:=F.prevAt hl ha;obtain⟨c,hc,e3,h3⟩:=F.prevAt hl hb;rw[e,e3];have key:∀g (hg:g<L.length),g≠a->g≠b->(∀d,d<L.length->d≠a->d≠b->d≠g->((a<d/\d<g)\/(d<g/\g<a)\/(g<a/\a<d)))->fV l' p L[a] true=L[g] :=λg hg h1 h2 h3=>by
  refine nf (S:=λx=>x∈L/\x≠L[b]) (F.ne hg ha h1) ?_ ?_ l' _ (by grind) (.inl rfl) (.inr ((hl' _).2 ⟨by grind,F.ne hg hb h2⟩))
  .rintro x ⟨hx,hxb⟩ e1 e2;obtain⟨d,hd,rfl⟩:=jT.1 hx;have k1:d≠a:=by grind
   have k2:d≠g:=by grind
   have k3:d≠b:=by grind
   have:=h3 d hd k1 k3 k2;exact mt (F.soon ha hg hd (nO h1) (nO k2) k1).1 (by omega)
  .rintro x ⟨hx,hxb⟩ e1 e2;obtain⟨d,hd,rfl⟩:=jT.1 hx;have k1:d≠a:=by grind
   have k2:d≠g:=by grind
   have k3:d≠b:=by grind
   have:=h3 d hd k1 k3 k2;rw[(F.soon ha hd hg (nO k1) k2 h1).2 (by omega)];simp
 by_cases hmb:m=b
 .subst hmb;rw[if_pos rfl];by_cases hca:c=a
  .subst hca;refine AP l' λx hx=> ?_;obtain⟨hx,hxb⟩:=(hl' x).1 hx;obtain⟨d,hd,rfl⟩:=jT.1 hx;grind
  grind
 .rw[if_neg (F.ne hm hb hmb)];grind
end
def Nr{a b c:V}(h:0<=turn a b c):0<=ev (lin a b) (pt c):=by rw[dt];unfold turn sgn at h;omega
def Faces.dropR{W:List V}{side:V->V->Prop}(N:Net W side){l l' L:V->List V}{H:S->Prop}{F:List (List V)}{i j:V}
  (Fc:Faces (λe=>fV (l e.b) e.b e.a true) H F) (fan:∀p,Fan p (L p)) (hl:∀p x,x∈l p↔x∈L p) (hs:∀e,H e->side e.a e.b) (hH:∀e,H e->e.a∈L e.b)
  (hl':∀p x,x∈l' p↔x∈L p/\¬((p=i/\x=j)\/(p=j/\x=i))) (hij:H ⟨i,j⟩) (hji:H ⟨j,i⟩) (hi:3<=(L i).length) (hj:3<=(L j).length)
  (n1:0<=turn i (fV (l i) i j true) (fV (l i) i j false)) (n2:0<=turn j (fV (l j) j i true) (fV (l j) j i false)):
  ∃F',Faces (λe=>fV (l' e.b) e.b e.a true) (λe=>H e/\e≠⟨i,j⟩/\e≠⟨j,i⟩) F'/\yn i j F F':=by
 have ji:j∈L i:=hH _ hji;have ij:i∈L j:=hH _ hij;have li':∀x,x∈l' i↔x∈L i/\x≠j:=by grind
 have lj':∀x,x∈l' j↔x∈L j/\x≠i:=by grind
 refine Fc.drop N hs hij hji ?_ ?_ ?_ ?_ ?_
 .rintro⟨q,p⟩ he hb hn;dsimp only at hb hn|-;subst hb;have hq:q∈L p:=hH _ he;have hqj:q≠j:=λe=>by subst e;exact(fan p).OT (hl p) hq (by omega) hn
  rw[(fan p).dropNext (hl p) li' hq ji hqj,if_pos hn]
 .rintro⟨q,p⟩ he hb hn;dsimp only at hb hn|-;subst hb;have hq:q∈L p:=hH _ he;have hqj:q≠i:=λe=>by subst e;exact(fan p).OT (hl p) hq (by omega) hn
  rw[(fan p).dropNext (hl p) lj' hq ij hqj,if_pos hn]
 .rintro⟨q,p⟩ he e1 e2 g1 g2;have hq:q∈L p:=hH _ he;by_cases hp:p=i
  .subst hp;rw[(fan p).dropNext (hl p) li' hq ji (by grind),if_neg (by grind)]
  .by_cases hp2:p=j
   .subst hp2;rw[(fan p).dropNext (hl p) lj' hq ij (by grind),if_neg (by grind)]
   .exact(fan p).Wx (hl p) (by grind) hq
 .intro y hy hn;have e:=(fan i).LQ (hl i) (hH _ hy) hn;refine⟨λh=>(fan i).PS (hl i) ji hi (e.trans h),?_⟩;rw[e]at n1;rw[<-iH];exact Nr n1
 .intro z hz hn;have e:=(fan j).LQ (hl j) (hH _ hz) hn;refine⟨λh=>(fan j).PS (hl j) ij hj (e.trans h),?_⟩;rw[e]at n2;rw[<-iH];exact Nr n2
end Geo
end
namespace Geo
def tr(nx:S->V):Nat->List S->S->List V->List S×List V
 |0,U,_,r=>(U,r)
 |f+1,U,e,r=>if e∈U then(U,r)else tr nx f (U++[e]) ⟨e.b,nx e⟩ (r++[e.a])
def CQ{nx:S->V}{f:Nat}{U:List S}{e:S}{r:List V}(h:e∈U):tr nx f U e r=(U,r):=by
 cases f with
 |zero=>rfl
 |succ f=>exact if_pos h
def Gy{nx:S->V}{f:Nat}{U:List S}{e:S}{r:List V}(h:e∉U):tr nx (f+1) U e r=tr nx f (U++[e]) ⟨e.b,nx e⟩ (r++[e.a]):=if_neg h
def Nu{nx:S->V}:∀(l:List V) (a x:V) (m:List V) (z:V) (f:Nat) (U:List S) (r:List V),l++[z] =x::m->(∀e∈cS a (l++[z]),e∉U)->(cS a (l++[z])).Nodup->
  (∀e∈cS a (l++[z]),∀g∈cS a (l++[z]),e.b=g.a->e.b≠z->nx e=g.b)->(a::l).Nodup->z∉l->
  ∃y,(⟨y,z⟩:S)∈cS a (l++[z])/\tr nx (f+(l.length+1)) U ⟨a,x⟩ r=tr nx f (U++cS a (l++[z])) ⟨z,nx ⟨y,z⟩⟩ (r++a::l)
 |[],a,x,m,z,f,U,r,e,hU,hn,hx,_,_=>by
  obtain⟨rfl,_⟩:=List.cons.inj e;exact⟨a,cI,Gy (hU ⟨a,z⟩ cI)⟩
 |b::l,a,x,m,z,f,U,r,e,hU,hn,hx,hd,hz=>by
  obtain⟨rfl,em⟩:=List.cons.inj e;have hzb:b≠z:=by grind
  have hn2:(⟨a,b⟩:S)∉cS b (l++[z])/\(cS b (l++[z])).Nodup:=mV.1 hn;obtain⟨x2,m2,e2⟩:∃x2 m2,l++[z] =x2::m2:=by
   cases l with
   |nil=>grind
   |cons x2 l=>grind
  have hd2:=(mV.1 hd).2;obtain⟨y,hy,h⟩:=Nu l b x2 m2 z f (U++[⟨a,b⟩]) (r++[a]) e2 (λe he h=>by
    rcases bl.1 h with h|h
    .exact hU e (cG _ he) h
    grind) hn2.2
   (λe he g hg=>hx e (cG _ he) g (cG _ hg)) hd2 (by grind)
  refine⟨y,cG _ hy,?_⟩;have h0:=hU ⟨a,b⟩ cI;have hnx:nx ⟨a,b⟩=x2:=hx ⟨a,b⟩ cI ⟨b,x2⟩ (cG _ (show(⟨b,x2⟩:S)∈cS b (l++[z]) by rw[e2];exact cI)) rfl hzb;have st:tr nx (f+((b::l).length+1)) U ⟨a,b⟩ r=tr nx (f+(l.length+1)) (U++[⟨a,b⟩]) ⟨b,nx ⟨a,b⟩⟩ (r++[a]):=by rw[show f+((b::l).length+1)=f+(l.length+1)+1 by grind];exact Gy h0
  rw[st,hnx,h,jt,jt];rfl
def Faces.trace{nx:S->V}{H:S->Prop}{F:List (List V)}(Fc:Faces nx H F){r:List V}(hr:r∈F){e:S}(he:e∈cyc r){U:List S}(hU:∀g∈cyc r,g∉U){f:Nat}(hf:r.length<=f):
  ∃k l,r=k++l/\tr nx f U e [] =(U++cyc (l++k),l++k):=by
 obtain⟨i,j⟩:=e;obtain⟨k,l,A,e1,e2⟩:=B6 (Fc.cx r hr) he;refine⟨k,l,e1,?_⟩;have c:=Fc.cx r hr;have hp:(cyc (l++k)).Perm (cyc r):=by rw[e1];exact kw k l
 have c2:CX (l++k):=by rw[e1]at c;exact c.swap
 have hl:(l++k).length=r.length:=by rw[e1,fM,fM];omega
 rw[e2]at hp c2 hl|-;have hn:=c2.nodup;obtain⟨y,hy,h⟩:=Nu (nx:=nx) (j::A) i j (A++[i]) i (f-(A.length+2)) U [] rfl (λg hg=>hU g (hp.mem_iff.1 hg)) (FI hn)
  (λe he g hg h _=>Fc.next r hr e (hp.mem_iff.1 he) g (hp.mem_iff.1 hg) h) hn (by grind)
 have ef:f-(A.length+2)+((j::A).length+1)=f:=by simp only[iE]at hl|-;omega
 rw[ef]at h;have first:(⟨i,j⟩:S)∈cyc (i::j::A):=by grind
 have hnx:nx ⟨y,i⟩=j:=Fc.next r hr ⟨y,i⟩ (hp.mem_iff.1 hy) ⟨i,j⟩ (by grind) rfl;rw[h,hnx];exact CQ (gq _ first)
def oQ(nx:S->V)(f:Nat)(g:List V->List V):List S->List S×List (List V)->List S×List (List V)
 |[],x=>x
 |e::l,x=>oQ nx f g l ((tr nx f x.1 e []).1,if 0<(tr nx f x.1 e []).2.length then x.2++[g (tr nx f x.1 e []).2]else x.2)
def Et{nx:S->V}{H:S->Prop}{F:List (List V)}(Fc:Faces nx H F){f:Nat}(hf:∀r∈F,r.length<=f){g:List V->List V}(hg:∀r∈F,∀k l,r=k++l->g (l++k)=g r):
  ∀(l:List S) (x:List S×List (List V)) (F1 F2:List (List V)),(∀e∈l,H e)->F.Perm (F1++F2)->(∀e,e∈x.1↔e∈F1.flatMap cyc)->x.2.Perm (F1.map g)->
   (∀r∈F2,∀e∈cyc r,e∈l)->(oQ nx f g l x).2.Perm (F.map g)
 |[],x,F1,F2,_,hP,_,hx2,hl=>by
  have:F2=[] :=by
   cases F2 with
   |nil=>rfl
   |cons r F2=>
    have c:=Fc.cx r (by grind);match r,c.three with
    |a::b::r,_=>exact absurd (hl _ cI ⟨a,b⟩ cI) (by simp)
  subst this;rw[ww]at hP;exact hx2.trans (hP.symm.map g)
 |e::l,x,F1,F2,hH,hP,hx1,hx2,hl=>by
  unfold oQ;have he:e∈F.flatMap cyc:=(Fc.all e).2 (by grind);by_cases h1:e∈x.1
  .have t:tr nx f x.1 e [] =(x.1,[]):=CQ h1;rw[t];refine Et Fc hf hg l _ F1 F2 (by grind) hP hx1 hx2 λr hr g hg=> ?_;rcases bI.1 (hl r hr g hg)with h|h
   .have nd:=(hP.flatMap_right cyc).nodup_iff.1 Fc.once;grind
   .exact h
  .have h2:e∈F2.flatMap cyc:=by
    have:=(hP.flatMap_right cyc).mem_iff.1 he;rw[uV]at this;rcases bl.1 this with h|h
    .grind
    .exact h
   obtain⟨r,hr,her⟩:=dG.1 h2;have hP2:=S9 hr;have hP3:F.Perm ((r::F1)++F2.erase r):=by grind
   have hrF:r∈F:=by grind
   have nd:=(hP3.flatMap_right cyc).nodup_iff.1 Fc.once;rw[kM,ff,uV,lv]at nd;have dis:∀g∈cyc r,g∉x.1:=by grind
   obtain⟨k,m,e1,t⟩:=Fc.trace hrF her dis (hf r hrF);have hp:(cyc (m++k)).Perm (cyc r):=by rw[e1];exact kw k m
   have hlen:0<(m++k).length:=by have:=(Fc.cx r hrF).three;rw[e1,fM]at this;rw[fM];omega
   rw[t];rw[if_pos hlen,hg r hrF k m e1];refine Et Fc hf hg l _ (r::F1) (F2.erase r) (by grind) hP3 (λq=> ?_) ?_ λr2 hr2 q hq=> ?_
   .rw[bl,hx1,hp.mem_iff,ff,bl,or_comm]
   .grind
   grind
end Geo
namespace Geo
def BZ{x y:List V}{u:V}(h:∀v∈x++u::y,leV u v)(hx:u∉x):bw (x++u::y)=u::(y++x):=by
 have hn:nth (x++u::y) x.length=u:=by unfold nth;rw[eI,lO (bZ _),Nat.sub_self];rfl
 have e:x.length=dP (x++u::y):=Tm (by grind) (λi hi=>by rw[hn];exact h _ (dO hi)) λi hi g=>by rw[hn]at g;apply hx;rw[<-g];unfold nth;grind
 unfold bw;grind
def Fu{r:List V}(h:r≠[]):∃u∈r,∀v∈r,leV u v:=by
 have hp:0<r.length:=by grind
 refine⟨_,dO (nV hp),λv hv=> ?_⟩;obtain⟨i,hi,rfl⟩:=eL.1 hv;exact tF r r.length i hi
def WG{k l:List V}(hn:(k++l).Nodup):bw (l++k)=bw (k++l):=by
 by_cases h0:k++l=[]
 .simp_all
 .obtain⟨u,hu,hle⟩:=Fu h0;have hle2:∀v∈l++k,leV u v:=by grind
  have hn2:(l++k).Nodup:=by grind
  rcases bl.1 hu with h|h
  .obtain⟨x,y,rfl⟩:=zQ h;have e1:(x++u::y)++l=x++u::(y++l):=by simp
   have e2:l++(x++u::y)=(l++x)++u::y:=by simp
   rw[e1]at hn hle|-;rw[e2]at hn2 hle2|-;rw[BZ hle (by grind),BZ hle2 (by grind)];simp
  .obtain⟨x,y,rfl⟩:=zQ h;have e1:(x++u::y)++k=x++u::(y++k):=by simp
   have e2:k++(x++u::y)=(k++x)++u::y:=by simp
   rw[e1]at hn2 hle2|-;rw[e2]at hn hle|-;rw[BZ hle (by grind),BZ hle2 (by grind)];simp
noncomputable def fK(r:List V)(u:V):Bool:= @decide (∃a b,(⟨a,u⟩:S)∈cyc r/\(⟨u,b⟩:S)∈cyc r/\turn a u b≠0) (Classical.propDecidable _)
def rT{r:List V}{u:V}:fK r u=true↔∃a b,(⟨a,u⟩:S)∈cyc r/\(⟨u,b⟩:S)∈cyc r/\turn a u b≠0:=by unfold fK;grind
def Xg(k l:List V):fK (l++k)=fK (k++l):=by
 funext u
 rw[fL,rT,rT];simp only[(kw k l).mem_iff]
noncomputable def dz(r:List V):List V:=bw (r.filter (fK r))
def Xf{k l:List V}(hn:(k++l).Nodup):dz (l++k)=dz (k++l):=by unfold dz;rw[Xg,rB,rB];refine WG ?_;grind
def CX.noBack{r:List V}(c:CX r){a b:V}(h:(⟨a,b⟩:S)∈cyc r):(⟨b,a⟩:S)∉cyc r:=λg=>by
 obtain⟨k,l,A,e1,e2⟩:=B6 c h;have hp:(cyc (l++k)).Perm (cyc r):=by rw[e1];exact kw k l
 have c2:CX (l++k):=by rw[e1]at c;exact c.swap
 rw[e2]at hp c2;have hn:=c2.nodup;match A,c2.three with
 |x::A,_=>
  have hx:(⟨b,x⟩:S)∈cyc (a::b::x::A):=cG _ cI;have:=Bq hn (hp.mem_iff.2 g) hx rfl;grind
def CX.around{r:List V}(c:CX r){u:V}(h:u∈r):∃a b,(⟨a,u⟩:S)∈cyc r/\(⟨u,b⟩:S)∈cyc r:=by
 have h1:u∈(cyc r).map S.a:=by rw[vO];exact h
 obtain⟨⟨x,b⟩,hb,rfl⟩:=bR.1 h1;obtain⟨k,l,rfl⟩:=zQ h;have hp:=kw k (x::l);have hm:(⟨x,b⟩:S)∈cyc (k++x::l):=hb;rcases TA (l++k)with e|⟨m,y,e⟩
 .have:=c.three;simp_all
 .rw[List.concat_eq_append]at e;refine⟨y,b,hp.mem_iff.1 ?_,hm⟩;rw[kM,e];show(⟨y,x⟩:S)∈cS x (m++[y] ++[x]);rw[jt,DN,uk];exact gq _ cI
def B7{u v:V}(h:leV u v)(hne:v≠u):iB (sub v u):=by unfold leV at h;unfold iB sub;obtain⟨ux,uy⟩:=u;obtain⟨vx,vy⟩:=v;grind
def CX.corner{W:List V}{side:V->V->Prop}(N:Net W side){r:List V}(c:CX r)(hs:∀e∈cyc r,side e.a e.b):r.filter (fK r)≠[] :=by
 obtain⟨u,hu,hle⟩:=Fu (r:=r) (λe=>by have:=c.three;grind);obtain⟨a,b,ha,hb⟩:=c.around hu;have ua:=N.symm (hs _ ha);have ub:=hs _ hb;have hab:a≠b:=λe=>by subst e;exact c.noBack ha hb
 have pa:=B7 (hle a (qp ha)) (N.ne ua).symm;have pb:=B7 (hle b (qo hb)) (N.ne ub).symm;have:u∈r.filter (fK r):=fG.2 ⟨hu,rT.2 ⟨a,b,ha,hb,λh0=> ?_⟩⟩
 .grind
 .have hcr:cross (sub a u) (sub b u)=0:=by
   have e:cross (sub u a) (sub b a)= -cross (sub a u) (sub b u):=by unfold cross sub;grind
   unfold turn sgn at h0;split at h0
   .cases h0
   .omega
  have:=qJ (lD (N.ne ua).symm) (lD (N.ne ub).symm) hcr;have ap:=N.fanApart ua ub hab;unfold jo at ap;grind
end Geo
section
namespace Geo
def Pk{α:Type}(f:α->Int):∀l:List α,l≠[]->∃x∈l,∀y∈l,f x<=f y
 |[],h=>absurd rfl h
 |[x],_=>⟨x,cI,λy hy=>by simp_all⟩
 |x::z::l,_=>by
  obtain⟨m,hm,h⟩:=Pk f (z::l) (by simp);by_cases c:f x<=f m
  .exact⟨x,cI,λy hy=>by rcases bI.1 hy with rfl|hy;omega;have:=h y hy;omega⟩
  .exact⟨m,cG _ hm,λy hy=>by rcases bI.1 hy with rfl|hy;omega;exact h y hy⟩
section
variable {W:List V} {side:V->V->Prop}
def CX.hull(N:Net W side){r:List V}(c:CX r)(hs:∀e∈cyc r,side e.a e.b)(f:P3)(h:∀v∈r.filter (fK r),0<=ev f (pt v)):∀v∈r,0<=ev f (pt v):=by
 have h0:r≠[] :=λe=>by have:=c.three;simp_all
 obtain⟨m,hm,hmin⟩:=Pk (λv=>ev f (pt v)) r h0;obtain⟨u,hu,hle⟩:=Fu (r:=r.filter λv=>decide (ev f (pt v)=ev f (pt m))) (λe=>by have:m∈r.filter λv=>decide (ev f (pt v)=ev f (pt m)):=fG.2 ⟨hm,decide_eq_true rfl⟩;rw[e]at this;cases this)
 obtain⟨hur,hum⟩:=fG.1 hu;have hum:=of_decide_eq_true hum;obtain⟨a,b,ha,hb⟩:=c.around hur;have ua:=N.symm (hs _ ha);have ub:=hs _ hb;have hab:a≠b:=λe=>by subst e;exact c.noBack ha hb
 have fa:=hmin a (qp ha);have fb:=hmin b (qo hb);have hc:u∈r.filter (fK r):=by
  refine fG.2 ⟨hur,rT.2 ⟨a,b,ha,hb,λh0=> ?_⟩⟩;have hcr:cross (sub a u) (sub b u)=0:=by
   have e:cross (sub u a) (sub b a)= -cross (sub a u) (sub b u):=by unfold cross sub;grind
   unfold turn sgn at h0;split at h0
   .cases h0
   .omega
  have ap:=N.fanApart ua ub hab;have hd:dot (sub a u) (sub b u)<0:=by unfold jo at ap;grind
  have na:=lD (N.ne ua).symm;have nb:=lD (N.ne ub).symm;have ld:=qJ na nb hcr;have key:dot (sub a u) (sub a u)*(ev f (pt b)-ev f (pt u))=dot (sub a u) (sub b u)*(ev f (pt a)-ev f (pt u)):=by unfold ev pt dot sub cross at*;grind
  have pos:0<dot (sub a u) (sub a u):=by
   unfold nz at na;unfold dot;rcases q9 (sub a u).x 0 with g|g|g
   .have:=wh g g;have:=mh (sub a u).y;omega
   .have:(sub a u).y≠0:=λe=>na ⟨g,e⟩;rcases Int.lt_or_gt_of_ne this with k|k
    .have:=wh k k;rw[g];omega
    .have:=bL k k;rw[g];omega
   .have:=bL g g;have:=mh (sub a u).y;omega
  have fa':0<=ev f (pt a)-ev f (pt u):=by omega
  have fb':0<=ev f (pt b)-ev f (pt u):=by omega
  have p1:=cJ (iy pos) fb';have p2:dot (sub a u) (sub b u)*(ev f (pt a)-ev f (pt u))<=0:=Int.mul_nonpos_of_nonpos_of_nonneg (iy hd) fa';have eb:ev f (pt b)=ev f (pt u):=by
   have:dot (sub a u) (sub a u)*(ev f (pt b)-ev f (pt u))=0:=by omega
   rcases cp.1 this with g|g<;>omega
  have ea:ev f (pt a)=ev f (pt u):=by
   have:dot (sub a u) (sub b u)*(ev f (pt a)-ev f (pt u))=0:=by rw[<-key,eb];simp
   rcases cp.1 this with g|g<;>omega
  have pa:=B7 (hle a (fG.2 ⟨qp ha,decide_eq_true (by omega)⟩)) (N.ne ua).symm;have pb:=B7 (hle b (fG.2 ⟨qo hb,decide_eq_true (by omega)⟩)) (N.ne ub).symm;grind
 intro v hv;have:=h u hc;have:=hmin v hv;omega
end
end Geo
end
namespace Geo
def LW(r:List V)(q:P3):Prop:=∀e∈cyc r,0<=ev (lin e.a e.b) q
def LS(r:List V)(q:P3):Prop:=∀e∈cyc r,0<ev (lin e.a e.b) q
def T3.l(t:T3):List V:=[t.a,t.b,t.c]
def T3.Ci(t:T3):cyc t.l=t.sides:=rfl
def qq(TL:List T3)(F:List (List V)):Prop:=∃G:List (List V×List T3),(G.map Prod.fst).Perm F/\(G.flatMap DP).Perm TL/\∀g∈G,(∀t∈g.2,∀v∈t.l,v∈g.1)/\∀q:P3,LW g.1 q->∃t∈g.2,LW t.l q
def qq.start(TL:List T3):qq TL (TL.map T3.l):=by
 refine⟨TL.map λt=>(t.l,[t]),by rw[dU];exact .refl _,?_,λg hg=> ?_⟩
 .rw[Iw];simp
 .obtain⟨t,_,rfl⟩:=bR.1 hg;exact⟨by simp,λq h=>⟨t,by simp,h⟩⟩
def JW{α β:Type}{f:α->β}{G:List α}{x:β}{L:List β}(h:(G.map f).Perm (x::L)):∃g G',G.Perm (g::G')/\f g=x/\(G'.map f).Perm L:=by obtain⟨g,hg,e⟩:=bR.1 (h.mem_iff.2 cI);obtain⟨a,b,rfl⟩:=zQ hg;have p:(a++g::b).Perm (g::(a++b)):=List.perm_middle;refine⟨g,a++b,p,e,?_⟩;have:=(p.map f).symm.trans h;rw[dX,e]at this;exact this.cons_inv
def LW.turn{k l:List V}{q:P3}:LW (k++l) q↔LW (l++k) q:=by unfold LW;simp only[(kw k l).mem_iff]
def qq.joined{TL:List T3}{F F':List (List V)}{i j:V}(h:qq TL F)(J:yn i j F F'):qq TL F':=by
 obtain⟨G,g1,g2,g3⟩:=h;obtain⟨r,q,A,B,F2,p,⟨k,l,e1,e2⟩,⟨k',l',e3,e4⟩,rfl⟩:=J;obtain⟨a,G1,p1,ea,q1⟩:=JW (g1.trans p);obtain⟨b,G2,p2,eb,q2⟩:=JW q1;have P:G.Perm (a::b::G2):=p1.trans (p2.cons _);have ma:=g3 a (P.mem_iff.2 cI);have mb:=g3 b (P.mem_iff.2 (cG _ cI));have va:∀v,v∈a.1->v∈i::j::A:=λv h=>by rw[ea,e1]at h;rw[<-e2];grind
 have vb:∀v,v∈b.1->v∈j::i::B:=λv h=>by rw[eb,e3]at h;rw[<-e4];grind
 have wa:∀q,LW (i::j::A) q->LW a.1 q:=λq h=>by rw[ea,e1,LW.turn,e2];exact h
 have wb:∀q,LW (j::i::B) q->LW b.1 q:=λq h=>by rw[eb,e3,LW.turn,e4];exact h
 refine⟨(i::(B++j::A),a.2++b.2)::G2,q2.cons _,?_,λg hg=> ?_⟩
 .refine List.Perm.trans ?_ ((P.flatMap_right DP).symm.trans g2);simp only[ff,jt];exact .refl _
 .rcases bI.1 hg with rfl|hg
  .refine⟨λt ht v hv=> ?_,λq h=> ?_⟩
   .rcases bl.1 ht with ht|ht
    .have:=va v (ma.1 t ht v hv);grind
    .have:=vb v (mb.1 t ht v hv);grind
   .have h:∀e∈cyc (i::(B++j::A)),0<=ev (lin e.a e.b) q:=h;rw[BW]at h;by_cases c:0<=ev (lin i j) q
    .obtain⟨t,ht,g⟩:=ma.2 q (wa q λe he=>by
      rcases bI.1 he with rfl|he
      .exact c
      .exact h e (gq _ he))
     exact⟨t,ig _ ht,g⟩
    .obtain⟨t,ht,g⟩:=mb.2 q (wb q λe he=>by
      rcases bI.1 he with rfl|he
      .show 0<=ev (lin j i) q;rw[jy];omega
      .exact h e (ig _ he))
     exact⟨t,gq _ ht,g⟩
  .exact g3 g (P.mem_iff.2 (cG _ (cG _ hg)))
end Geo
namespace Geo
def uO(F:List (List V))(U:List S):Prop:=∃F1 F2,F.Perm (F1++F2)/\∀e,e∈U↔e∈F1.flatMap cyc
def Nv{nx:S->V}{H:S->Prop}{F:List (List V)}(Fc:Faces nx H F){f:Nat}(hf:∀r∈F,r.length<=f){U:List S}(I:uO F U){e:S}(he:H e):
  (tr nx f U e [] =(U,[]))\/∃r∈F,∃k l,r=k++l/\tr nx f U e [] =(U++cyc (l++k),l++k)/\uO F (U++cyc (l++k)):=by
 obtain⟨F1,F2,hP,hU⟩:=I;by_cases h1:e∈U
 .exact .inl (CQ h1)
 .right;have h2:e∈F2.flatMap cyc:=by
   have:=(hP.flatMap_right cyc).mem_iff.1 ((Fc.all e).2 he);rw[uV]at this;rcases bl.1 this with h|h
   .grind
   .exact h
  obtain⟨r,hr,her⟩:=dG.1 h2;have hP3:F.Perm ((r::F1)++F2.erase r):=by grind
  have hrF:r∈F:=by grind
  have nd:=(hP3.flatMap_right cyc).nodup_iff.1 Fc.once;rw[kM,ff,uV,lv]at nd;have dis:∀g∈cyc r,g∉U:=by grind
  obtain⟨k,m,e1,t⟩:=Fc.trace hrF her dis (hf r hrF);have hp:(cyc (m++k)).Perm (cyc r):=by rw[e1];exact kw k m
  refine⟨r,hrF,k,m,e1,t,r::F1,F2.erase r,hP3,λq=> ?_⟩;grind
def Js(nx:S->V)(f:Nat)(g:List V->List V):∀(l:List S) (e:S) (x:List S×List (List V)),oQ nx f g (l++[e]) x=
  ((tr nx f (oQ nx f g l x).1 e []).1,if 0<(tr nx f (oQ nx f g l x).1 e []).2.length then(oQ nx f g l x).2++[g (tr nx f (oQ nx f g l x).1 e []).2]else(oQ nx f g l x).2)
 |[],_,_=>rfl
 |_::l,e,_=>Js nx f g l e _
def Mu{nx:S->V}{H:S->Prop}{F:List (List V)}(Fc:Faces nx H F){f:Nat}(hf:∀r∈F,r.length<=f){g:List V->List V}:
  ∀(l:List S) (x:List S×List (List V)),uO F x.1->(∀e∈l,H e)->uO F (oQ nx f g l x).1
 |[],x,I,_=>I
 |e::l,x,I,h=>by
  refine Mu Fc hf l _ ?_ (by grind);rcases Nv Fc hf I (h e cI)with t|⟨r,_,k,m,_,t,J⟩
  .grind
  grind
def uO.nil(F:List (List V)):uO F [] :=⟨[],F,.refl _,λe=>by simp⟩
end Geo
section
namespace Geo
section
variable {W:List V} {side:V->V->Prop} {ins:P3->Bool}
def aCd{t:T3}{q:P3}(h:LW t.l q):0<=ev (lin t.a t.b) q/\0<=ev (lin t.b t.c) q/\0<=ev (lin t.c t.a) q:=
 ⟨h ⟨t.a,t.b⟩ (by rw[T3.Ci];unfold T3.sides;simp),h ⟨t.b,t.c⟩ (by rw[T3.Ci];unfold T3.sides;simp),h ⟨t.c,t.a⟩ (by rw[T3.Ci];unfold T3.sides;simp)⟩
def far(c q:P3):∀L:List S,(∀e∈L,0<ev (lin e.a e.b) q)->∃n:Int,0<n/\∀e∈L,0<n*ev (lin e.a e.b) q+ev (lin e.a e.b) c
 |[],_=>⟨1,by omega,by simp⟩
 |e::L,h=>by
  obtain⟨n,hn,g⟩:=far c q L λf hf=>h f (cG _ hf);have he:=h e cI;refine⟨n+((ev (lin e.a e.b) c).natAbs+1:Nat),by omega,λf hf=> ?_⟩;rcases bI.1 hf with rfl|hf
  .have:=dS (show(1:Int)<=ev (lin f.a f.b) q by omega) (show(0:Int)<=n+((ev (lin f.a f.b) c).natAbs+1:Nat) by omega);omega
  .have h1:=g f hf;have h2:=cJ (show(0:Int)<=((ev (lin e.a e.b) c).natAbs+1:Nat) by omega) (iy (h f (cG _ hf)));rw[pq];omega
end
end Geo
end
section
namespace Geo
section
variable {s:Shape} {D:List S}
variable (T:Tg s D) {q:Pt} (hq:cn q=true) (hqd:0<q.den)
include T hq hqd
omit hqd in
end
end Geo
end
section
namespace Geo
def Fwd(c a x:V):Prop:=cross (sub a c) (sub x a)=0/\0<dot (sub x a) (sub a c)
def Kp(b:Bool)(x:Int):Prop:=if b=true then 0<x else 0<=x
def Gn{u v:V}(h:0<dot u v):0<dot v v:=by
 have:v.x≠0\/v.y≠0:=by refine dQ λc=> ?_;unfold dot at h;grind
 unfold dot;have h1:=mh v.x;have h2:=mh v.y;rcases this with g|g
 .have:v.x*v.x≠0:=λe=>by rcases cp.1 e with e|e<;>exact g e
  omega
 .have:v.y*v.y≠0:=λe=>by rcases cp.1 e with e|e<;>exact g e
  omega
def Fwd.trans{c a x n:V}(h:Fwd c a x)(g:Fwd a x n):Fwd c x n:=by
 obtain⟨h1,h2⟩:=h;obtain⟨g1,g2⟩:=g;have p:=Gn g2;have k1:dot (sub x a) (sub x a)*cross (sub x c) (sub n x)=dot (sub x a) (sub x a)*0:=by unfold dot cross sub at*;grind
 have k2:dot (sub x a) (sub x a)*dot (sub n x) (sub x c)=dot (sub x a) (sub x a)*dot (sub n x) (sub x a)+dot (sub n x) (sub x a)*dot (sub x a) (sub a c):=by unfold dot cross sub at*;grind
 refine⟨?_,?_⟩
 .rcases cp.1 (k1.trans (by simp))with e|e<;>omega
 .have m1:=bL p g2;have m2:=bL g2 h2;refine dQ λno=> ?_;have:=DI (iy p) (show dot (sub n x) (sub x c)<=0 by omega);omega
def Fwd.ne{c a x:V}(h:Fwd c a x):x≠c:=λe=>by
 subst e;have:dot (sub x a) (sub a x)= -dot (sub a x) (sub a x):=by unfold dot sub;grind
 have p:=Gn h.2;have:=h.2;omega
def Fwd.k{c a x:V}(h:Fwd c a x)(b:Bool)(q:P3):(Kp b (ev (lin c a) q)/\Kp b (ev (lin a x) q))↔Kp b (ev (lin c x) q):=by
 obtain⟨h1,h2⟩:=h;have p:=Gn h2;have e1:ev (lin c x) q=ev (lin c a) q+ev (lin a x) q:=by unfold cross sub at h1;unfold ev lin;grind
 have e2:dot (sub a c) (sub a c)*ev (lin a x) q=dot (sub x a) (sub a c)*ev (lin c a) q:=by unfold dot cross sub at*;unfold ev lin;grind
 generalize ev (lin c a) q=A at*;generalize ev (lin a x) q=B at*;generalize dot (sub a c) (sub a c)=m at*;generalize dot (sub x a) (sub a c)=k at*;have s1:0<A->0<B:=λg=>by have:=bL h2 g;refine dQ λc=> ?_;have:=DI (iy p) (show B<=0 by omega);omega
 have s2:A<0->B<0:=λg=>by have:=fz h2 g;refine dQ λc=> ?_;have:=cJ (iy p) (show 0<=B by omega);omega
 have s3:A=0->B=0:=λg=>by rw[g,du]at e2;rcases cp.1 e2 with e|e<;>omega
 rw[e1];unfold Kp;cases b<;>simp<;>omega
section
variable (keep:V->Bool)
def If:V->List V->Prop
 |a,x::n::l=>(keep x=false->Fwd a x n)/\a≠x/\If x (n::l)
 |a,[x] =>keep x=true/\a≠x
 |_,[] =>True
def GF(b:Bool)(q:P3):∀(l:List V) (c a:V),If keep a l->(a≠c->∃x m,l=x::m/\Fwd c a x)->(((a≠c->Kp b (ev (lin c a) q))/\∀e∈cS a l,Kp b (ev (lin e.a e.b) q))↔∀e∈cS c (l.filter keep),Kp b (ev (lin e.a e.b) q))
 |[],c,a,_,hf=>by
  have:a=c:=dQ λh=>by obtain⟨_,_,e,_⟩:=hf h;cases e
  subst this;simp[cS]
 |x::l,c,a,hs,hf=>by
  have hax:a≠x:=by cases l with
   |nil=>exact hs.2
   |cons n l=>exact hs.2.1
  have two:((a≠c->Kp b (ev (lin c a) q))/\Kp b (ev (lin a x) q))↔Kp b (ev (lin c x) q):=by
   by_cases e:a=c
   .subst e;simp
   .obtain⟨_,_,e2,f⟩:=hf e;cases e2;rw[<-f.k b q];simp[e]
  have hp:cS a (x::l)=⟨a,x⟩::cS x l:=rfl;rw[hp];cases hk:keep x with
  |true=>
   have ih:=GF b q l x x (by
    cases l with
    |nil=>trivial
    |cons n l=>exact hs.2.2) (λh=>absurd rfl h)
   rw[Ix hk];have hp2:cS c (x::l.filter keep)=⟨c,x⟩::cS x (l.filter keep):=rfl;rw[hp2];simp only[bI,forall_eq_or_imp];rw[<-ih,<-two];simp[and_assoc]
  |false=>
   cases l with
   |nil=>rw[hs.1]at hk;cases hk
   |cons n l=>
    obtain⟨h1,_,h3⟩:=hs;have fx:Fwd c x n:=by
     by_cases e:a=c
     .subst e;exact h1 hk
     .obtain⟨_,_,e2,f⟩:=hf e;cases e2;exact f.trans (h1 hk)
    have hxc:x≠c:=by
     by_cases e:a=c
     .subst e;exact hax.symm
     .obtain⟨_,_,e2,f⟩:=hf e;cases e2;exact f.ne
    have ih:=GF b q (n::l) c x h3 (λ_=>⟨n,l,rfl,fx⟩);rw[List.filter_cons_of_neg (by simp[hk]),<-ih,<-two];simp only[bI,forall_eq_or_imp];simp[hxc,and_assoc]
end
section
variable {W:List V} {side:V->V->Prop}
def CX.fwd(N:Net W side){r:List V}(c:CX r)(hs:∀e∈cyc r,side e.a e.b){a x n:V}(h1:(⟨a,x⟩:S)∈cyc r)(h2:(⟨x,n⟩:S)∈cyc r)(hk:fK r x=false):Fwd a x n:=by
 have ua:=N.symm (hs _ h1);have ub:=hs _ h2;have hab:a≠n:=λe=>by subst e;exact c.noBack h1 h2
 have h0:turn a x n=0:=dQ λg=>by rw[rT.2 ⟨a,n,h1,h2,g⟩]at hk;cases hk
 have hcr:cross (sub x a) (sub n a)=0:=by
  unfold turn sgn at h0;split at h0
  .cases h0
  .omega
 have ap:=N.fanApart ua ub hab;have e1:cross (sub x a) (sub n x)=0:=by rw[<-hcr];unfold cross sub;grind
 have e2:cross (sub a x) (sub n x)= -cross (sub x a) (sub n x):=by unfold cross sub;grind
 have e3:dot (sub a x) (sub n x)= -dot (sub n x) (sub x a):=by unfold dot sub;grind
 refine⟨e1,?_⟩;unfold jo at ap;dsimp only at ap;omega
def N8{r:List V}(N:Net W side)(c:CX r)(hs:∀e∈cyc r,side e.a e.b):∀(l:List V) (a z:V),(∀e∈cS a (l++[z]),e∈cyc r)->fK r z=true->If (fK r) a (l++[z])
 |[],a,z,h,hz=>⟨hz,N.ne (hs ⟨a,z⟩ (h _ cI))⟩
 |x::l,a,z,h,hz=>by
  have ih:=N8 N c hs l x z (λe he=>h e (cG _ he)) hz;have m1:=h ⟨a,x⟩ cI;cases l with
  |nil=>exact⟨λhk=>c.fwd N hs m1 (h ⟨x,z⟩ (cG _ cI)) hk,N.ne (hs _ m1),ih⟩
  |cons n l=>exact⟨λhk=>c.fwd N hs m1 (h ⟨x,n⟩ (cG _ cI)) hk,N.ne (hs _ m1),ih⟩
def LK(b:Bool)(r:List V)(q:P3):Prop:=∀e∈cyc r,Kp b (ev (lin e.a e.b) q)
def LK.turn{b:Bool}{k l:List V}{q:P3}:LK b (k++l) q↔LK b (l++k) q:=by unfold LK;simp only[(kw k l).mem_iff]
def CX.corners(N:Net W side){r:List V}(c:CX r)(hs:∀e∈cyc r,side e.a e.b)(b:Bool)(q:P3):LK b (dz r) q↔LK b r q:=by
 obtain⟨u,hu⟩:=Iy _ (c.corner N hs);obtain⟨hur,huc⟩:=fG.1 hu;obtain⟨k,l,rfl⟩:=zQ hur;have hb:∀m:List V,LK b (bw m) q↔LK b m q:=λm=>by unfold bw;rw[LK.turn,List.take_append_drop]
 unfold dz;rw[hb,rB,LK.turn,<-rB,LK.turn (k:=k)];have c2:∀e,e∈cyc (u::l++k)->e∈cyc (k++u::l):=λe he=>(kw k (u::l)).mem_iff.1 he;have hst:=N8 N c hs (l++k) u u (λe he=>c2 e he) huc;have:=GF (fK (k++u::l)) b q ((l++k)++[u]) u u hst (λh=>absurd rfl h);have hf:((l++k)++[u]).filter (fK (k++u::l))=(l++k).filter (fK (k++u::l))++[u] :=by rw[rB,Ix huc];rfl
 rw[hf]at this;have hg:(u::l++k).filter (fK (k++u::l))=u::(l++k).filter (fK (k++u::l)):=by rw[kM,Ix huc]
 rw[hg];unfold LK;show(∀e∈cS u (_++[u]),_)↔∀e∈cS u ((l++k)++[u]),_;rw[<-this];simp
end
end Geo
end
section
namespace Geo
section
variable {W:List V} {side:V->V->Prop} {ins:P3->Bool}
def VG{t:T3}(hl:0<ev (lin t.a t.b) (pt t.c)){r:List V}(c:CX r)(hv:∀v∈t.l,v∈r){q:P3}(h:In [lin t.a t.b,lin t.b t.c,lin t.c t.a] q)(hne:∀e∈cyc r,e.a≠e.b):LS r q:=by
 intro e he;have h1:=h.2 (lin t.a t.b) (by simp);have h2:=h.2 (lin t.b t.c) (by simp);have h3:=h.2 (lin t.c t.a) (by simp);have fa:=c.left e he t.a (hv _ (by simp[T3.l]));have fb:=c.left e he t.b (hv _ (by simp[T3.l]));have fc:=c.left e he t.c (hv _ (by simp[T3.l]));have key:ev (lin t.a t.b) (pt t.c)*ev (lin e.a e.b) q=ev (lin t.b t.c) q*ev (lin e.a e.b) (pt t.a)+ev (lin t.c t.a) q*ev (lin e.a e.b) (pt t.b)+ev (lin t.a t.b) q*ev (lin e.a e.b) (pt t.c):=by unfold ev lin pt;grind
 have m1:=cJ (iy h2) fa;have m2:=cJ (iy h3) fb;have m3:=cJ (iy h1) fc;refine dQ λno=> ?_;have z:=DI (iy hl) (show ev (lin e.a e.b) q<=0 by omega);have za:ev (lin e.a e.b) (pt t.a)=0:=by rcases cp.1 (show ev (lin t.b t.c) q*ev (lin e.a e.b) (pt t.a)=0 by omega)with g|g<;>omega
 have zb:ev (lin e.a e.b) (pt t.b)=0:=by rcases cp.1 (show ev (lin t.c t.a) q*ev (lin e.a e.b) (pt t.b)=0 by omega)with g|g<;>omega
 have zc:ev (lin e.a e.b) (pt t.c)=0:=by rcases cp.1 (show ev (lin t.a t.b) q*ev (lin e.a e.b) (pt t.c)=0 by omega)with g|g<;>omega
 have hd:=hne e he;rw[dt]at za zb zc hl;have kx:(e.b.x-e.a.x)*cross (sub t.b t.a) (sub t.c t.a)=0:=by unfold cross sub at*;grind
 have ky:(e.b.y-e.a.y)*cross (sub t.b t.a) (sub t.c t.a)=0:=by unfold cross sub at*;grind
 rcases cp.1 kx with g|g
 .rcases cp.1 ky with g2|g2
  .apply hd;obtain⟨⟨ax,ay⟩,⟨bx,b_y⟩⟩:=e;simp only[V.mk.injEq];dsimp only at g g2;omega
  .omega
 .omega
def aEc(c q:P3)(hq:0<q.d)(hc:0<c.d):∀L:List P3,(∀f∈L,0<ev f q)->∃p:P3,0<p.d/\(∃n:Int,0<n/\p=cmb n q 1 c)/\∀f∈L,0<ev f p:=by
 intro L h;have:∃n:Int,0<n/\∀f∈L,0<n*ev f q+ev f c:=by
  clear hq hc;induction L with
  |nil=>exact⟨1,by omega,by simp⟩
  |cons e L ih=>
   obtain⟨n,hn,g⟩:=ih λf hf=>h f (cG _ hf);have he:=h e cI;refine⟨n+((ev e c).natAbs+1:Nat),by omega,λf hf=> ?_⟩;rcases bI.1 hf with rfl|hf
   .have:=dS (show(1:Int)<=ev f q by omega) (show(0:Int)<=n+((ev f c).natAbs+1:Nat) by omega);omega
   .have h1:=g f hf;have h2:=cJ (show(0:Int)<=((ev e c).natAbs+1:Nat) by omega) (iy (h f (cG _ hf)));rw[pq];omega
 obtain⟨n,hn,g⟩:=this;refine⟨cmb n q 1 c,?_,⟨n,hn,rfl⟩,λf hf=>by rw[ag];have:=g f hf;omega⟩;have:=bL hn hq;show 0<n*q.d+1*c.d;omega
end
end Geo
end
section
namespace Geo
def Mq{P A B:V}(h0:cross A B=0)(h1:dot A B<0)(ha:0<=cross P A)(hb:0<=cross P B):cross P A=0:=by
 have key:cross P A*dot B B=cross P B*dot A B:=by unfold cross dot at*;grind
 have hB:0<=dot B B:=by unfold dot;have:=mh B.x;have:=mh B.y;omega
 have m1:=cJ ha hB;have m2:=DI hb (iy h1);rcases cp.1 (show cross P A*dot B B=0 by omega)with g|g
 .exact g
 .exfalso;have h2:=mh B.x;have h3:=mh B.y;unfold dot at g h1;have:B.x=0/\B.y=0:=by
   constructor
   .rcases cp.1 (show B.x*B.x=0 by omega)with e|e<;>exact e
   .rcases cp.1 (show B.y*B.y=0 by omega)with e|e<;>exact e
  rw[this.1,this.2]at h1;omega
def LU{P Q A:V}(h1:cross P A=0)(h2:cross Q A=0)(hA:dot A A≠0):cross P Q=0:=by
 have key:cross P Q*dot A A=cross P A*dot A Q-cross Q A*dot A P:=by unfold cross dot;grind
 rw[h1,h2]at key;rcases cp.1 (show cross P Q*dot A A=0 by omega)with g|g
 .exact g
 .exact absurd g hA
def x7{u v:V}(h:u≠v):0<dot (sub u v) (sub u v):=by
 obtain⟨x,y⟩:=u;obtain⟨z,w⟩:=v;simp only[ne_eq,V.mk.injEq]at h;have h1:=mh (x-z);have h2:=mh (y-w);unfold dot sub;dsimp only;refine dQ λc=>h ⟨?_,?_⟩
 .rcases cp.1 (show(x-z)*(x-z)=0 by omega)with e|e<;>omega
 .rcases cp.1 (show(y-w)*(y-w)=0 by omega)with e|e<;>omega
def CX.notmid{r:List V}(c:CX r){v a b:V}(hv:v∈r.filter (fK r))(ha:a∈r)(hb:b∈r)(h0:cross (sub a v) (sub b v)=0)(h1:dot (sub a v) (sub b v)<0):False:=by
 obtain⟨hvr,hc⟩:=fG.1 hv;obtain⟨u,w,hu,hw,ht⟩:=rT.1 hc;have s:∀{x y z:V},cross (sub y x) (sub z x)=cross (sub y x) (sub z y):=by intro x y z;unfold cross sub;grind
 have a1:0<=cross (sub v u) (sub a v):=by have:=c.left _ hu a ha;dsimp only at this;rw[dt]at this;rw[<-s];exact this
 have b1:0<=cross (sub v u) (sub b v):=by have:=c.left _ hu b hb;dsimp only at this;rw[dt]at this;rw[<-s];exact this
 have a2:0<=cross (sub w v) (sub a v):=by have:=c.left _ hw a ha;dsimp only at this;rw[dt]at this;exact this
 have b2:0<=cross (sub w v) (sub b v):=by have:=c.left _ hw b hb;dsimp only at this;rw[dt]at this;exact this
 have z1:=Mq h0 h1 a1 b1;have z2:=Mq h0 h1 a2 b2;have hne:a≠v:=λe=>by
  subst e;have:dot (sub a a) (sub b a)=0:=by unfold dot sub;grind
  omega
 have:=LU z1 z2 (by have:=x7 hne;omega);apply ht;unfold turn;rw[s,this];rfl
def CX.nocol{r:List V}(c:CX r){x y z:V}(hx:x∈r.filter (fK r))(hy:y∈r.filter (fK r))(hz:z∈r.filter (fK r))(h1:x≠y)(h2:y≠z)(h3:x≠z):cross (sub y x) (sub z x)≠0:=λh0=>by
 have mx:=(fG.1 hx).1;have my:=(fG.1 hy).1;have mz:=(fG.1 hz).1;have n1:¬dot (sub y x) (sub z x)<0:=λg=>c.notmid hx my mz h0 g;have n2:¬dot (sub x y) (sub z y)<0:=λg=>c.notmid hy mx mz (by unfold cross sub at*;grind) g;have n3:¬dot (sub x z) (sub y z)<0:=λg=>c.notmid hz mx my (by unfold cross sub at*;grind) g;have d2:dot (sub x y) (sub z y)=dot (sub y x) (sub y x)-dot (sub y x) (sub z x):=by unfold dot sub;grind
 have d3:dot (sub x z) (sub y z)=dot (sub z x) (sub z x)-dot (sub y x) (sub z x):=by unfold dot sub;grind
 have d4:dot (sub y z) (sub y z)=dot (sub y x) (sub y x)+dot (sub z x) (sub z x)-2*dot (sub y x) (sub z x):=by unfold dot sub;grind
 have sq:dot (sub y x) (sub z x)*dot (sub y x) (sub z x)=dot (sub y x) (sub y x)*dot (sub z x) (sub z x):=by unfold dot cross sub at*;grind
 have p1:=x7 h1.symm;have p2:=x7 h3.symm;have p3:=x7 h2;generalize dot (sub y x) (sub z x)=m at*;generalize dot (sub y x) (sub y x)=p at*;generalize dot (sub z x) (sub z x)=q at*;have k1:q<=m:=by refine dQ λg=> ?_;have:=Int.mul_le_mul_of_nonneg_right (show m<=p by omega) (show 0<=m by omega);have:=Int.mul_lt_mul_of_pos_left (show m<q by omega) p1;omega
 have k2:p<=m:=by refine dQ λg=> ?_;have:=dS (show m<=q by omega) (show 0<=m by omega);have:=Int.mul_lt_mul_of_pos_right (show m<p by omega) p2;omega
 omega
section
variable {W:List V} {side:V->V->Prop}
def CX.corners3(N:Net W side){r:List V}(c:CX r)(hs:∀e∈cyc r,side e.a e.b):3<=(r.filter (fK r)).length:=by
 obtain⟨a,ha⟩:=Iy _ (c.corner N hs);obtain⟨har,hac⟩:=fG.1 ha;obtain⟨p,x,hp,hx,ht⟩:=rT.1 hac;refine dQ λhl=> ?_;have main:∀b,b≠a->(∀v∈r.filter (fK r),ev (lin a b) (pt v)=0)->False:=λb hb g=>by
  have h1:=c.hull N hs (lin a b) λv hv=>by have:=g v hv;omega
  have h2:=c.hull N hs (lin b a) λv hv=>by have:=g v hv;rw[jy];omega
  have z:∀v∈r,cross (sub b a) (sub v a)=0:=λv hv=>by have k1:=h1 v hv;have k2:=h2 v hv;rw[jy]at k2;rw[<-dt];omega
  have zp:=z p (qp hp);have zx:=z x (qo hx);have:=LU (P:=sub p a) (Q:=sub x a) (A:=sub b a) (by unfold cross at*;grind) (by unfold cross at*;grind) (by have:=x7 hb;omega);apply ht;have e:cross (sub a p) (sub x p)= -cross (sub p a) (sub x a):=by unfold cross sub;grind
  unfold turn;rw[e,this];rfl
 have two:∃b,b≠a/\∀v∈r.filter (fK r),v=a\/v=b:=by
  rcases h:r.filter (fK r)with _|⟨y,_|⟨z,_|⟨w,t⟩⟩⟩
  .rw[h]at ha;cases ha
  .rw[h]at ha;rw[bn.1 ha];refine⟨x,?_,λv hv=> .inl (bn.1 hv)⟩;rw[<-bn.1 ha];exact(N.ne (hs _ hx)).symm
  .rw[h]at ha;have nd:(r.filter (fK r)).Nodup:=c.nodup.filter _;rw[h]at nd;have:y≠z:=by simp at nd;exact nd
   simp only[bI,cq,or_false]at ha|-;rcases ha with rfl|rfl
   .exact⟨z,this.symm,λv hv=>hv⟩
   .exact⟨y,this,λv hv=>hv.symm⟩
  .rw[h]at hl;simp at hl
 obtain⟨b,hb,g⟩:=two;refine main b hb λv hv=> ?_;rcases g v hv with rfl|rfl
 .exact cH _ _
 .exact cX _ _
variable {ins:P3->Bool}
def sI(X Y:List (List V)):Prop:=∀L:List P3,(∃q:P3,0<q.d/\(∃r∈X,LS r q)/\∀f∈L,0<ev f q)↔∃q:P3,0<q.d/\(∃r∈Y,LS r q)/\∀f∈L,0<ev f q
def sI.symm{X Y:List (List V)}(h:sI X Y):sI Y X:=λL=>(h L).symm
def Pn{t:T3}{q:P3}(hq:0<q.d):LS t.l q↔In [lin t.a t.b,lin t.b t.c,lin t.c t.a] q:=by unfold LS;rw[T3.Ci];unfold T3.sides In;simp[hq]
def VA(N:Net W side){TL:List T3}{F:List (List V)}(A:All3 W side ins TL)(P:qq TL F)(cx:∀r∈F,CX r)(hs:∀r∈F,∀e∈cyc r,side e.a e.b):sI F (TL.map T3.l):=by
 obtain⟨G,g1,g2,g3⟩:=P;refine λL=>⟨?_,?_⟩
 .rintro⟨q,hq,⟨r,hr,h⟩,hL⟩;obtain⟨g,hg,rfl⟩:=bR.1 (g1.mem_iff.2 hr);obtain⟨t,ht,hw⟩:=(g3 g hg).2 q λe he=>iy (h e he);have hT:=g2.mem_iff.1 (dG.2 ⟨g,hg,ht⟩);have T:=A.tri t hT;have ci:=CJ T.left;obtain⟨p,hp,⟨n,hn,rfl⟩,hp2⟩:=aEc (ctr t.a t.b t.c) q hq ci.1 L hL;refine⟨_,hp,⟨t.l,bR.2 ⟨t,hT,rfl⟩,(Pn hp).2 ⟨hp,λf hf=> ?_⟩⟩,hp2⟩;have c:=ci.2 f hf;have w:0<=ev f q:=by obtain⟨w1,w2,w3⟩:=aCd hw;simp only[bI,cq,or_false]at hf;rcases hf with rfl|rfl|rfl<;>assumption
  have:=cJ (iy hn) w;rw[ag];omega
 .rintro⟨q,hq,⟨_,hr,h⟩,hL⟩;obtain⟨t,hT,rfl⟩:=bR.1 hr;obtain⟨g,hg,hgt⟩:=dG.1 (g2.mem_iff.2 hT);have hF:=g1.mem_iff.1 (bR.2 ⟨g,hg,rfl⟩);exact⟨q,hq,⟨g.1,hF,VG (A.tri t hT).left (cx _ hF) ((g3 g hg).1 t hgt) ((Pn hq).1 h) λe he=>N.ne (hs _ hF e he)⟩,hL⟩
end
def Mts(X Z:List (List V)):Prop:=∃r∈X,∃o∈Z,∃q:P3,0<q.d/\LS r q/\LS o q
def Mts.comm{X Z:List (List V)}:Mts X Z↔Mts Z X:=by have:∀X Z,Mts X Z->Mts Z X:=λX Z ⟨r,hr,o,ho,q,hq,h1,h2⟩=>⟨o,ho,r,hr,q,hq,h2,h1⟩;exact⟨this _ _,this _ _⟩
def sI.mts{X Y:List (List V)}(h:sI X Y)(Z:List (List V)):Mts X Z↔Mts Y Z:=by
 have:∀X Y,sI X Y->Mts X Z->Mts Y Z:=λX Y h ⟨r,hr,o,ho,q,hq,h1,h2⟩=>by
  obtain⟨p,hp,⟨r',hr',g1⟩,g2⟩:=(h ((cyc o).map λe=>lin e.a e.b)).1 ⟨q,hq,⟨r,hr,h1⟩,λf hf=>by obtain⟨e,he,rfl⟩:=bR.1 hf;exact h2 e he⟩
  exact⟨r',hr',o,ho,p,hp,g1,λe he=>g2 _ (bR.2 ⟨e,he,rfl⟩)⟩
 exact⟨this X Y h,this Y X h.symm⟩
end Geo
end
section
inductive PV where
 |int (k:IntKind) (n:Int)
 |bool (b:Bool)
 |str (s:ByteArray)
 |agg (l:List PV)
 |tup (l:List PV)
 |sl (n:Nat) (cells:List PV)
 |pro (cells:List PV) (off:Nat)
 |fn (f:Fn) (first caps:List PV)
 |junk
deriving Inhabited
abbrev bG:=Nat->Nat->Value->Prop
def iD(vs:List Value):Prop:=∀u∈vs,u.oneCell'=true
mutual
def aY(C:bG):PV->Value->Prop
 | .int k n,v=>v= .int k n
 | .bool b,v=>v= .bool b
 | .str s,v=>v= .string s
 | .agg l,v=>∃vs:List Value,v= .agg vs.toArray/\bK C l vs/\iD vs
 | .tup l,v=>∃vs:List Value,v= .tuple vs.toArray/\bK C l vs
 | .sl n cs,v=>∃a c,v= .slice a n c/\n<=c/\(a=none->c=0/\cs=[])/\∀ad,a=some ad->(0<n->ad.spot=none)/\dA C cs ad.block ad.off
 | .pro cs off,v=>∃b o,v= .pointer (some ⟨b,o+off,none⟩)/\dA C cs b o
 | .fn f l1 l2,v=>∃vs1 vs2:List Value,v= .func f vs1.toArray vs2.toArray/\bK C l1 vs1/\bK C l2 vs2
 | .junk,_=>True
def bK(C:bG):List PV->List Value->Prop
 |[],vs=>vs=[]
 |x::l,vs=>∃v r,vs=v::r/\aY C x v/\bK C l r
def dA(C:bG):List PV->Nat->Nat->Prop
 |[],_,_=>True
 |x::l,b,o=>(∃v,C b o v/\v.oneCell'=true/\aY C x v)/\dA C l b (o+1)
end
section
variable {C C':bG}
mutual
theorem aY.mono(h:∀b o v,C b o v->C' b o v):∀(x:PV) (v:Value),aY C x v->aY C' x v
 | .int ..,v,hx=>by exact hx
 | .bool ..,v,hx=>by exact hx
 | .str ..,v,hx=>by exact hx
 | .agg l,v,hx=>by obtain⟨vs,h1,h2,h3⟩:=hx;exact⟨vs,h1,bK.mono h l vs h2,h3⟩
 | .tup l,v,hx=>by obtain⟨vs,h1,h2⟩:=hx;exact⟨vs,h1,bK.mono h l vs h2⟩
 | .sl n cs,v,hx=>by
   obtain⟨a,c,h1,h2,h3,h4⟩:=hx;exact⟨a,c,h1,h2,h3,λad e=>⟨(h4 ad e).1,dA.mono h cs _ _ (h4 ad e).2⟩⟩
 | .pro cs off,v,hx=>by obtain⟨b,o,h1,h2⟩:=hx;exact⟨b,o,h1,dA.mono h cs _ _ h2⟩
 | .fn f l1 l2,v,hx=>by obtain⟨a,b,h1,h2,h3⟩:=hx;exact⟨a,b,h1,bK.mono h l1 a h2,bK.mono h l2 b h3⟩
 | .junk,v,hx=>by trivial
theorem bK.mono(h:∀b o v,C b o v->C' b o v):∀(l:List PV) (vs:List Value),bK C l vs->bK C' l vs
 |[],vs,hx=>by exact hx
 |x::l,vs,hx=>by obtain⟨v,r,h1,h2,h3⟩:=hx;exact⟨v,r,h1,aY.mono h x v h2,bK.mono h l r h3⟩
theorem dA.mono(h:∀b o v,C b o v->C' b o v):∀(l:List PV) (b o:Nat),dA C l b o->dA C' l b o
 |[],b,o,hx=>by trivial
 |x::l,b,o,hx=>by
  obtain⟨⟨v,h1,h2,h3⟩,h4⟩:=hx;exact⟨⟨v,h _ _ _ h1,h2,aY.mono h x v h3⟩,dA.mono h l b (o+1) h4⟩
end
def bK.length:∀(l:List PV) (vs:List Value),bK C l vs->vs.length=l.length
 |[],vs,h=>by subst h;rfl
 |x::l,vs,h=>by obtain⟨v,r,rfl,_,h3⟩:=h;simp[bK.length l r h3]
def bK.get:∀(l:List PV) (vs:List Value),bK C l vs->∀(i:Nat) x,l[i]? =some x->∃v,vs[i]? =some v/\aY C x v
 |[],vs,h,i,x,hi=>by simp at hi
 |y::l,vs,h,0,x,hi=>by unfold bK at h;grind
 |y::l,vs,h,i+1,x,hi=>by
  obtain⟨v,r,rfl,h2,h3⟩:=h;exact bK.get l r h3 i x (by grind)
def bK.of:∀(l:List PV) (vs:List Value),vs.length=l.length->(∀(i:Nat) x,l[i]? =some x->∃v,vs[i]? =some v/\aY C x v)->bK C l vs
 |[],vs,hl,h=>by unfold bK;grind
 |y::l,[],hl,h=>by simp at hl
 |y::l,v::r,hl,h=>by
  obtain⟨v',h1,h2⟩:=h 0 y rfl;simp at h1;subst h1;exact⟨v,r,rfl,h2,bK.of l r (by grind) (λi x hi=>h (i+1) x (by grind))⟩
def dA.get:∀(l:List PV) (b o:Nat),dA C l b o->∀(i:Nat) x,l[i]? =some x->∃v,C b (o+i) v/\v.oneCell'=true/\aY C x v
 |[],b,o,h,i,x,hi=>by simp at hi
 |y::l,b,o,h,0,x,hi=>by unfold dA at h;grind
 |y::l,b,o,h,i+1,x,hi=>by
  have:=dA.get l b (o+1) h.2 i x (by grind);grind
def dA.of:∀(l:List PV) (b o:Nat),(∀(i:Nat) x,l[i]? =some x->∃v,C b (o+i) v/\v.oneCell'=true/\aY C x v)->dA C l b o
 |[],b,o,h=>by trivial
 |y::l,b,o,h=>by
  refine⟨h 0 y rfl,dA.of l b (o+1) (λi x hi=> ?_)⟩;have:=h (i+1) x (by grind);grind
def dA.drop{l:List PV}{b o:Nat}(h:dA C l b o)(k:Nat):dA C (l.drop k) b (o+k):=
 dA.of _ _ _ λi x hi=>by rw[wq]at hi;have:=dA.get l b o h (k+i) x hi;grind
def dA.take{l:List PV}{b o:Nat}(h:dA C l b o)(k:Nat):dA C (l.take k) b o:=
 dA.of _ _ _ λi x hi=>by
  rw[pp]at hi;split at hi
  .exact dA.get l b o h i x hi
  .cases hi
end
inductive AV where
 |any
 |undef
 |nil
 |p (x:PV)
 |ptr (s off:Nat)
 |own (s o n:Nat)
 |agg (l:List AV)
 |tup (l:List AV)
 |fn (f:Fn) (first caps:List AV)
 |mp (s:Nat)
deriving Inhabited
abbrev Ren:=Nat->Option (Option Nat×Nat)
mutual
def aR(ρ:Ren)(C:bG):AV->Value->Prop
 | .any,_=>True
 | .undef,v=>v=Go.undef
 | .nil,v=>v= .slice none 0 0
 | .p x,v=>aY C x v
 | .ptr s off,v=>∃b c,ρ s=some (some b,c)/\v= .pointer (some ⟨b,off,none⟩)
 | .own s o n,v=>∃q c,ρ s=some (q,c)/\((q=none/\v= .slice none 0 0/\n=0/\o=0)\/∃b o' c',q=some b/\v= .slice (some ⟨b,o',none⟩) n c'/\n<=c'/\(n≠0->o'=o)/\(o=0->o'=0/\c'=c))
 | .agg l,v=>∃vs:List Value,v= .agg vs.toArray/\bE ρ C l vs/\iD vs
 | .tup l,v=>∃vs:List Value,v= .tuple vs.toArray/\bE ρ C l vs
 | .fn f l1 l2,v=>∃vs1 vs2:List Value,v= .func f vs1.toArray vs2.toArray/\bE ρ C l1 vs1/\bE ρ C l2 vs2
 | .mp s,v=>∃c,ρ s=some (none,c)/\v= .map (some c)
def bE(ρ:Ren)(C:bG):List AV->List Value->Prop
 |[],vs=>vs=[]
 |x::l,vs=>∃v r,vs=v::r/\aR ρ C x v/\bE ρ C l r
end
section
variable {C C':bG} {ρ ρ':Ren}
mutual
theorem aR.mono(hr:∀s q,ρ s=some q->ρ' s=some q)(h:∀b o v,C b o v->C' b o v):∀(x:AV) (v:Value),aR ρ C x v->aR ρ' C' x v
 | .any,v,hx=>by trivial
 | .undef,v,hx=>by exact hx
 | .nil,v,hx=>by exact hx
 | .p x,v,hx=>by exact aY.mono h x v hx
 | .ptr ..,v,hx=>by unfold aR at*;grind
 | .own ..,v,hx=>by unfold aR at*;grind
 | .agg l,v,hx=>by obtain⟨vs,h1,h2,h3⟩:=hx;exact⟨vs,h1,bE.mono hr h l vs h2,h3⟩
 | .tup l,v,hx=>by obtain⟨vs,h1,h2⟩:=hx;exact⟨vs,h1,bE.mono hr h l vs h2⟩
 | .fn f l1 l2,v,hx=>by obtain⟨a,b,h1,h2,h3⟩:=hx;exact⟨a,b,h1,bE.mono hr h l1 a h2,bE.mono hr h l2 b h3⟩
 | .mp s,v,hx=>by unfold aR at*;grind
theorem bE.mono(hr:∀s q,ρ s=some q->ρ' s=some q)(h:∀b o v,C b o v->C' b o v):∀(l:List AV) (vs:List Value),bE ρ C l vs->bE ρ' C' l vs
 |[],vs,hx=>by exact hx
 |x::l,vs,hx=>by obtain⟨v,r,h1,h2,h3⟩:=hx;exact⟨v,r,h1,aR.mono hr h x v h2,bE.mono hr h l r h3⟩
end
def bE.length:∀(l:List AV) (vs:List Value),bE ρ C l vs->vs.length=l.length
 |[],vs,h=>by subst h;rfl
 |x::l,vs,h=>by obtain⟨v,r,rfl,_,h3⟩:=h;simp[bE.length l r h3]
def bE.get:∀(l:List AV) (vs:List Value),bE ρ C l vs->∀(i:Nat) x,l[i]? =some x->∃v,vs[i]? =some v/\aR ρ C x v
 |[],vs,h,i,x,hi=>by simp at hi
 |y::l,vs,h,0,x,hi=>by unfold bE at h;grind
 |y::l,vs,h,i+1,x,hi=>by
  obtain⟨v,r,rfl,h2,h3⟩:=h;exact bE.get l r h3 i x (by grind)
def bE.of:∀(l:List AV) (vs:List Value),vs.length=l.length->(∀(i:Nat) x,l[i]? =some x->∃v,vs[i]? =some v/\aR ρ C x v)->bE ρ C l vs
 |[],vs,hl,h=>by unfold bE;grind
 |y::l,[],hl,h=>by simp at hl
 |y::l,v::r,hl,h=>by
  obtain⟨v',h1,h2⟩:=h 0 y rfl;simp at h1;subst h1;exact⟨v,r,rfl,h2,bE.of l r (by grind) (λi x hi=>h (i+1) x (by grind))⟩
end
structure Ob where
 ty:TypeId
 esz:Nat
 cells:List AV
deriving Inhabited
def bC(C0:bG)(B:Nat)(w:World)(ρ:Ren)(g:Nat->Option Ob):bG:=λb o v=>w.cell? ⟨b,o,none⟩=some v/\(∀s c,ρ s=some (some b,c)->g s=none)/\(B<=b\/C0 b o v)
structure ObRep(ρ:Ren)(C:bG)(w:World)(b c:Nat)(ob:Ob)(arr:Array Value):Prop where
 blk:w.heap[b]? =some (.cells arr ob.ty (0,0))
 box:ob.esz=0->arr.size=ob.cells.length
 row:ob.esz≠0->arr.size=c*ob.esz/\ob.cells.length<=arr.size/\c<=maxLen
 cells:∀(i:Nat) x,ob.cells[i]? =some x->∃v,arr[i]? =some v/\v.oneCell'=true/\aR ρ C x v
def yR(C0:bG)(B:Nat)(ρ:Ren)(C:bG)(w:World)(c:Nat)(o:Ob):Prop:=
 (o.ty=0/\(∀(i:Nat) x,o.cells[i]? =some x->∀v,C0 B i v->aR ρ C x v)/\∀i v,C0 B i v->i<o.cells.length)\/
 (o.ty=1/\B<=c/\∃es clock,w.heap[c]? =some (.map es clock)/\bE ρ C o.cells (es.toList.flatMap λe=>[e.key,e.val]))
def sT(o:Ob)(c:Nat)(o':Ob)(c':Nat):Prop:=(o.ty=1/\o'.ty=1/\c=c')\/(o.ty=0/\o'.ty=0)
def sT.symm{o:Ob}{c:Nat}{o':Ob}{c':Nat}(h:sT o c o' c'):sT o' c' o c:=by
 rcases h with⟨h1,h2,h3⟩|⟨h1,h2⟩
 .exact .inl (by grind)
 .exact .inr ⟨h2,h1⟩
structure StR(C0:bG)(ρ:Ren)(g:Nat->Option Ob)(w:World)(B:Nat):Prop where
 ob:∀s o,g s=some o->∃q c,ρ s=some (q,c)/\((q=none/\((o.esz≠0/\o.cells=[]/\c=0)\/(o.esz=0/\yR C0 B ρ (bC C0 B w ρ g) w c o)))\/∃b arr,q=some b/\B<=b/\ObRep ρ (bC C0 B w ρ g) w b c o arr)
 inj:∀s s' o o' b c c',g s=some o->g s'=some o'->ρ s=some (some b,c)->ρ s'=some (some b,c')->s=s'
 mpi:∀s s' o o' c c',g s=some o->g s'=some o'->o.esz=0->o'.esz=0->ρ s=some (none,c)->ρ s'=some (none,c')->sT o c o' c'->s=s'
def ObRep.lt{ρ:Ren}{C:bG}{w:World}{b c:Nat}{ob:Ob}{arr:Array Value}(h:ObRep ρ C w b c ob arr):b<w.heap.size:=by
 rcases oZ b w.heap.size with hlt|hge
 .exact hlt
 .have:=h.blk;grind
def ObRep.cell{ρ:Ren}{C:bG}{w:World}{b c:Nat}{ob:Ob}{arr:Array Value}(h:ObRep ρ C w b c ob arr)(i:Nat):w.cell? ⟨b,i,none⟩=arr[i]? :=cell_of_row w b i arr ob.ty (0,0) h.blk
def StR.at{C0:bG}{ρ:Ren}{g:Nat->Option Ob}{w:World}{B s b c:Nat}{o:Ob}(h:StR C0 ρ g w B)(hg:g s=some o)(hr:ρ s=some (some b,c)):B<=b/\∃arr,ObRep ρ (bC C0 B w ρ g) w b c o arr:=by obtain⟨q,c',h1,h2⟩:=h.ob s o hg;grind
end
section
structure GrD where
 n:Nat
 os:Array Obj
instance:Nonempty GrD:=⟨⟨0, #[]⟩⟩
def grD(w:World)(n:Nat)(os:Array Obj):World:={w with heap:=w.heap++os,drawn:=n}
def UH{w w':World}(h:Below w.heap.size w w'):∃p:GrD,w'=grD w p.n p.os:=by
 refine⟨⟨w'.drawn,w'.heap.extract w.heap.size w'.heap.size⟩,?_⟩;obtain⟨h1,h2,h3,h4,h5⟩:=h;have hh:w'.heap=w.heap++w'.heap.extract w.heap.size w'.heap.size:=by
  apply Array.ext_getElem?;intro i;by_cases hi:i<w.heap.size
  .grind
  .grind
 unfold grD;cases w';grind
def Below.then_{W w1 w2:World}(h1:Below W.heap.size W w1)(h2:Below w1.heap.size w1 w2):Below W.heap.size W w2:=h1.trans (h2.mono h1.size)
def Blk(w:World)(g:Nat)(t:TypeId)(cs:Array Value):Prop:=w.heap[g]? =some (.cells cs t (0,0))
section
variable {w w':World} {g:Nat} {t:TypeId} {cs:Array Value}
def Blk.lt(h:Blk w g t cs):g<w.heap.size:=by
 rcases oZ g w.heap.size with hlt|hge
 .exact hlt
 .unfold Blk at h;grind
def Blk.cell(h:Blk w g t cs)(i:Nat):w.cell? ⟨g,i,none⟩=cs[i]? :=cell_of_row w g i cs t (0,0) h
def Blk.frozen(h:Blk w g t cs)(i:Nat):w.frozen? ⟨g,i,none⟩=false:=by unfold Blk at h;simp[World.frozen?,h]
def Blk.new(w:World)(t:TypeId)(cs:Array Value):Blk (w.alloc (.cells cs t)) w.heap.size t cs:=heap_alloc_new w _
def Blk.alloc(h:Blk w g t cs)(o:Obj):Blk (w.alloc o) g t cs:=(Below.heap_alloc w o g h.lt).trans h
def Blk.jH(h:Blk w g t cs)(i:Nat)(u:Value):Blk (w.setCell ⟨g,i,none⟩ u) g t (cs.setIfInBounds i u):=by unfold Blk at h|-;simp[World.setCell,Iz,h]
def Blk.far(h:Blk w g t cs){p:Addr}(hp:g≠p.block)(u:Value):Blk (w.setCell p u) g t cs:=(Below.heap_setCell w p u g hp).trans h
def Blk.below{B:Nat}(h:Blk w g t cs)(hb:Below B w w')(hg:g<B):Blk w' g t cs:=(hb.block g hg).trans h
def Blk.then_(h:Blk w g t cs)(hb:Below w.heap.size w w'):Blk w' g t cs:=h.below hb h.lt
end
end
def K3{P:Program}{ops:Array Oper}{Q:Exit->Act->World->Prop}
  (hac:∀(i:Nat) (o:Oper),ops[i]? =some o->∀e∈o.after.toList,iT .any e=true->e.on<i)
  (Inv:(Nat->Bool)->Act->World->Prop)
  (hstep:∀(i:Nat) (o:Oper) (D:Nat->Bool) (a:Act) (w:World),ops[i]? =some o->Inv D a w->D i=false->(∀e∈o.after.toList,iT .any e=true->D e.on=true)->
    wpOp P ops Q i (λa' w'=>Inv (λj=>if j=i then true else D j) a' w') a w)
  (hend:∀(D:Nat->Bool) (a:Act) (w:World),Inv D a w->(∀i,i<ops.size->D i=true)->Q .normal a w):
  ∀(fuel:Nat) (L:Array Bool) (a:Act) (w:World),L.size=ops.size->L.toList.count false<=fuel->Inv (λj=>L.getD j false) a w->wpAny P .any ops Q fuel L a w:=by
 have key:∀(L:Array Bool),L.size=ops.size->DQ .any ops L=[]->∀i,i<ops.size->L.getD i false=true:=by
  intro L hL hr i;induction i using Nat.strongRecOn with
  |ind i ih=>
   intro hi;rcases TB (L.getD i false)with h|h
   .exact h
   .have hmem:i∈DQ .any ops L:=by
     unfold DQ;rw[fG];refine⟨cD.2 hi,?_⟩;have h1:L.getD i true=false:=by rw[gh,w7 (by omega)]at h|-;exact h
     obtain⟨o,ho⟩:∃o,ops[i]? =some o:=⟨_,w7 hi⟩;rw[h1,ho];simp only[Bool.not_false,jM,eJ,lz];rw[Array.all_eq_true'];intro e he;rcases TB (iT .any e)with hb|hb
     .grind
     .rw[hb];rfl
    grind
 intro fuel;induction fuel with
 |zero=>
  intro L a w hL hc hI;have hall:∀i,i<ops.size->L.getD i false=true:=by
   intro i hi;rcases TB (L.getD i false)with h|h
   .exact h
   .exfalso;have h0:L.toList.count false=0:=by omega
    rw[List.count_eq_zero]at h0;rw[gh,w7 (by omega)]at h;grind
  refine⟨?_,by grind⟩;unfold DQ;simp_all
 |succ fuel ih=>
  intro L a w hL hc hI;refine⟨by grind,?_⟩;intro i hi;unfold DQ at hi;rw[fG]at hi;obtain⟨hi1,hi2⟩:=hi;have hlt:=cD.1 hi1;obtain⟨o,ho⟩:∃o,ops[i]? =some o:=by grind
  rw[ho]at hi2;simp only[eJ,lz,bj,zP]at hi2;obtain⟨hf,hall⟩:=hi2;have hLi:L[i]? =some false:=by rw[gh,w7 (by omega)]at hf;rw[w7 (by omega)];simpa using hf
  have hD:L.getD i false=false:=by rw[gh,hLi];rfl
  have hpre:∀e∈o.after.toList,iT .any e=true->L.getD e.on false=true:=by intro e he hb;rw[Array.all_eq_true']at hall;have:=hall e (Array.mem_toList_iff.1 he);rw[hb]at this;simpa using this
  refine wpOp_mono ?_ (hstep i o _ a w ho hI hD hpre);intro a' w' hI';refine ih (L.setIfInBounds i true) a' w' (by grind) ?_ ?_
  .grind
  .have e:(λj=>(L.setIfInBounds i true).getD j false)=(λj=>if j=i then true else L.getD j false):=by
    funext j
    rw[gh,gh,w8];by_cases h:i=j
    .grind
    .grind
   grind
def Ts{P:Program}{id:Nat}{ops:Array Oper}{Q:Exit->Act->World->Prop}{a0:Act}{w0:World}(hm:P.follows .mixedOrders=true)
  (hac:∀(i:Nat) (o:Oper),ops[i]? =some o->∀e∈o.after.toList,iT .any e=true->e.on<i)
  (Inv:(Nat->Bool)->Act->World->Prop) (h0:Inv (λ_=>false) a0 w0.drew)
  (hstep:∀(i:Nat) (o:Oper) (D:Nat->Bool) (a:Act) (w:World),ops[i]? =some o->Inv D a w->D i=false->(∀e∈o.after.toList,iT .any e=true->D e.on=true)->
    wpOp P ops Q i (λa' w'=>Inv (λj=>if j=i then true else D j) a' w') a w)
  (hend:∀(D:Nat->Bool) (a:Act) (w:World),Inv D a w->(∀i,i<ops.size->D i=true)->Q .normal a w):
  (zR id ops true).wp P Q a0 w0:=by
 refine wp_region_any hm (K3 hac Inv hstep hend _ _ _ _ (by simp) ?_ ?_)
 .simp
 .have e:(λj=>(Array.replicate ops.size false).getD j false)=(λ_=>false):=by
   funext j
   rw[gh,Array.getElem?_replicate];split<;>rfl
  simp_all
def bJ(V:Nat->Value):Operand->Value
 | .tmp t=>V t
 | .const v=>v
 | .global g=> .pointer (some ⟨g,0,none⟩)
 | .func f=> .func (.func f) #[] #[]
def cQ(P:Program)(o:Oper)(V:Nat->Value)(w:World)(K:Value->World->Prop):Prop:=
 match(execOp (bJ V) o).run P w with
 | .ok (.value v) w'=>K v w'
 | .ok .skip w'=>K undef w'
 | .ok (.enter f args) w'=>Calls P f args w' λe w''=>∃v,e= .returned v/\K v w''
 |_=>False
def iZ(a0:Act)(dsts:List Nat)(V:Nat->Value):Act:=dsts.foldl (λa s=>a.put (some s) (V s)) a0
def AA(V:Nat->Value):∀(dsts:List Nat) (a0:Act),(∀s∈dsts,s<a0.tmps.size)->
  (iZ a0 dsts V).defers=a0.defers/\(iZ a0 dsts V).tmps.size=a0.tmps.size/\∀s,s<a0.tmps.size->(iZ a0 dsts V).tmps.getD s undef=if s∈dsts then V s else a0.tmps.getD s undef
 |[],a0,_=>⟨rfl,rfl,λs _=>by simp[iZ]⟩
 |d::dsts,a0,h=>by
  have hs:(a0.put (some d) (V d)).tmps.size=a0.tmps.size:=by simp[og]
  obtain⟨h1,h2,h3⟩:=AA V dsts (a0.put (some d) (V d)) (by grind);refine⟨h1,h2.trans hs,?_⟩;intro s hlt;have:=h3 s (by omega);show(iZ (a0.put (some d) (V d)) dsts V).tmps.getD s undef=_;rw[this];by_cases hm:s∈dsts
  .grind
  .by_cases e:s=d
   .subst e;simp[og,hlt]
   .simp only[og,gh,w8];grind
def Act.eval_evalV(a:Act):a.eval=bJ (λs=>a.tmps.getD s undef):=by
 funext x
 cases x<;>rfl
def gdV(ops:Array Oper)(V:Nat->Value)(j:Nat):Option Bool:=
 match(ops[j]?).bind (·.dst)with
 |some d=>(match V d with| .bool b=>some b|_=>none)
 |none=>none
def D2(ops:Array Oper)(t:Array Value):yielded ops t=gdV ops (λs=>t.getD s undef):=by
 funext j
 unfold yielded gdV;cases h:(ops[j]?).bind (·.dst)with
 |none=>rfl
 |some d=>
  simp only[rC,gh];cases ht:t[d]? with
  |none=>rfl
  |some v=>grind
def US{P:Program}{id:Nat}{ops:Array Oper}{Q:Exit->Act->World->Prop}{a0:Act}{w0:World}(hm:P.follows .mixedOrders=true)
  (dsts:List Nat)
  (hok:((bM ops.size).all λi=>((ops[i]?).map λo=>(o.after.toList.all λe=> !iT .any e||decide (e.on<i))&&(match o.dst with|some d=>dsts.contains d|none=>true)).getD true)=true)
  (hds:∀s∈dsts,s<a0.tmps.size)
  (F:(Nat->Bool)->(Nat->Value)->World->Prop) (h0:F (λ_=>false) (λs=>a0.tmps.getD s undef) w0.drew)
  (hstep:∀(i:Nat) (o:Oper) (D:Nat->Bool) (V:Nat->Value) (w:World),ops[i]? =some o->F D V w->D i=false->(∀e∈o.after.toList,iT .any e=true->D e.on=true)->
    (∀s,s∉dsts->V s=a0.tmps.getD s undef)->
    if iz o (gdV ops V)=true then
     cQ P o V w (λv w'=>F (λj=>if j=i then true else D j) (match o.dst with|some d=>λs=>if s=d then v else V s|none=>V) w')
    else F (λj=>if j=i then true else D j) (match o.dst with|some d=>λs=>if s=d then undef else V s|none=>V) w)
  (hend:∀(D:Nat->Bool) (V:Nat->Value) (w:World),F D V w->(∀i,i<ops.size->D i=true)->Q .normal (iZ a0 dsts V) w):
  (zR id ops true).wp P Q a0 w0:=by
 have hops:∀(i:Nat) (o:Oper),ops[i]? =some o->(∀e∈o.after.toList,iT .any e=true->e.on<i)/\(∀d,o.dst=some d->d∈dsts):=by
  intro i o ho;have hi:i<ops.size:=by grind
  rw[bh]at hok;have:=hok i (cD.2 hi);rw[ho]at this;simp only[eJ,lz,bj]at this;obtain⟨g2,g3⟩:=this;refine⟨?_,?_⟩
  .grind
  .grind
 refine Ts hm (by grind) (λD a w=>a.defers=a0.defers/\a.tmps.size=a0.tmps.size/\(∀s,s∉dsts->a.tmps.getD s undef=a0.tmps.getD s undef)/\F D (λs=>a.tmps.getD s undef) w) (by grind) ?_ ?_
 .intro i o D a w ho ⟨i1,i2,i3,i4⟩ hD hpre;obtain⟨_,hdst⟩:=hops i o ho;have hrun:=hstep i o D (λs=>a.tmps.getD s undef) w ho i4 hD hpre i3;have hput:∀(v:Value) (w':World),F (λj=>if j=i then true else D j) (match o.dst with|some d=>λs=>if s=d then v else a.tmps.getD s undef|none=>λs=>a.tmps.getD s undef) w'->
    (a.put o.dst v).defers=a0.defers/\(a.put o.dst v).tmps.size=a0.tmps.size/\(∀s,s∉dsts->(a.put o.dst v).tmps.getD s undef=a0.tmps.getD s undef)/\F (λj=>if j=i then true else D j) (λs=>(a.put o.dst v).tmps.getD s undef) w':=by
   intro v w' hF;cases hd:o.dst with
   |none=>rw[hd]at hF;exact⟨i1,i2,i3,hF⟩
   |some d=>
    have hdm:=hdst d hd;have hget:∀s,(a.put (some d) v).tmps.getD s undef=if s=d then v else a.tmps.getD s undef:=by
     intro s;simp only[og,gh,w8];by_cases e:d=s
     .grind
     .grind
    refine⟨i1,by simpa[og]using i2,?_,?_⟩
    .intro s hs;rw[hget,if_neg (by grind)];exact i3 s hs
    .have e:(λs=>(a.put (some d) v).tmps.getD s undef)=(λs=>if s=d then v else a.tmps.getD s undef):=funext hget;grind
  unfold wpOp;rw[ho];simp only[];rw[D2];by_cases hw:iz o (gdV ops λs=>a.tmps.getD s undef)=true
  .rw[if_pos hw]at hrun|-;refine .inl ?_;unfold Oper.wp;rw[Act.eval_evalV];unfold cQ at hrun;cases hr:(execOp (bJ λs=>a.tmps.getD s undef) o).run P w with
   |halt x w'=>grind
   |ok n w'=>
    rw[hr]at hrun;cases n<;>simp only[]at hrun<;>first|exact hrun.elim|skip
    .exact hput _ _ hrun
    .exact hput _ _ hrun
    .rename_i f args;refine hrun.mono ?_;rintro e w'' ⟨v,rfl,hK⟩;exact hput _ _ hK
  .rw[if_neg hw]at hrun|-;exact hput _ _ hrun
 .intro D a w ⟨i1,i2,i3,i4⟩ hall;obtain⟨p1,p2,p3⟩:=AA (λs=>a.tmps.getD s undef) dsts a0 hds;have e:iZ a0 dsts (λs=>a.tmps.getD s undef)=a:=by
   obtain⟨t,df⟩:=a;have ht:(iZ a0 dsts (λs=>t.getD s undef)).tmps=t:=by
    apply Array.ext
    .rw[p2];exact i2.symm
    .intro s h1 h2;have h3:=p3 s (by grind);rw[gh,w7 h1,lz]at h3;rw[h3];by_cases hm:s∈dsts
     .rw[if_pos hm];simp[gh,h2]
     .rw[if_neg hm,<-i3 s hm];simp[gh,h2]
   have hdf:(iZ a0 dsts (λs=>t.getD s undef)).defers=df:=p1.trans i1.symm;show iZ a0 dsts (λs=>t.getD s undef)={tmps:=t,defers:=df};cases hp:iZ a0 dsts (λs=>t.getD s undef)with
   |mk t' df'=>
    grind
  grind
def az(g:Nat->Option Ob)(W:List (Nat×Option Ob)):Nat->Option Ob:=λs=>match W.lookup s with|some x=>x|none=>g s
def lF:Value->AV
 | .int k n=> .p (.int k n)
 | .bool b=> .p (.bool b)
 | .string s=> .p (.str s)
 | .slice none 0 0=> .nil
 |_=> .any
def Kv{ρ:Ren}{C:bG}(v:Value):aR ρ C (lF v) v:=by unfold lF;split<;>(unfold aR;try unfold aY)<;>first|rfl|trivial
def un{ρ:Ren}{C:bG}:∀(vs:List Value),bE ρ C (vs.map lF) vs
 |[] =>by rfl
 |v::vs=>by exact⟨v,vs,rfl,Kv v,un vs⟩
def bT:List AV->Option (List PV)
 |[] =>some []
 | .p x::l=>(bT l).map (x:: ·)
 |_::_=>none
def eO(l:List AV):AV:=match bT l with|some q=> .p (.agg q)|none=> .agg l
def rW{ρ:Ren}{C:bG}:∀{l:List AV} {q:List PV} {vs:List Value},bT l=some q->bE ρ C l vs->bK C q vs
 |[],q,vs,h,hr=>by simp[bT]at h;subst h;exact hr
 |x::l,q,vs,h,hr=>by
  unfold bT at h;split at h
  .grind
  .rename_i y l' e;cases e;simp only[mW]at h;obtain⟨r,h1,rfl⟩:=h;obtain⟨v,vs',rfl,h2,h3⟩:=hr;exact⟨v,vs',rfl,h2,rW h1 h3⟩
  .cases h
def A6{ρ:Ren}{C:bG}{l:List AV}{vs:List Value}(h:bE ρ C l vs)(h1:iD vs):aR ρ C (eO l) (.agg vs.toArray):=by
 unfold eO;split
 .rename_i q hq;exact⟨vs,rfl,rW hq h,h1⟩
 .unfold aR;grind
def bK.toA{ρ:Ren}{C:bG}:∀{l:List PV} {vs:List Value},bK C l vs->bE ρ C (l.map .p) vs
 |[],vs,h=>by exact h
 |x::l,vs,h=>by
  obtain⟨v,r,rfl,h2,h3⟩:=h;exact⟨v,r,rfl,by exact h2,bK.toA h3⟩
def td:Value->AV
 | .agg cs=>if cs.toList.all (·.oneCell')=true then eO (cs.toList.map lF)else .any
 | .tuple vs=>if vs.toList=[]then .undef else .any
 |v=>lF v
def Uf{ρ:Ren}{C:bG}(v:Value):aR ρ C (td v) v:=by
 unfold td;split
 .split
  .rename_i cs h;have:=A6 (un (ρ:=ρ) (C:=C) cs.toList) (λu hu=>by grind);omega
  .trivial
 .split
  .unfold aR Go.undef;simp_all
  .trivial
 .exact Kv v
def kX(F:List AV):Operand->AV
 | .tmp t=>F.getD t .any
 | .const v=>td v
 | .func f=> .p (.fn (.func f) [] [])
 | .global _=> .any
def af(P:Program)(t:TypeId):Nat:=((P.info? t).map (·.size)).getD 0
def ir(P:Program)(t:TypeId):Bool:=match P.underlying t with|some (.struct _)|some (.array _ _)=>true|_=>false
def tok(P:Program)(t:TypeId):Bool:=(P.info? t).isSome&&(P.underlying t).isSome
def qZ(P:Program)(t:TypeId):Option (List AV):=(P.info? t).bind λi=>i.zero.map λz=>z.cells.toList.map lF
def qY(P:Program)(t:TypeId):Bool:=((P.info? t).bind λi=>i.zero.map λz=>z.cells.toList.all (·.oneCell')&&z.cells.size==i.size).getD false
def dI(P:Program)(t:TypeId):Option TypeId:=match P.underlying t with|some (.slice e)=>some e|_=>none
def sK(P:Program)(t:TypeId):Option (Nat×TypeId):=match P.underlying t with|some (.array n e)=>some (n,e)|_=>none
def IC(P:Program)(t:TypeId):Option IntKind:=match P.underlying t with|some (.int k)=>some k|_=>none
def uL(P:Program)(t:TypeId)(f:Nat):Option (Nat×TypeId):=match P.underlying t with
 |some (.struct fs)=>(fs[f]?).bind λx=>if af P x.type=0 then none else some (x.offset,x.type)
 |_=>none
def zF:Nat->Nat->Nat
 |0,_=>0
 |f+1,s=>if s % 2=0 then zF f (s/2)+1 else 0
def cls(s:Nat):Nat:=zF s s
def sit(n i:Nat):Nat:=2^n*(2*i+1)
def Nd(i:Nat):∀(n f:Nat),n<f->zF f (sit n i)=n
 |0,f+1,_=>by unfold zF sit;grind
 |n+1,f+1,h=>by
  have e:sit (n+1) i=2*sit n i:=by unfold sit;rw[Nat.pow_succ,Nat.mul_comm (2^n) 2,Nat.mul_assoc]
  unfold zF;rw[e,if_pos (by omega),Nat.mul_div_cancel_left _ (by decide),Nd i n f (by omega)]
def iW(n i:Nat):cls (sit n i)=n:=Nd i n _ (by unfold sit;have h1:n<2^n:=Nat.lt_two_pow_self;grind)
abbrev Res:=AV->List Nat->List (Nat×Option Ob)->Prop
def bW(P:Program)(o:Oper)(E:Operand->AV)(σ:Nat->Option Ob)(n:Nat)(r:AV)(R:List Nat)(W:List (Nat×Option Ob)):Prop:=
 ∀(C0:bG) (ρ:Ren) (g:Nat->Option Ob) (V:Nat->Value) (w:World) (B:Nat),StR C0 ρ g w B->B<=w.heap.size->(∀s∈R,g s=σ s)->(∀s,cls s=n->ρ s=none)->(∀s,cls s=n->g s=none)->
  (∀x∈o.op.operands.toList,aR ρ (bC C0 B w ρ g) (E x) (bJ V x))->
  cQ P o V w λv w'=>∃ρ':Ren,(∀s,cls s≠n->ρ' s=ρ s)/\(∀b o' x,bC C0 B w ρ g b o' x->bC C0 B w' ρ' (az g W) b o' x)/\
   StR C0 ρ' (az g W) w' B/\aR ρ' (bC C0 B w' ρ' (az g W)) r v/\Below B w w'
def bW.pure{P:Program}{o:Oper}{E:Operand->AV}{σ:Nat->Option Ob}{n:Nat}{r:AV}{R:List Nat}
  (h:∀(C0:bG) (ρ:Ren) (g:Nat->Option Ob) (V:Nat->Value) (w:World) (B:Nat),StR C0 ρ g w B->(∀s∈R,g s=σ s)->(∀x∈o.op.operands.toList,aR ρ (bC C0 B w ρ g) (E x) (bJ V x))->
    cQ P o V w λv w'=>w'=w/\aR ρ (bC C0 B w ρ g) r v):bW P o E σ n r R [] :=by
 intro C0 ρ g V w B hs hB hR hn hg hE;have:=h C0 ρ g V w B hs hR hE;have hmono':∀(K K':Value->World->Prop),(∀v w,K v w->K' v w)->cQ P o V w K->cQ P o V w K':=by
  intro K K' hk h;unfold cQ at h|-;split at h
  .grind
  .grind
  .exact h.mono (by grind)
  .exact h.elim
 refine hmono' _ _ ?_ this;rintro v w' ⟨rfl,hr⟩;exact⟨ρ,λ_ _=>rfl,λ_ _ _ h=>h,hs,hr,Below.refl _ _⟩
def Hz(P:Program)(t:TypeId)(cs:List PV)(off:Nat)(K:PV->Prop):Prop:=
 tok P t=true/\if ir P t=true then∃l,(cs.drop off).take (af P t)=l/\l.length=af P t/\K (.agg l)else∃x,cs[off]? =some x/\K x
def ry(P:Program)(t:TypeId)(cs:List AV)(off:Nat)(K:AV->Prop):Prop:=
 tok P t=true/\if ir P t=true then∃l,(cs.drop off).take (af P t)=l/\l.length=af P t/\K (eO l)else∃x,cs[off]? =some x/\K x
def JM{P:Program}(w:World)(b o:Nat)(t:TypeId)(ht:tok P t=true)(vs:List Value)(v:Value)
  (h:if ir P t=true then vs.length=af P t/\w.rangeAt b o vs/\v= .agg vs.toArray else w.cell? ⟨b,o,none⟩=some v):
  (DT t (.pointer (some ⟨b,o,none⟩))).run P w= .ok v w:=by
 unfold tok at ht;simp only[bj,pw]at ht;obtain⟨⟨i,hi⟩,d,hd⟩:=ht;cases hg:ir P t with
 |true=>
  rw[hg,if_pos rfl]at h;obtain⟨h1,h2,rfl⟩:=h;refine run_loadAt_mid w b o t vs d h2 hd ?_ ?_
  .unfold ir at hg;grind
  .rw[h1];unfold af;rw[hi];rfl
 |false=>
  rw[hg]at h;simp only[lN,if_false]at h;have:(isAgg t).run P w= .ok false w:=by unfold isAgg;rw[cr,run_underlying hd w];unfold ir at hg;rw[hd]at hg;cases d<;>simp_all
  simp[DT,DU,loadVar,this,h,load,Sem.run]
def XC{P:Program}{o:Oper}{E:Operand->AV}{σ:Nat->Option Ob}{n:Nat}{t:TypeId}{x:Operand}(ho:o.op= .load t x){cs:List PV}{off:Nat}(hx:E x= .p (.pro cs off)){K:PV->Prop}
  (h:Hz P t cs off K):∃r,bW P o E σ n (.p r) [] []/\K r:=by
 obtain⟨ht,h⟩:=h;have key:∀(r:PV),(∀(C:bG) (w:World) (b oo:Nat),(∀b o v,C b o v->w.cell? ⟨b,o,none⟩=some v)->dA C cs b oo->∃v vs,(if ir P t=true then vs.length=af P t/\w.rangeAt b (oo+off) vs/\v= .agg vs.toArray else w.cell? ⟨b,oo+off,none⟩=some v)/\aY C r v)->
   bW P o E σ n (.p r) [] [] :=by
  intro r hr;refine bW.pure ?_;intro C0 ρ g V w B hs _ hE;have h1:=hE x (by rw[ho];simp[ce]);rw[hx]at h1;unfold aR aY at h1;obtain⟨b,oo,he,hc⟩:=h1;obtain⟨v,vs,h2,h3⟩:=hr _ w b oo (λb o v hh=>hh.1) hc;have:=JM (P:=P) w b (oo+off) t ht vs v h2;unfold cQ execOp;simp only[ho,he,cr,this,dB,da];exact⟨trivial,by exact h3⟩
 split at h
 .rename_i hg;obtain⟨l,hl,hlen,hK⟩:=h;refine⟨_,key _ ?_,hK⟩;intro C w b oo hC hc;have hc2:=(hc.drop off).take (af P t);rw[hl]at hc2;have:∀m,∀l':List PV,l'.length=m->∀o',dA C l' b o'->∃vs:List Value,vs.length=m/\w.rangeAt b o' vs/\bK C l' vs/\iD vs:=by
   intro m;induction m with
   |zero=>intro l' h0 o' _;refine⟨[],rfl,(λj v hj=>by simp at hj),?_⟩;rw[p7.1 h0];exact⟨by rfl,λu hu=>by cases hu⟩
   |succ m ih=>
    intro l' h1 o' h2;cases l' with
    |nil=>simp at h1
    |cons y l'=>
     obtain⟨⟨v,h3,h6,h4⟩,h5⟩:=h2;obtain⟨vs,g1,g2,g3,g4⟩:=ih l' (by grind) (o'+1) h5;refine⟨v::vs,by simp[g1],?_,?_,λu hu=>by rcases bI.1 hu with rfl|hu;exact h6;exact g4 u hu⟩
     .intro j u hj;cases j with
      |zero=>grind
      |succ j=>have:=g2 j u (by grind);grind
     .unfold bK;grind
  obtain⟨vs,g1,g2,g3,g4⟩:=this _ l rfl _ hc2;refine⟨_,vs,?_,by exact⟨vs,rfl,g3,g4⟩⟩;grind
 .obtain⟨y,hy,hK⟩:=h;refine⟨y,key _ ?_,hK⟩;intro C w b oo hC hc;obtain⟨v,h1,_,h2⟩:=dA.get cs b oo hc off y hy;refine⟨v,[],?_,h2⟩;grind
def Lh{P:Program}{t:TypeId}{ob:Ob}{off:Nat}{K:AV->Prop}(h:ry P t ob.cells off K):∃r,K r/\∀(ρ:Ren) (C:bG) (w:World) (b c:Nat) (arr:Array Value),ObRep ρ C w b c ob arr->
  ∃v,(DT t (.pointer (some ⟨b,off,none⟩))).run P w= .ok v w/\aR ρ C r v:=by
 obtain⟨ht,h⟩:=h;have key:∀(r:AV),(∀(ρ:Ren) (C:bG) (w:World) (b c:Nat) (arr:Array Value),ObRep ρ C w b c ob arr->∃v vs,(if ir P t=true then vs.length=af P t/\w.rangeAt b off vs/\v= .agg vs.toArray else w.cell? ⟨b,off,none⟩=some v)/\aR ρ C r v)->
   ∀(ρ:Ren) (C:bG) (w:World) (b c:Nat) (arr:Array Value),ObRep ρ C w b c ob arr->∃v,(DT t (.pointer (some ⟨b,off,none⟩))).run P w= .ok v w/\aR ρ C r v:=by
  intro r hr ρ C w b c arr h3;obtain⟨v,vs,h4,h5⟩:=hr _ _ w b c arr h3;exact⟨v,JM (P:=P) w b off t ht vs v h4,h5⟩
 split at h
 .rename_i hg;obtain⟨l,hl,hlen,hK⟩:=h;refine⟨_,hK,key _ ?_⟩;intro ρ C w b c arr hc;have:∀m,∀l':List AV,l'.length=m->∀o',(∀(i:Nat) x,l'[i]? =some x->∃v,arr[o'+i]? =some v/\v.oneCell'=true/\aR ρ C x v)->∃vs:List Value,vs.length=m/\w.rangeAt b o' vs/\bE ρ C l' vs/\iD vs:=by
   intro m;induction m with
   |zero=>intro l' h0 o' _;refine⟨[],rfl,(λj v hj=>by simp at hj),?_⟩;rw[p7.1 h0];exact⟨by rfl,λu hu=>by cases hu⟩
   |succ m ih=>
    intro l' h1 o' h2;cases l' with
    |nil=>simp at h1
    |cons y l'=>
     obtain⟨v,h3,h6,h4⟩:=h2 0 y rfl;obtain⟨vs,g1,g2,g3,g4⟩:=ih l' (by grind) (o'+1) (λi x hi=>by have:=h2 (i+1) x (by grind);grind)
     refine⟨v::vs,by simp[g1],?_,?_,λu hu=>by rcases bI.1 hu with rfl|hu;exact h6;exact g4 u hu⟩
     .intro j u hj;cases j with
      |zero=>simp at hj;subst hj;rw[hc.cell];exact h3
      |succ j=>have:=g2 j u (by grind);grind
     .unfold bE;grind
  obtain⟨vs,g1,g2,g3,g4⟩:=this _ l rfl off (λi x hi=>hc.cells _ x (by grind))
  refine⟨_,vs,?_,A6 g3 g4⟩;grind
 .rename_i hg;obtain⟨y,hy,hK⟩:=h;refine⟨y,hK,key _ ?_⟩;intro ρ C w b c arr hc;obtain⟨v,h1,_,h2⟩:=hc.cells off y hy;refine⟨v,[],?_,h2⟩;rw[if_neg hg,hc.cell];exact h1
def XD{P:Program}{o:Oper}{E:Operand->AV}{σ:Nat->Option Ob}{n:Nat}{t:TypeId}{x:Operand}(ho:o.op= .load t x){s off:Nat}(hx:E x= .ptr s off){ob:Ob}(hob:σ s=some ob){K:AV->Prop}
  (h:ry P t ob.cells off K):∃r,bW P o E σ n r [s] []/\K r:=by
 obtain⟨r,hK,hr⟩:=Lh h;refine⟨r,bW.pure ?_,hK⟩;intro C0 ρ g V w B hs hR hE;have h1:=hE x (by rw[ho];simp[ce]);rw[hx]at h1;obtain⟨b,c,he,hv⟩:=h1;obtain⟨_,arr,h3⟩:=hs.at ((hR s (by simp)).trans hob) he;obtain⟨v,h4,h5⟩:=hr _ _ w b c arr h3;unfold cQ execOp;simp_all
section
section
variable {P:Program} {o:Oper} {E:Operand->AV} {σ:Nat->Option Ob} {n:Nat}
def bW.val{r:AV}(h:∀(ρ:Ren) (C:bG) (V:Nat->Value) (w:World),(∀x∈o.op.operands.toList,aR ρ C (E x) (bJ V x))->
  ∃v,(execOp (bJ V) o).run P w= .ok (.value v) w/\aR ρ C r v):bW P o E σ n r [] [] :=by
 refine bW.pure ?_;intro C0 ρ g V w B _ _ hE;obtain⟨v,h1,h2⟩:=h ρ _ V w hE;unfold cQ;grind
def M3{x:Operand}(ho:o.op= .move x\/o.op= .assign x):bW P o E σ n (E x) [] [] :=by refine bW.val ?_;intro ρ C V w hE;have h1:=hE x (by rcases ho with ho|ho<;>rw[ho] <;>simp[ce]);refine⟨bJ V x,?_,h1⟩;rcases ho with ho|ho<;>(unfold execOp;rw[ho];rfl)
def XS{x:Operand}(ho:o.op= .move x\/o.op= .assign x)(hx:E x= .nil):bW P o E σ n (.p (.sl 0 [])) [] [] :=by
 refine bW.val ?_;intro ρ C V w hE;have h1:=hE x (by rcases ho with ho|ho<;>rw[ho] <;>simp[ce]);rw[hx]at h1;refine⟨bJ V x,?_,?_⟩
 .rcases ho with ho|ho<;>(unfold execOp;rw[ho];rfl)
 .rw[h1];unfold aR aY;grind
def v8(c a b:AV)(K:AV->Prop):Prop:=match c with
 | .p (.bool t)=>K (if t=true then a else b)
 |_=>False
def Yi{c a b:Operand}(ho:o.op= .pick c a b){K:AV->Prop}(h:v8 (E c) (E a) (E b) K):∃r,bW P o E σ n r [] []/\K r:=by
 unfold v8 at h;have key:∀t:Bool,E c= .p (.bool t)->bW P o E σ n (if t=true then E a else E b) [] [] :=by
  intro t ht;refine bW.val ?_;intro ρ C V w hE;have h1:=hE c (by rw[ho];simp[ce]);have h2:=hE a (by rw[ho];simp[ce]);have h3:=hE b (by rw[ho];simp[ce]);rw[ht]at h1;unfold aR aY at h1;refine⟨if t then bJ V a else bJ V b,?_,?_⟩
  .unfold execOp;rw[ho];simp[h1,asBool]
  .grind
 grind
def C4(x:AV):Bool:=match x with
 | .ptr .. =>true
 | .p (.pro ..)=>true
 | .fn (.func _) .. =>true
 | .p (.fn (.func _) ..)=>true
 |_=>false
def aAo{x:Operand}(ho:o.op= .nilCheck x)(h:C4 (E x)=true):bW P o E σ n (E x) [] [] :=by
 refine bW.val ?_;intro ρ C V w hE;have h1:=hE x (by rw[ho];simp[ce]);refine⟨bJ V x,?_,h1⟩;unfold execOp;rw[ho];unfold C4 at h;split at h
 .rename_i e;rw[e]at h1;obtain⟨b,c,_,h1⟩:=h1;simp[h1]
 .rename_i e;rw[e]at h1;obtain⟨b,c,h1,_⟩:=h1;simp[h1]
 .rename_i e;rw[e]at h1;obtain⟨b,c,h1,_⟩:=h1;simp[h1]
 .rename_i e;rw[e]at h1;obtain⟨b,c,h1,_⟩:=h1;simp[h1]
 .cases h
def ll(l:List Int):List PV:=l.map (.int .i64)
def yo(P:Program)(t:TypeId)(m:Nat):Prop:=∀(xs ys:List Int) (x y:Operand) (w:World),xs.length=m->ys.length=m->
 (do eqGuard .eql t x y (.agg (xs.map (cg .i64)).toArray) (.agg (ys.map (cg .i64)).toArray);binOp .eql t (.agg (xs.map (cg .i64)).toArray) (.agg (ys.map (cg .i64)).toArray):Sem Value).run P w= .ok (.bool (xs==ys)) w/\
 (do eqGuard .neq t x y (.agg (xs.map (cg .i64)).toArray) (.agg (ys.map (cg .i64)).toArray);binOp .neq t (.agg (xs.map (cg .i64)).toArray) (.agg (ys.map (cg .i64)).toArray):Sem Value).run P w= .ok (.bool (xs !=ys)) w
def Hf(P:Program)(t:TypeId):Bool:=match P.underlying t with|some .bool=>true|_=>false
def pJ:List PV->Option (List Int)
 |[] =>some []
 | .int .i64 k::l=>(pJ l).map (k:: ·)
 |_=>none
def EW{C:bG}:∀{l:List PV} {xs:List Int} {vs:List Value},pJ l=some xs->bK C l vs->vs=xs.map (cg .i64)
 |[],xs,vs,h,hr=>by simp[pJ]at h;subst h;subst hr;rfl
 |x::l,xs,vs,h,hr=>by
  unfold pJ at h;split at h
  .grind
  .rename_i k l' e;cases e;simp only[mW]at h;obtain⟨r,h1,rfl⟩:=h;obtain⟨v,vs',rfl,h2,h3⟩:=hr;rw[h2,EW h1 h3];rfl
  .cases h
def JN{t:TypeId}(hu:P.underlying t=some .bool)(a b:Bool)(w:World):(Op.equal t (.bool a) (.bool b)).run P w= .ok (a==b) w:=by unfold Op.equal;rw[show Op.maxDepth=9999+1 from rfl];unfold uY;simp[run_underlying hu]
def vu(op:BinOp)(k:IntKind)(a b:Int)(K:AV->Prop):Prop:=match op with
 | .add=>K (.p (.int k (k.wrap (a+b))))
 | .sub=>K (.p (.int k (k.wrap (a-b))))
 | .mul=>K (.p (.int k (k.wrap (a*b))))
 | .quo=>b≠0/\K (.p (.int k (k.wrap (a.tdiv b))))
 | .rem=>b≠0/\K (.p (.int k (a.tmod b)))
 | .eql=>K (.p (.bool (a==b)))
 | .neq=>K (.p (.bool (a !=b)))
 | .lss=>K (.p (.bool (decide (a<b))))
 | .leq=>K (.p (.bool (decide (a<=b))))
 | .gtr=>K (.p (.bool (decide (b<a))))
 | .geq=>K (.p (.bool (decide (b<=a))))
 |_=>False
def wY(P:Program)(op:BinOp)(t:TypeId)(x y:AV)(K:AV->Prop):Prop:=match x,y with
 | .p (.int k a),.p (.int k' b)=>k'=k/\vu op k a b K
 | .p (.bool a),.p (.bool b)=>Hf P t=true/\(match op with| .eql=>K (.p (.bool (a==b)))| .neq=>K (.p (.bool (a !=b)))|_=>False)
 | .p (.agg l),.p (.agg m)=>∃xs ys,pJ l=some xs/\pJ m=some ys/\xs.length=ys.length/\yo P t xs.length/\(match op with| .eql=>K (.p (.bool (xs==ys)))| .neq=>K (.p (.bool (xs !=ys)))|_=>False)
 | .p (.sl _ cs),.nil=>(dI P t).isSome=true/\cs≠[]/\op= .eql/\K (.p (.bool false))
 |_,_=>False
def aA2{op:BinOp}{t t':TypeId}{x y:Operand}(ho:o.op= .binOp op t x y t'){K:AV->Prop}(h:wY P op t (E x) (E y) K):∃r,bW P o E σ n r [] []/\K r:=by
 have hx:x∈o.op.operands.toList:=by rw[ho];simp[ce]
 have hy:y∈o.op.operands.toList:=by rw[ho];simp[ce]
 unfold wY at h;split at h
 .rename_i k a k' b ea eb;obtain⟨rfl,h⟩:=h;have key:∀r:AV,(∀ρ C,∃v,(∀w:World,(do eqGuard op t x y (.int k' a) (.int k' b);binOp op t (.int k' a) (.int k' b):Sem Value).run P w= .ok v w)/\aR ρ C r v)->bW P o E σ n r [] [] :=by intro r hr;refine bW.val ?_;intro ρ C V w hE;have h1:=hE x hx;have h2:=hE y hy;rw[ea]at h1;rw[eb]at h2;unfold aR aY at h1 h2;obtain⟨v,h3,h4⟩:=hr ρ C;refine⟨v,?_,h4⟩;unfold execOp;rw[ho];simp only[h1,h2,cr (x:=(do eqGuard op t x y (.int k' a) (.int k' b);binOp op t (.int k' a) (.int k' b):Sem Value)),h3,dB,da]
  unfold vu at h;split at h
  .exact⟨_,key _ λρ C=>⟨.int k' _,λw=>by simp[eqGuard,binOp,I0];rfl,by rfl⟩,h⟩
  .exact⟨_,key _ λρ C=>⟨.int k' _,λw=>by simp[eqGuard,binOp,I0];rfl,by rfl⟩,h⟩
  .exact⟨_,key _ λρ C=>⟨.int k' _,λw=>by simp[eqGuard,binOp,I0];rfl,by rfl⟩,h⟩
  .exact⟨_,key _ λρ C=>⟨.int k' _,λw=>by simp[eqGuard,binOp,Op.intDiv,h.1];rfl,by rfl⟩,h.2⟩
  .exact⟨_,key _ λρ C=>⟨.int k' _,λw=>by simp[eqGuard,binOp,Op.intDiv,h.1];rfl,by rfl⟩,h.2⟩
  .exact⟨_,key _ λρ C=>⟨.bool _,λw=>by simp[eqGuard,binOp,zS];rfl,by rfl⟩,h⟩
  .exact⟨_,key _ λρ C=>⟨.bool _,λw=>by simp[eqGuard,binOp,zS];rfl,by rfl⟩,h⟩
  .exact⟨_,key _ λρ C=>⟨.bool _,λw=>by simp[eqGuard,binOp,zS];rfl,by rfl⟩,h⟩
  .exact⟨_,key _ λρ C=>⟨.bool _,λw=>by simp[eqGuard,binOp,zS];rfl,by rfl⟩,h⟩
  .exact⟨_,key _ λρ C=>⟨.bool _,λw=>by simp[eqGuard,binOp,zS];rfl,by rfl⟩,h⟩
  .exact⟨_,key _ λρ C=>⟨.bool _,λw=>by simp[eqGuard,binOp,zS];rfl,by rfl⟩,h⟩
  grind
 .rename_i a b ea eb;obtain⟨ht,h⟩:=h;unfold Hf at ht;have hu:P.underlying t=some .bool:=by
   split at ht
   .assumption
   .cases ht
  have key:∀r:AV,(∀ρ C,∃v,(∀w:World,(do eqGuard op t x y (.bool a) (.bool b);binOp op t (.bool a) (.bool b):Sem Value).run P w= .ok v w)/\aR ρ C r v)->bW P o E σ n r [] [] :=by intro r hr;refine bW.val ?_;intro ρ C V w hE;have h1:=hE x hx;have h2:=hE y hy;rw[ea]at h1;rw[eb]at h2;unfold aR aY at h1 h2;obtain⟨v,h3,h4⟩:=hr ρ C;refine⟨v,?_,h4⟩;unfold execOp;rw[ho];simp only[h1,h2,cr (x:=(do eqGuard op t x y (.bool a) (.bool b);binOp op t (.bool a) (.bool b):Sem Value)),h3,dB,da]
  split at h
  .exact⟨_,key _ λρ C=>⟨.bool _,λw=>by simp only[eqGuard,binOp,JN hu,cr,dB,da];rfl,by rfl⟩,h⟩
  .exact⟨_,key _ λρ C=>⟨.bool _,λw=>by simp only[eqGuard,binOp,JN hu,cr,dB,da];rfl,by rfl⟩,h⟩
  grind
 .rename_i l m ea eb;obtain⟨xs,ys,hxs,hys,hlen,hEq,h⟩:=h;have key:∀r:AV,(∀ρ C,∃v,(∀w:World,(do eqGuard op t x y (.agg (xs.map (cg .i64)).toArray) (.agg (ys.map (cg .i64)).toArray);binOp op t (.agg (xs.map (cg .i64)).toArray) (.agg (ys.map (cg .i64)).toArray):Sem Value).run P w= .ok v w)/\aR ρ C r v)->bW P o E σ n r [] [] :=by intro r hr;refine bW.val ?_;intro ρ C V w hE;have h1:=hE x hx;have h2:=hE y hy;rw[ea]at h1;rw[eb]at h2;unfold aR aY at h1 h2;obtain⟨vs1,h1,r1,_⟩:=h1;obtain⟨vs2,h2,r2,_⟩:=h2;rw[EW hxs r1]at h1;rw[EW hys r2]at h2;obtain⟨v,h3,h4⟩:=hr ρ C;refine⟨v,?_,h4⟩;unfold execOp;rw[ho];simp only[h1,h2,cr (x:=(do eqGuard op t x y (.agg (xs.map (cg .i64)).toArray) (.agg (ys.map (cg .i64)).toArray);binOp op t (.agg (xs.map (cg .i64)).toArray) (.agg (ys.map (cg .i64)).toArray):Sem Value)),h3,dB,da]
  split at h
  .exact⟨_,key _ λρ C=>⟨.bool _,λw=>(hEq xs ys x y w rfl hlen.symm).1,by rfl⟩,h⟩
  .exact⟨_,key _ λρ C=>⟨.bool _,λw=>(hEq xs ys x y w rfl hlen.symm).2,by rfl⟩,h⟩
  grind
 .rename_i m cs ea eb;obtain⟨ht,hcs,rfl,h⟩:=h;obtain⟨e,hu⟩:∃e,P.underlying t=some (.slice e):=by unfold dI at ht;grind
  refine⟨_,bW.val ?_,h⟩;intro ρ C V w hE;have h1:=hE x hx;have h2:=hE y hy;rw[ea]at h1;rw[eb]at h2;unfold aR at h1 h2;obtain⟨a,c,h1,_,h3,_⟩:=h1;obtain⟨ad,rfl⟩:∃ad,a=some ad:=by
   cases a with
   |none=>grind
   |some ad=>grind
  refine⟨.bool false,?_,by rfl⟩;unfold execOp;rw[ho];have h4:∀w:World,(uY (9999+1) t (.slice (some ad) m c) (.slice none 0 0)).run P w= .ok false w:=λw=>by generalize 9999=D;simp only[uY,cr,run_underlying hu,dB,da]
  have h5:∀w:World,(binOp .eql t (.slice (some ad) m c) (.slice none 0 0)).run P w= .ok (.bool false) w:=λw=>by have:=h4 w;simp only[binOp,Op.equal,Op.maxDepth,cr,this,dB];rfl
  simp only[h1,h2,eqGuard,cr,h5,dB,da];try rfl
 grind
def unA(op:UnOp)(x:AV)(K:AV->Prop):Prop:=match op,x with
 | .not,.p (.bool b)=>K (.p (.bool !b))
 | .neg,.p (.int k a)=>K (.p (.int k (k.wrap (0-a))))
 |_,_=>False
def aA8{op:UnOp}{t:TypeId}{x:Operand}(ho:o.op= .unOp op t x){K:AV->Prop}(h:unA op (E x) K):∃r,bW P o E σ n r [] []/\K r:=by
 have hx:x∈o.op.operands.toList:=by rw[ho];simp[ce]
 unfold unA at h;split at h
 .rename_i b e;refine⟨_,bW.val ?_,h⟩;intro ρ C V w hE;have h1:=hE x hx;rw[e]at h1;unfold aR aY at h1;exact⟨.bool !b,by unfold execOp;rw[ho];simp[h1,Op.unary],by rfl⟩
 .rename_i k a e;refine⟨_,bW.val ?_,h⟩;intro ρ C V w hE;have h1:=hE x hx;rw[e]at h1;unfold aR aY at h1;exact⟨_,by unfold execOp;rw[ho];simp only[h1,Op.unary,I0];rfl,by rfl⟩
 grind
def Cj(P:Program)(src dst:TypeId)(x:AV)(K:AV->Prop):Prop:=match x with
 | .p (.int _ a)=>(P.underlying src).isSome=true/\∃k,IC P dst=some k/\K (.p (.int k (k.wrap a)))
 |_=>False
def ZW{src dst:TypeId}{x:Operand}(ho:o.op= .convert src dst x){K:AV->Prop}(h:Cj P src dst (E x) K):∃r,bW P o E σ n r [] []/\K r:=by
 have hx:x∈o.op.operands.toList:=by rw[ho];simp[ce]
 unfold Cj at h;split at h
 .rename_i k0 a e;obtain⟨hs,k,hk,h⟩:=h;obtain⟨d,hs⟩:=pw.1 hs;have hd:P.underlying dst=some (.int k):=by
   unfold IC at hk;split at hk
   .grind
   .cases hk
  refine⟨_,bW.val ?_,h⟩;intro ρ C V w hE;have h1:=hE x hx;rw[e]at h1;unfold aR aY at h1;refine⟨_,?_,by rfl⟩;unfold execOp;rw[ho];simp only[h1,convert,cr,run_underlying hs,run_underlying hd,dB,Conv.intToInt,da]
 grind
def Yt{f:Fn}{first caps:Array Operand}(ho:o.op= .makeFunc f first caps):bW P o E σ n (.fn f (first.toList.map E) (caps.toList.map E)) [] [] :=by
 refine bW.val ?_;intro ρ C V w hE;refine⟨.func f (first.map (bJ V)) (caps.map (bJ V)),?_,?_⟩
 .unfold execOp;rw[ho];rfl
 .have key:∀l:List Operand,(∀x∈l,aR ρ C (E x) (bJ V x))->bE ρ C (l.map E) (l.map (bJ V)):=by
   intro l;induction l with
   |nil=>intro _;rfl
   |cons x l ih=>
    unfold bE;grind
  refine⟨first.toList.map (bJ V),caps.toList.map (bJ V),?_,key _ λx hx=>hE x ?_,key _ λx hx=>hE x ?_⟩
  .congr 1<;>(apply p8.1;simp)
  .rw[ho];simp only[ce,Array.toList_append,bl];exact .inl hx
  .rw[ho];simp only[ce,Array.toList_append,bl];exact .inr hx
def HW(P:Program)(t:TypeId)(f:Nat)(x:AV)(K:AV->Prop):Prop:=∃q,uL P t f=some q/\match x with
 | .ptr s off=>K (.ptr s (off+q.1))
 | .p (.pro cs off)=>K (.p (.pro cs (off+q.1)))
 |_=>False
def NN{t:TypeId}{f:Nat}{q:Nat×TypeId}(h:uL P t f=some q)(w:World)(b off:Nat):
  (Instr.fieldAt t (.pointer (some ⟨b,off,none⟩)) f).run P w= .ok (.pointer (some ⟨b,off+q.1,none⟩)) w:=by
 unfold uL at h;split at h
 .rename_i fs hu;simp only[rD]at h;obtain⟨x,hx,h⟩:=h;split at h
  .cases h
  .rename_i hz;cases h;cases hi:P.info? x.type with
   |none=>simp[af,hi]at hz
   |some i=>
    have hne:i.size≠0:=by simpa[af,hi]using hz
    simp[Instr.fieldAt,run_underlying hu,hx,DU,fieldPlace,sizeOf,typeInfo,hi,hne,w9]
 .cases h
def XO{t:TypeId}{f:Nat}{x:Operand}(ho:o.op= .fieldAddr t x f){K:AV->Prop}(h:HW P t f (E x) K):∃r,bW P o E σ n r [] []/\K r:=by
 have hx:x∈o.op.operands.toList:=by rw[ho];simp[ce]
 obtain⟨q,hq,h⟩:=h;split at h
 .rename_i s off e;refine⟨_,bW.val ?_,h⟩;intro ρ C V w hE;have h1:=hE x hx;rw[e]at h1;obtain⟨b,c,h1,h2⟩:=h1;refine⟨.pointer (some ⟨b,off+q.1,none⟩),?_,by unfold aR;grind⟩;unfold execOp;rw[ho];simp only[h2,cr,NN hq,dB,da]
 .rename_i cs off e;refine⟨_,bW.val ?_,h⟩;intro ρ C V w hE;have h1:=hE x hx;rw[e]at h1;obtain⟨b,oo,h1,h2⟩:=h1;refine⟨.pointer (some ⟨b,oo+off+q.1,none⟩),?_,by unfold aR aY;grind⟩;unfold execOp;rw[ho];simp only[h1,cr,NN hq,dB,da]
 grind
def tz(P:Program)(t:TypeId)(l:List AV)(off:Nat)(K:AV->Prop):Prop:=
 tok P t=true/\if ir P t=true then∃m,(l.drop off).take (af P t)=m/\K (eO m)else∃x,l[off]? =some x/\K x
def HR(P:Program)(t:TypeId)(f:Nat)(x:AV)(K:AV->Prop):Prop:=∃q,uL P t f=some q/\match x with
 | .agg l=>tz P q.2 l q.1 K
 | .p (.agg l)=>tz P q.2 (l.map .p) q.1 K
 |_=>False
def bE.take{ρ:Ren}{C:bG}{l:List AV}{vs:List Value}(h:bE ρ C l vs)(k:Nat):bE ρ C (l.take k) (vs.take k):=
 bE.of _ _ (by simp[h.length]) λi x hi=>by
  rw[pp]at hi|-;split at hi
  .rw[if_pos ‹_›];exact h.get _ _ i x hi
  .cases hi
def bE.drop{ρ:Ren}{C:bG}{l:List AV}{vs:List Value}(h:bE ρ C l vs)(k:Nat):bE ρ C (l.drop k) (vs.drop k):=
 bE.of _ _ (by simp[h.length]) λi x hi=>by rw[wq]at hi|-;exact h.get _ _ _ x hi
def Yk{t:TypeId}{l:List AV}{off:Nat}{K:AV->Prop}(h:tz P t l off K):∃r,K r/\∀(ρ:Ren) (C:bG) (vs:List Value) (w:World),bE ρ C l vs->iD vs->∃v,(part t vs.toArray off).run P w= .ok v w/\aR ρ C r v:=by
 obtain⟨ht,h⟩:=h;unfold tok at ht;simp only[bj,pw]at ht;obtain⟨⟨i,hi⟩,d,hd⟩:=ht;have hag:∀w:World,(isAgg t).run P w= .ok (ir P t) w:=by intro w;unfold isAgg ir;rw[cr,run_underlying hd w,hd];cases d<;>rfl
 split at h
 .rename_i hg;obtain⟨m,hm,hK⟩:=h;refine⟨_,hK,?_⟩;intro ρ C vs w hr h1s;have h2:=(hr.drop off).take (af P t);rw[hm]at h2;refine⟨_,?_,A6 h2 λu hu=>h1s u (by grind)⟩;have hsz:af P t=i.size:=by simp[af,hi]
  simp only[part,cr,hag,hg,dB,if_true,sizeOf,typeInfo,run_program,hi,da];grind
 .rename_i hg;obtain⟨x,hx,hK⟩:=h;refine⟨x,hK,?_⟩;intro ρ C vs w hr _;obtain⟨v,h1,h2⟩:=hr.get _ _ off x hx;refine⟨v,?_,h2⟩;have hg':ir P t=false:=by simpa using hg
  simp[part,hag,hg',h1]
def XN{t:TypeId}{f:Nat}{x:Operand}(ho:o.op= .field t x f){K:AV->Prop}(h:HR P t f (E x) K):∃r,bW P o E σ n r [] []/\K r:=by
 have hx:x∈o.op.operands.toList:=by rw[ho];simp[ce]
 obtain⟨q,hq,h⟩:=h;have key:∀l,tz P q.2 l q.1 K->(∀ρ C v,aR ρ C (E x) v->∃vs:List Value,v= .agg vs.toArray/\bE ρ C l vs/\iD vs)->∃r,bW P o E σ n r [] []/\K r:=by
  intro l hl hv;obtain⟨r,hK,hr⟩:=Yk hl;refine⟨r,bW.val ?_,hK⟩;intro ρ C V w hE;obtain⟨vs,h1,h2,h2s⟩:=hv ρ C _ (hE x hx);obtain⟨v,h3,h4⟩:=hr ρ C vs w h2 h2s;refine⟨v,?_,h4⟩;unfold uL at hq;split at hq
  .rename_i fs hu;simp only[rD]at hq;obtain⟨y,hy,hq⟩:=hq;split at hq
   .cases hq
   .cases hq;unfold execOp;rw[ho];simp[h1,Instr.field,run_underlying hu,hy,asAgg,h3]
  .cases hq
 split at h
 .rename_i l e;refine key l h λρ C v hv=> ?_;rw[e]at hv;exact hv
 .rename_i l e;refine key _ h λρ C v hv=> ?_;rw[e]at hv;obtain⟨vs,h1,h2,h3⟩:=hv;exact⟨vs,h1,h2.toA,h3⟩
 grind
def CG(P:Program)(t:TypeId)(x i:AV)(K:AV->Prop):Prop:=match x,i with
 | .p (.sl n cs),.p (.int _ a)=>∃e,dI P t=some e/\(P.info? e).isSome=true/\0<=a/\a<n/\K (.p (.pro cs (a.toNat*af P e)))
 | .own s o n,.p (.int _ a)=>∃e,dI P t=some e/\(P.info? e).isSome=true/\0<=a/\a<n/\K (.ptr s (o+a.toNat*af P e))
 | .ptr s off,.p (.int _ a)=>∃q,sK P t=some q/\(P.info? q.2).isSome=true/\0<=a/\a<q.1/\K (.ptr s (off+a.toNat*af P q.2))
 | .p (.pro cs off),.p (.int _ a)=>∃q,sK P t=some q/\(P.info? q.2).isSome=true/\0<=a/\a<q.1/\K (.p (.pro cs (off+a.toNat*af P q.2)))
 |_,_=>False
def Lp{t e:TypeId}(ht:P.underlying t=some (.slice e))(he:(P.info? e).isSome=true){k:IntKind}{a:Int}{n c b off:Nat}(h0:0<=a)(h1:a<n)(w:World):
  (I1 t (.slice (some ⟨b,off,none⟩) n c) (.int k a)).run P w= .ok (.pointer (some ⟨b,off+a.toNat*af P e,none⟩)) w:=by
 obtain⟨i,hi⟩:=pw.1 he;simp[I1,asIntOf,run_underlying ht,h0,h1,sizeOf,typeInfo,hi,af,w9]
def Kj{t e:TypeId}{m:Nat}(ht:P.underlying t=some (.array m e))(he:(P.info? e).isSome=true){k:IntKind}{a:Int}{b off:Nat}(h0:0<=a)(h1:a<m)(w:World):
  (I1 t (.pointer (some ⟨b,off,none⟩)) (.int k a)).run P w= .ok (.pointer (some ⟨b,off+a.toNat*af P e,none⟩)) w:=by
 obtain⟨i,hi⟩:=pw.1 he;simp[I1,DU,asIntOf,run_underlying ht,h0,h1,sizeOf,typeInfo,hi,af,w9]
def mB{t e:TypeId}(h:dI P t=some e):P.underlying t=some (.slice e):=by unfold dI at h;grind
def PU{t:TypeId}{q:Nat×TypeId}(h:sK P t=some q):P.underlying t=some (.array q.1 q.2):=by unfold sK at h;grind
def XI{t:TypeId}{x i:Operand}(ho:o.op= .indexAddr t x i){K:AV->Prop}(h:CG P t (E x) (E i) K):∃r,bW P o E σ n r [] []/\K r:=by
 have hx:x∈o.op.operands.toList:=by rw[ho];simp[ce]
 have hi:i∈o.op.operands.toList:=by rw[ho];simp[ce]
 unfold CG at h;split at h
 .rename_i m cs k a ex ei;obtain⟨e,he,he2,h0,h1,hK⟩:=h;refine⟨_,bW.val ?_,hK⟩;intro ρ C V w hE;have g1:=hE x hx;have g2:=hE i hi;rw[ex]at g1;rw[ei]at g2;unfold aR aY at g1 g2;obtain⟨ad,c,g1,g3,g4,g5⟩:=g1;cases ad with
  |none=>grind
  |some ad=>
   obtain⟨b,off,sp⟩:=ad;obtain⟨g5,g6⟩:=g5 _ rfl;have g5:sp=none:=g5 (by omega);subst g5;refine⟨.pointer (some ⟨b,off+a.toNat*af P e,none⟩),?_,by unfold aR aY;grind⟩;unfold execOp;rw[ho];simp only[g1,g2,cr,Lp (mB he) he2 h0 h1,dB,da]
 .rename_i s oo m k a ex ei;obtain⟨e,he,he2,h0,h1,hK⟩:=h;refine⟨_,bW.val ?_,hK⟩;intro ρ C V w hE;have g1:=hE x hx;have g2:=hE i hi;rw[ex]at g1;rw[ei]at g2;unfold aR at g1 g2;unfold aY at g2;obtain⟨q,c,g1,g3|⟨b,o',c',rfl,g4,g5,g6,g7⟩⟩:=g1
  .omega
  .have:=g6 (by omega);refine⟨.pointer (some ⟨b,o'+a.toNat*af P e,none⟩),?_,by unfold aR;grind⟩;unfold execOp;rw[ho];simp only[g4,g2,cr,Lp (mB he) he2 h0 h1,dB,da]
 .rename_i s off k a ex ei;obtain⟨q,he,he2,h0,h1,hK⟩:=h;refine⟨_,bW.val ?_,hK⟩;intro ρ C V w hE;have g1:=hE x hx;have g2:=hE i hi;rw[ex]at g1;rw[ei]at g2;unfold aR at g1 g2;unfold aY at g2;obtain⟨b,c,g1,g3⟩:=g1;refine⟨.pointer (some ⟨b,off+a.toNat*af P q.2,none⟩),?_,by unfold aR;grind⟩;unfold execOp;rw[ho];simp only[g3,g2,cr,Kj (PU he) he2 h0 h1,dB,da]
 .rename_i cs off k a ex ei;obtain⟨q,he,he2,h0,h1,hK⟩:=h;refine⟨_,bW.val ?_,hK⟩;intro ρ C V w hE;have g1:=hE x hx;have g2:=hE i hi;rw[ex]at g1;rw[ei]at g2;unfold aR aY at g1 g2;obtain⟨b,oo,g1,g3⟩:=g1;refine⟨.pointer (some ⟨b,oo+off+a.toNat*af P q.2,none⟩),?_,by unfold aR aY;grind⟩;unfold execOp;rw[ho];simp only[g1,g2,cr,Kj (PU he) he2 h0 h1,dB,da]
 grind
def y5(x:AV)(i:Nat)(K:AV->Prop):Prop:=match x with
 | .tup l=>∃y,l[i]? =some y/\K y
 | .p (.tup l)=>∃y,l[i]? =some y/\K (.p y)
 |_=>False
def ZM{x:Operand}{i:Nat}(ho:o.op= .extract x i){K:AV->Prop}(h:y5 (E x) i K):∃r,bW P o E σ n r [] []/\K r:=by
 have hx:x∈o.op.operands.toList:=by rw[ho];simp[ce]
 unfold y5 at h;split at h
 .rename_i l e;obtain⟨y,hy,h⟩:=h;refine⟨_,bW.val ?_,h⟩;intro ρ C V w hE;have h1:=hE x hx;rw[e]at h1;obtain⟨vs,h1,h2⟩:=h1;obtain⟨v,h3,h4⟩:=h2.get _ _ i y hy;refine⟨v,?_,h4⟩;unfold execOp;rw[ho];simp[h1,Instr.extract,h3]
 .rename_i l e;obtain⟨y,hy,h⟩:=h;refine⟨_,bW.val ?_,h⟩;intro ρ C V w hE;have h1:=hE x hx;rw[e]at h1;obtain⟨vs,h1,h2⟩:=h1;obtain⟨v,h3,h4⟩:=h2.get _ _ i y hy;refine⟨v,?_,by exact h4⟩;unfold execOp;rw[ho];simp[h1,Instr.extract,h3]
 grind
end
end
section
def dd(l:List Oper)(j:Nat):Nat:=((l[j]?).bind (·.dst)).getD 1000000
def fu(anc:List (List Nat))(i:Nat):List Nat:=anc.getD i []
def mK(l:List Oper)(V:Nat->Value)(j:Nat):Value:=if dd l j=1000000 then undef else V (dd l j)
def Pr(l:List Oper)(anc:List (List Nat))(i s:Nat):Bool:=(bM l.length).all λj=>dd l j !=s||(fu anc j).contains i||j==i
def okF(l:List Oper)(anc:List (List Nat)):Bool:=
 (bM l.length).all λi=>
  (((l[i]?).map λo=>(o.after.toList.all λe=> !iT .any e||(decide (e.on<i)&&(fu anc i).contains e.on))&&o.guard.isNone&&o.dst !=some 1000000).getD false)&&
  ((fu anc i).all λj=>decide (j<i)&&(((l[i]?).map λo=>o.after.toList.any λe=>iT .any e&&(e.on==j||(fu anc e.on).contains j)).getD false))&&
  ((bM l.length).all λj=>j==i||dd l j !=dd l i||dd l i==1000000)
def Bd(S:Nat->Oper->Prop):List Oper->Nat->Prop
 |[],_=>True
 |o::r,k=>S k o/\Bd S r (k+1)
def Jg{S:Nat->Oper->Prop}:∀(l:List Oper) (k:Nat),Bd S l k->∀i o,l[i]? =some o->S (k+i) o
 |[],_,_,i,o,h=>by simp at h
 |o'::r,k,h,0,o,ho=>by simp at ho;subst ho;exact h.1
 |o'::r,k,h,i+1,o,ho=>by
  have:=Jg r (k+1) h.2 i o (by grind);grind
def gp(D:Nat->Bool)(i:Nat):Nat->Bool:=λj=>if j=i then true else D j
def QR(P:Program)(l:List Oper)(anc:List (List Nat))(a0:Act)(WR:(Nat->Bool)->World->Prop)(fact:Nat->Value->World->Prop)(i:Nat)(o:Oper):Prop:=
 ∀(D:Nat->Bool) (V:Nat->Value) (w:World),D i=false->(∀j,(fu anc i).contains j=true->D j=true/\fact j (mK l V j) w)->(∀j,(fu anc j).contains i=true->D j=false)->
  (∀s,Pr l anc i s=true->V s=a0.tmps.getD s undef)->WR D w->
  cQ P o V w λv w'=>fact i (if dd l i=1000000 then undef else v) w'/\WR (gp D i) w'/\(w'=w\/Below w.heap.size w w'\/∀j,D j=true->fact j (mK l V j) w->fact j (mK l V j) w')
def opK{P:Program}{o:Oper}{V:Nat->Value}{w:World}{K:Value->World->Prop}(h:∀K':Value->World->Prop,(∀v w',K v w'->K' v w')->cQ P o V w K'):cQ P o V w K:=by grind
def Rd(w:World)(a:Option Addr)(cs:List Value):Prop:=∀i u,cs[i]? =some u->∃b off,a=some ⟨b,off,none⟩/\b<w.heap.size/\w.cell? ⟨b,off+i,none⟩=some u
def Rd.below{w w':World}{a:Option Addr}{cs:List Value}(h:Rd w a cs)(hb:Below w.heap.size w w'):Rd w' a cs:=by intro i u hi;obtain⟨b,off,ha,hlt,h1⟩:=h i u hi;exact⟨b,off,ha,Nat.lt_of_lt_of_le hlt hb.size,(hb.cell (p:=⟨b,_,none⟩) hlt).trans h1⟩
def jq(base:Nat)(a:Option Addr):Prop:=∀b,a=some b->base<=b.block
def jq.mono{m n:Nat}{a:Option Addr}(h:jq n a)(hm:m<=n):jq m a:=λb hb=>cL hm (h b hb)
def Rd.HH{w:World}{base:Nat}{e:TypeId}{size:Nat}{v:Value}{n:Nat}{cs:List Value}(h:w.ownsRow base e size v n cs):∃a c,v= .slice a n c/\Rd w a cs/\jq base a/\(a=none->c=0):=by
 rcases h.2 with⟨h1,h2⟩|⟨g,cap,cur,h1,h2,h3,h4,h5,h6,h7⟩
 .have:cs=[] :=p7.1 (by rw[h.1,h2];simp);exact⟨none,0,by rw[h1,h2],by rw[this];intro i u hi;simp at hi,(λb hb=>by cases hb),λ_=>rfl⟩
 .refine⟨some ⟨g,0,none⟩,cap,h1,?_,(λb hb=>by grind),(by grind)⟩;intro i u hi;refine⟨g,0,rfl,Blk.lt h3,?_⟩;rw[kN,cell_of_row w g i cur e (0,0) h3];grind
def uj{w w':World}{base:Nat}{e:TypeId}{size:Nat}{v:Value}{n:Nat}{xs:List Value}(h:w.ownsRow base e size v n xs)(hb:Below w.heap.size w w'):w'.ownsRow base e size v n xs:=by
 refine⟨h.1,?_⟩;rcases h.2 with h1|⟨g,cap,cur,h1,h2,h3,h4⟩
 .exact .inl h1
 .exact .inr ⟨g,cap,cur,h1,h2,Blk.then_ h3 hb,h4⟩
def rE{w:World}{base:Nat}{e:TypeId}{size:Nat}{v:Value}{n:Nat}{xs:List Value}(h:w.ownsRow base e size v n xs):∀k,v.ownBlock=some k->base<=k/\k<w.heap.size:=by
 intro k hk;rcases h.2 with⟨rfl,_⟩|⟨g,cap,cur,rfl,h2,h3,_⟩
 .simp[DV]at hk
 .simp[DV]at hk;grind
def Eu{P:Program}{o:Oper}{V:Nat->Value}{w:World}{K:Value->World->Prop}(s x:Operand)(t:TypeId)
  (ho:o.op= .call {callee:= .builtin .append,args:= #[s,x],argTypes:= #[t,t]})
  (base:Nat) (e:TypeId) (z:Value) (size bytes:Nat) (ht:P.underlying t=some (.slice e)) (hi:(P.info? e).map (λi=>(i.zero,i.size,i.bytes))=some (some z,size,bytes)) (hzs:z.cells.size=size) (hsz:0<size)
  (v:Value) (n:Nat) (xs:List Value) (hs:bJ V s=v) (hown:w.ownsRow base e size v n xs)
  (a:Option Addr) (m c:Nat) (cs:List Value) (hx:bJ V x= .slice a m c) (hl:cs.length=m*size) (hg:Rd w a cs) (hn:a=none->c=0) (h1:∀u∈cs,u.oneCell'=true)
  (h63:n+m<=1000000) (hbytes:bytes<=1000000) (hbase:base<=w.heap.size)
  (h:∀v' w',w'.ownsRow base e size v' (n+m) (xs++cs)->Below base w w'->w.grownBy w' v.ownBlock->(∀k,v'.ownBlock=some k->v.ownBlock=some k\/w.heap.size<=k)->K v' w'):cQ P o V w K:=by
 obtain⟨i,hi1,hi2⟩:=mW.1 hi;simp only[Prod.mk.injEq]at hi2;obtain⟨i1,i2,i3⟩:=hi2;have hb:∀k,v.ownBlock=some k->base<=k:=λk hk=>(rE hown k hk).1;by_cases hm:m=0
 .subst hm;have hcs:cs=[] :=by grind
  subst hcs;by_cases ha:a=none
  .subst ha;have hc:=hn rfl;subst hc;have hr:=run_append_owned_none (P:=P) (w:=w) base t o.type e i size ht hi1 v n xs hown;unfold cQ execOp;simp only[ho,resolve,invoke,builtin,cr,da,dB,I2,dX,po,hs,hx,hr];exact h v w (by grind) (Below.refl _ _) ⟨rfl,rfl,rfl,bZ _,λ_ _ _=>rfl⟩ (by grind)
  .obtain⟨a',rfl⟩:=Option.ne_none_iff_exists'.1 ha;obtain⟨v',w',hr,h2,h3,_,h5⟩:=run_append_own_at (P:=P) (w:=w) base t o.type e i z size bytes ht hi1 i1 i2 i3 hzs hsz v n xs hown a' 0 c [] (by simp) (by simp) (by simp) (by simp only[maxLen];omega) (cL (nP h63 hbytes) (by decide)) hbase;unfold cQ execOp;simp only[ho,resolve,invoke,builtin,cr,da,dB,I2,dX,po,hs,hx,hr];exact h v' w' h2 ((Below.refl base w).grown h3 hbase hb) h3 (by grind)
 .obtain⟨u0,hu0⟩:∃u,cs[0]? =some u:=by
   have:0<cs.length:=by rw[hl];exact Nat.mul_pos (by omega) hsz
   grind
  obtain⟨b,off,rfl,hbl,_⟩:=hg 0 u0 hu0;have hnews:∀j u,cs[j]? =some u->w.cell? ((⟨b,off,none⟩:Addr).add j)=some u:=by
   intro j u hj;obtain⟨b',off',he,_,hc⟩:=hg j u hj;simp only[fg,Addr.mk.injEq,and_true]at he;obtain⟨rfl,rfl⟩:=he;unfold Addr.add;by_cases hj0:j=0
   .grind
   .grind
  obtain⟨v',w',hr,h2,h3,_,h5⟩:=run_append_own_at (P:=P) (w:=w) base t o.type e i z size bytes ht hi1 i1 i2 i3 hzs hsz v n xs hown ⟨b,off,none⟩ m c cs hl hnews h1 (by simp only[maxLen];omega) (cL (nP h63 hbytes) (by decide)) hbase;unfold cQ execOp;simp only[ho,resolve,invoke,builtin,cr,da,dB,I2,dX,po,hs,hx,hr];exact h v' w' h2 ((Below.refl base w).grown h3 hbase hb) h3 (by grind)
def Rd.aBA{w:World}{g:Nat}{t:TypeId}{cs:Array Value}(h:Blk w g t cs):Rd w (some ⟨g,0,none⟩) cs.toList:=by intro i u hi;refine⟨g,0,rfl,h.lt,?_⟩;rw[kN,h.cell i];grind
def WR2(m:Nat)(A B:World->Prop)(D:Nat->Bool)(wx:World):Prop:=if D m=true then B wx else A wx
section
variable {m i:Nat} {A B:World->Prop} {D:Nat->Bool} {wx:World}
def WR2.start(h:A wx):WR2 m A B (λ_=>false) wx:=h
def WR2.lo(h:WR2 m A B D wx)(hD:D m=false):A wx:=by unfold WR2 at h;grind
def WR2.hi(h:WR2 m A B D wx)(hD:D m=true):B wx:=by unfold WR2 at h;grind
def WR2.mkLo(hD:D m=false)(hi:m≠i)(h:A wx):WR2 m A B (gp D i) wx:=by unfold WR2 gp;grind
def WR2.mkHi(h:B wx):WR2 m A B (gp D m) wx:=by unfold WR2 gp;grind
def WR2.keep(hi:m≠i)(h:WR2 m A B D wx):WR2 m A B (gp D i) wx:=by unfold WR2 gp at*;grind
end
def WR3(m n:Nat)(A B C:World->Prop)(D:Nat->Bool)(wx:World):Prop:=if D n=true then C wx else if D m=true then B wx else A wx
section
variable {m n i:Nat} {A B C:World->Prop} {D:Nat->Bool} {wx:World}
def WR3.start(h:A wx):WR3 m n A B C (λ_=>false) wx:=h
def WR3.lo(h:WR3 m n A B C D wx)(hD:D m=false)(hn:D n=false):A wx:=by unfold WR3 at h;grind
def WR3.mid(h:WR3 m n A B C D wx)(hD:D m=true)(hn:D n=false):B wx:=by unfold WR3 at h;grind
def WR3.hi(h:WR3 m n A B C D wx)(hn:D n=true):C wx:=by unfold WR3 at h;grind
def WR3.mkLo(hD:D m=false)(hn:D n=false)(hi:m≠i)(hi2:n≠i)(h:A wx):WR3 m n A B C (gp D i) wx:=by unfold WR3 gp;grind
def WR3.mkMid(hn:D n=false)(hmn:n≠m)(h:B wx):WR3 m n A B C (gp D m) wx:=by unfold WR3 gp;grind
def WR3.mkHi(h:C wx):WR3 m n A B C (gp D n) wx:=by unfold WR3 gp;grind
def WR3.keep(hi:m≠i)(hi2:n≠i)(h:WR3 m n A B C D wx):WR3 m n A B C (gp D i) wx:=by unfold WR3 gp at*;grind
end
def xV{w w':World}{row:Option Nat}{g:Nat}{t:TypeId}{cs:Array Value}(h:w.grownBy w' row)(hb:Blk w g t cs)(hne:row≠some g):Blk w' g t cs:=(h.block g hb.lt (by grind)).trans hb
def BJ{w:World}{base:Nat}{e:TypeId}{size:Nat}{v:Value}{n:Nat}{xs:List Value}(h:w.ownsRow base e size v n xs){g:Nat}(hg:g<base):v.ownBlock≠some g:=λhx=>by have:=(rE h g hx).1;omega
end
section
section
variable {P:Program} {o:Oper} {E:Operand->AV} {σ:Nat->Option Ob} {n:Nat}
def C7:AV->Option Int
 | .p (.int _ a)=>some a
 |_=>none
def NG{ρ:Ren}{C:bG}{x:AV}{a:Int}{v:Value}(h:C7 x=some a)(hr:aR ρ C x v):∃k,v= .int k a:=by
 unfold C7 at h;split at h
 .unfold aR aY at hr;grind
 .cases h
def loA(E:Operand->AV)(lo:Option Operand)(d:Int):Option Int:=match lo with|none=>some d|some x=>C7 (E x)
def vf(P:Program)(t:TypeId)(x:AV)(lo hi:Option Int)(K:AV->Prop):Prop:=∃e l h,dI P t=some e/\(P.info? e).isSome=true/\af P e≠0/\lo=some l/\hi=some h/\0<=l/\l<=h/\match x with
 | .p (.sl m cs)=>h<=m/\K (.p (.sl (h.toNat-l.toNat) ((cs.take (h.toNat*af P e)).drop (l.toNat*af P e))))
 | .own s oo m=>h<=m/\K (.own s (oo+l.toNat*af P e) (h.toNat-l.toNat))
 |_=>False
def CC:AV->Int
 | .p (.sl m _)=>m
 | .own _ _ m=>m
 |_=>0
def El{t e:TypeId}(ht:P.underlying t=some (.slice e))(he:(P.info? e).isSome=true)(a:Option Addr)(m c:Nat)(hmc:m<=c)(lo hi:Option Value)(l h:Int)(h0:0<=l)(h1:l<=h)(h2:h<=m)
  (hlo:(lo=none/\l=0)\/∃k,lo=some (.int k l)) (hhi:(hi=none/\h=m)\/∃k,hi=some (.int k h)) (w:World):
  (Instr.sliceAt t (.slice a m c) lo hi none).run P w= .ok (.slice (if c=l.toNat then a else a.map (·.add (l.toNat*af P e))) (h.toNat-l.toNat) (c-l.toNat)) w:=by
 obtain⟨i,hi'⟩:=pw.1 he;have hsz:af P e=i.size:=by simp[af,hi']
 have hb:(DX true m c lo hi none).run P w= .ok (l.toNat,h.toNat,c) w:=by
  rcases hlo with⟨rfl,rfl⟩|⟨k,rfl⟩<;>rcases hhi with⟨rfl,rfl⟩|⟨k',rfl⟩
  .simp[DX]
  .simp[DX,Instr.sliceBound,asIntOf,show 0<=h by omega,show h<=(c:Int) by omega]
  .simp[DX,Instr.sliceBound,asIntOf,h0,h1]
  .simp[DX,Instr.sliceBound,asIntOf,h0,show 0<=h by omega,show h<=(c:Int) by omega,show l<=max h 0 by omega]
 simp only[Instr.sliceAt,cr,run_underlying ht,dB,Instr.slice,hb,sizeOf,typeInfo,run_program,hi',da,hsz]
def Wa{t:TypeId}{x:Operand}{lo hi:Option Operand}(ho:o.op= .slice t x lo hi none){K:AV->Prop}(h:vf P t (E x) (loA E lo 0) (loA E hi (CC (E x))) K):∃r,bW P o E σ n r [] []/\K r:=by
 have hx:x∈o.op.operands.toList:=by rw[ho];simp[ce]
 have hl:∀y,lo=some y->y∈o.op.operands.toList:=by intro y hy;rw[ho];simp[ce,hy]
 have hh:∀y,hi=some y->y∈o.op.operands.toList:=by intro y hy;rw[ho];simp[ce,hy]
 obtain⟨e,l,hv,he,he2,hez,hlo,hhi,h0,h1,h⟩:=h;have klo:∀(ρ:Ren) (C:bG) (V:Nat->Value),(∀x∈o.op.operands.toList,aR ρ C (E x) (bJ V x))->(lo.map (bJ V)=none/\l=0)\/∃k,lo.map (bJ V)=some (.int k l):=by
  intro ρ C V hE;unfold loA at hlo;cases lo with
  |none=>grind
  |some y=>obtain⟨k,hk⟩:=NG hlo (hE y (hl y rfl));grind
 have khi:∀(m:Nat),CC (E x)=m->∀(ρ:Ren) (C:bG) (V:Nat->Value),(∀x∈o.op.operands.toList,aR ρ C (E x) (bJ V x))->(hi.map (bJ V)=none/\hv=m)\/∃k,hi.map (bJ V)=some (.int k hv):=by
  intro m hm ρ C V hE;unfold loA at hhi;cases hi with
  |none=>grind
  |some y=>obtain⟨k,hk⟩:=NG hhi (hE y (hh y rfl));grind
 split at h
 .rename_i m cs ex;obtain⟨h2,hK⟩:=h;refine⟨_,bW.val ?_,hK⟩;intro ρ C V w hE;have g1:=hE x hx;rw[ex]at g1;obtain⟨a,c,g1,g2,g3,g4⟩:=g1;have hrun:=El (mB he) he2 a m c g2 _ _ l hv h0 h1 h2 (klo ρ C V hE) (khi m (by rw[ex];rfl) ρ C V hE) w;refine⟨.slice (if c=l.toNat then a else a.map (·.add (l.toNat*af P e))) (hv.toNat-l.toNat) (c-l.toNat),?_,?_⟩
  .unfold execOp;simp_all
  .refine⟨_,_,rfl,by omega,?_,?_⟩
   .intro hn;have:a=none:=by
     split at hn
     .exact hn
     .simp_all
    grind
   .intro ad had;split at had
    .subst had;refine⟨by grind,?_⟩;have:((cs.take (hv.toNat*af P e)).drop (l.toNat*af P e))=[] :=by
      apply List.drop_eq_nil_of_le;rw[mX];have:hv.toNat=l.toNat:=by omega
      rw[this];omega
     rw[this];trivial
    .cases a with
     |none=>simp at had
     |some ad'=>
      simp at had;subst had;obtain⟨g5,g6⟩:=g4 ad' rfl;rcases qz m with hm0|hm0
      .have e0:hv.toNat=0:=by omega
       rw[e0];simp;trivial
      .have g5:=g5 hm0;obtain⟨b,off,sp⟩:=ad';subst g5;rw[w9];exact⟨λ_=>rfl,(g6.take _).drop _⟩
 .rename_i s oo m ex;obtain⟨h2,hK⟩:=h;refine⟨_,bW.val ?_,hK⟩;intro ρ C V w hE;have g1:=hE x hx;rw[ex]at g1;obtain⟨q,c,g1,⟨rfl,g2,g3,g4⟩|⟨b,o',c',rfl,g2,g3,g4,g5⟩⟩:=g1
  .have hrun:=El (mB he) he2 none m 0 (by omega) _ _ l hv h0 h1 h2 (klo ρ C V hE) (khi m (by rw[ex];rfl) ρ C V hE) w;have e1:l=0:=by omega
   have e2:hv=0:=by omega
   refine⟨.slice none 0 0,?_,?_⟩
   .unfold execOp;simp_all
   grind
  .have hrun:=El (mB he) he2 (some ⟨b,o',none⟩) m c' g3 _ _ l hv h0 h1 h2 (klo ρ C V hE) (khi m (by rw[ex];rfl) ρ C V hE) w;refine⟨.slice (if c'=l.toNat then some ⟨b,o',none⟩else(some (⟨b,o',none⟩:Addr)).map (·.add (l.toNat*af P e))) (hv.toNat-l.toNat) (c'-l.toNat),?_,?_⟩
   .unfold execOp;simp_all
   .refine⟨some b,c,g1,.inr ⟨b,if c'=l.toNat then o' else o'+l.toNat*af P e,c'-l.toNat,rfl,?_,by omega,?_,?_⟩⟩
    .split<;>simp[w9]
    .grind
    .intro hz;have h3:oo=0:=by omega
     have h4:l.toNat*af P e=0:=by omega
     rcases I3.1 h4 with h5|h5
     .grind
     omega
 grind
def C6(P:Program)(t:TypeId)(x:AV)(K:AV->Prop):Prop:=match x with
 | .p (.sl m _)=>(dI P t).isSome=true/\K (.p (.int .i64 m))
 | .own _ _ m=>(dI P t).isSome=true/\K (.p (.int .i64 m))
 | .nil=>(dI P t).isSome=true/\K (.p (.int .i64 0))
 | .p (.str s)=>(match P.underlying t with|some .string=>true|_=>false)=true/\K (.p (.int .i64 s.size))
 |_=>False
def aAA{x:Operand}{t:TypeId}(ho:o.op= .call {callee:= .builtin .len,args:= #[x],argTypes:= #[t]}){K:AV->Prop}(h:C6 P t (E x) K):∃r,bW P o E σ n r [] []/\K r:=by
 have hx:x∈o.op.operands.toList:=by rw[ho];simp[ce,ju]
 have key:∀(m:Nat),(dI P t).isSome=true->(∀ρ C v,aR ρ C (E x) v->∃a c,v= .slice a m c)->bW P o E σ n (.p (.int .i64 m)) [] [] :=by intro m ht hv;obtain⟨e,he⟩:=pw.1 ht;have hu:=mB he;refine bW.val ?_;intro ρ C V w hE;obtain⟨a,c,h1⟩:=hv ρ C _ (hE x hx);refine⟨.int .i64 m,?_,by rfl⟩;unfold execOp;rw[ho];simp[resolve,invoke,builtin,Builtin.len_,h1,run_underlying hu,goInt]
 unfold C6 at h;split at h
 .rename_i m cs e;refine⟨_,key m h.1 λρ C v hv=> ?_,h.2⟩;unfold aR aY at hv;grind
 .rename_i s oo m e;refine⟨_,key m h.1 λρ C v hv=> ?_,h.2⟩;unfold aR at hv;grind
 .rename_i e;refine⟨_,key 0 h.1 λρ C v hv=> ?_,h.2⟩;unfold aR at hv;grind
 .rename_i s e;obtain⟨ht,hK⟩:=h;refine⟨_,bW.val ?_,hK⟩;intro ρ C V w hE;have h1:=hE x hx;rw[e]at h1;unfold aR aY at h1;have hu:P.underlying t=some .string:=by
   split at ht
   .assumption
   .cases ht
  refine⟨.int .i64 s.size,?_,by rfl⟩;unfold execOp;rw[ho];simp[resolve,invoke,builtin,Builtin.len_,h1,run_underlying hu,goInt]
 grind
def mJ:AV->Option (List AV)
 | .agg l=>some l
 | .p (.agg l)=>some (l.map .p)
 | .p (.tup _)=>none
 | .p .junk=>none
 | .p x=>some [.p x]
 | .mp s=>some [.mp s]
 | .nil=>some [.nil]
 | .ptr s off=>some [.ptr s off]
 | .own s o n=>some [.own s o n]
 | .fn f a b=>some [.fn f a b]
 |_=>none
def Ed{ρ:Ren}{C:bG}{x:AV}{l:List AV}{v:Value}(h:mJ x=some l)(hr:aR ρ C x v):bE ρ C l v.cells.toList/\iD v.cells.toList:=by
 have key:∀(y:AV),l=[y]->aR ρ C y v->v.oneCell'=true->bE ρ C l v.cells.toList/\iD v.cells.toList:=by
  intro y hl hy h1;have hc:v.cells.toList=[v] :=by cases v<;>first|rfl|(simp[Value.oneCell']at h1;done)
  rw[hc,hl];refine⟨?_,λu hu=>by grind⟩;unfold bE;exact⟨v,[],rfl,hy,by rfl⟩
 unfold mJ at h;split at h
 .cases h;obtain⟨vs,rfl,h1,h2⟩:=hr;exact⟨by simpa[I4]using h1,by simpa[I4]using h2⟩
 .cases h;obtain⟨vs,rfl,h1,h2⟩:=hr;exact⟨by simpa[I4]using h1.toA,by simpa[I4]using h2⟩
 .cases h
 .cases h
 .rename_i y hn1 hn2 hn3;cases h;refine key _ rfl hr ?_;unfold aR at hr;cases y<;>unfold aY at hr
  .rw[hr];rfl
  .rw[hr];rfl
  .rw[hr];rfl
  .grind
  .grind
  .obtain⟨a,c,h1,_⟩:=hr;rw[h1];rfl
  .obtain⟨a,c,h1,_⟩:=hr;rw[h1];rfl
  .obtain⟨a,c,h1,_⟩:=hr;rw[h1];rfl
  grind
 .cases h;refine key _ rfl hr ?_;obtain⟨c,_,h2⟩:=hr;rw[h2];rfl
 .cases h;refine key _ rfl hr ?_;rw[hr];rfl
 .cases h;refine key _ rfl hr ?_;obtain⟨b,c,_,h2⟩:=hr;rw[h2];rfl
 .cases h;refine key _ rfl hr ?_;obtain⟨q,c,_,⟨_,h2,_⟩|⟨b,o',c',_,h2,_⟩⟩:=hr<;>(rw[h2];rfl)
 .cases h;refine key _ rfl hr ?_;obtain⟨a,b,h2,_⟩:=hr;rw[h2];rfl
 .cases h
def iA(cs:List AV)(off:Nat):List AV->List AV
 |[] =>cs
 |x::l=>iA (cs.set off x) (off+1) l
def AH:∀(l:List AV) (cs:List AV) (off:Nat),(iA cs off l).length=cs.length
 |[],cs,off=>rfl
 |x::l,cs,off=>by unfold iA;rw[AH l];simp
def oM(place:Nat->Option (Nat×Nat))(cells:List AV):List (Nat×AV)->Option (List AV)
 |[] =>some cells
 |(i,v)::rest=>match place i,mJ v with
  |some (off,size),some l=>if l.length=size/\off+size<=cells.length then oM place (iA cells off l) rest else none
  |_,_=>none
def bE.set{ρ:Ren}{C:bG}{l:List AV}{vs:List Value}(h:bE ρ C l vs)(k:Nat){x:AV}{v:Value}(hx:aR ρ C x v):bE ρ C (l.set k x) (vs.set k v):=
 bE.of _ _ (by simp[h.length]) λi y hi=>by
  have hl:=h.length;rw[List.getElem?_set]at hi|-;split at hi
  .grind
  .rename_i e;rw[if_neg e];exact h.get _ _ i y hi
def MW{ρ:Ren}{C:bG}:∀(l:List AV) (vs:List Value) (cs:List AV) (us:List Value) (off:Nat) (j:Nat),bE ρ C l vs->bE ρ C cs us->iD vs->iD us->
  bE ρ C (iA cs (off+j) l) ((vs.zipIdx j).foldl (λ(a:Array Value) (c,j)=>a.setIfInBounds (off+j) c) us.toArray).toList/\iD ((vs.zipIdx j).foldl (λ(a:Array Value) (c,j)=>a.setIfInBounds (off+j) c) us.toArray).toList
 |[],vs,cs,us,off,j,h1,h2,h3,h4=>by subst h1;simpa[iA]using⟨h2,h4⟩
 |x::l,vs,cs,us,off,j,h1,h2,h3,h4=>by
  obtain⟨v,r,rfl,hv,hr⟩:=h1;have:=MW l r (cs.set (off+j) x) (us.set (off+j) v) off (j+1) hr (h2.set _ hv) (λu hu=>h3 u (by grind)) (λu hu=>by
   rcases List.mem_or_eq_of_mem_set hu with h|h
   .exact h4 u h
   .subst h;exact h3 _ (by grind))
  simpa[iA,List.zipIdx_cons,Nat.add_assoc]using this
def FE{ρ:Ren}{C:bG}{place:Nat->Option (Nat×Nat)}:∀(parts:List (Nat×AV)) (vparts:List (Nat×Value)) (cs res:List AV) (us:List Value),
  oM place cs parts=some res->vparts.length=parts.length->(∀(j:Nat) q,parts[j]? =some q->∃v,vparts[j]? =some (q.1,v)/\aR ρ C q.2 v)->bE ρ C cs us->iD us->
  ∃vs:List Value,Instr.fill place us.toArray vparts=some vs.toArray/\bE ρ C res vs/\iD vs
 |[],vparts,cs,res,us,h,hl,hp,hc,h1=>by
  simp[oM]at h;subst h;have:vparts=[] :=by grind
  subst this;exact⟨us,rfl,hc,h1⟩
 |(i,x)::rest,vparts,cs,res,us,h,hl,hp,hc,h1=>by
  obtain⟨v,hv0,hv⟩:=hp 0 (i,x) rfl;cases vparts with
  |nil=>simp at hl
  |cons q vparts=>
   simp at hv0;subst hv0;unfold oM at h;split at h
   .rename_i off size l hpl hcl;split at h
    .obtain⟨c1,c2⟩:=Ed hcl hv;have hlen:=c1.length;have hcs:=hc.length;obtain⟨s1,s2⟩:=MW l v.cells.toList cs us off 0 c1 hc c2 h1;obtain⟨vs,f1,f2,f3⟩:=FE rest vparts _ res _ h (by grind) (λj q hj=>hp (j+1) q (by grind)) s1 s2;refine⟨vs,?_,f2,f3⟩;unfold Instr.fill;rw[hpl];dsimp only;simp only[zU]at hlen;have e1:¬(v.cells.size≠size||decide (off+v.cells.size>us.toArray.size))=true:=by simp;omega
     rw[if_neg e1];rw[<-f1];have e2:∀(a:Array Value),a.zipIdx.foldl (λ(cs:Array Value) (x:Value×Nat)=>match x with|(c,j)=>cs.setIfInBounds (off+j) c) us.toArray=(a.toList.zipIdx 0).foldl (λ(cs:Array Value) (x:Value×Nat)=>match x with|(c,j)=>cs.setIfInBounds (off+j) c) us.toArray:=by intro a;rw[<-Array.foldl_toList,Array.toList_zipIdx]
     rw[e2]
    .cases h
   .cases h
def HD(P:Program)(t:TypeId):Nat->Option (Nat×Nat):=match P.underlying t with
 |some (.struct fs)=>λi=>(fs[i]?).map λf=>(f.offset,af P f.type)
 |some (.array _ e)=>λi=>some (i*af P e,af P e)
 |_=>λ_=>none
def Ga(P:Program)(t:TypeId):Bool:=match P.underlying t with
 |some (.struct fs)=>fs.toList.all λf=>(P.info? f.type).isSome
 |some (.array _ e)=>(P.info? e).isSome
 |_=>false
def mmA(f:Int->Int->Int)(x y:AV)(K:AV->Prop):Prop:=match x,y with
 | .p (.int .i64 a),.p (.int .i64 b)=>K (.p (.int .i64 (f a b)))
 |_,_=>False
def QZ{P:Program}(ts:Array TypeId)(t:TypeId)(x y:Int)(w:World):(Builtin.min_ ts t #[.int .i64 x,.int .i64 y]).run P w= .ok (.int .i64 (min x y)) w/\(Builtin.max_ ts t #[.int .i64 x,.int .i64 y]).run P w= .ok (.int .i64 (max x y)) w:=by have h:= @run_min_int2 P w ts t .i64 .i64 x y;have h2:= @run_max_int2 P w ts t .i64 .i64 x y;grind
def aAu{x y:Operand}{ts:Array TypeId}(ho:o.op= .call {callee:= .builtin .min,args:= #[x,y],argTypes:=ts}){K:AV->Prop}(h:mmA min (E x) (E y) K):∃r,bW P o E σ n r [] []/\K r:=by
 unfold mmA at h;split at h
 .rename_i a b ea eb;refine⟨_,bW.val ?_,h⟩;intro ρ C V w hE;have h1:=hE x (by rw[ho];simp[ce,ju]);have h2:=hE y (by rw[ho];simp[ce,ju]);rw[ea]at h1;rw[eb]at h2;unfold aR aY at h1 h2;refine⟨.int .i64 (min a b),?_,by rfl⟩;unfold execOp;rw[ho];simp[resolve,invoke,builtin,h1,h2,(QZ _ _ _ _ _).1]
 grind
def aAw{x y:Operand}{ts:Array TypeId}(ho:o.op= .call {callee:= .builtin .max,args:= #[x,y],argTypes:=ts}){K:AV->Prop}(h:mmA max (E x) (E y) K):∃r,bW P o E σ n r [] []/\K r:=by
 unfold mmA at h;split at h
 .rename_i a b ea eb;refine⟨_,bW.val ?_,h⟩;intro ρ C V w hE;have h1:=hE x (by rw[ho];simp[ce,ju]);have h2:=hE y (by rw[ho];simp[ce,ju]);rw[ea]at h1;rw[eb]at h2;unfold aR aY at h1 h2;refine⟨.int .i64 (max a b),?_,by rfl⟩;unfold execOp;rw[ho];simp[resolve,invoke,builtin,h1,h2,(QZ _ _ _ _ _).2]
 grind
end
end
section
section
variable {P:Program} {o:Oper} {E:Operand->AV} {σ:Nat->Option Ob} {n:Nat}
def P6(P:Program)(t:TypeId)(parts:List (Nat×AV))(K:AV->Prop):Prop:=∃z,qZ P t=some z/\qY P t=true/\Ga P t=true/\∃l,oM (HD P t) z parts=some l/\K (eO l)
def Le:∀(fs:List Field),fs.all (λf=>(P.info? f.type).isSome)=true->fs.mapM (λf=>(P.info? f.type).map λi=>(f.offset,i.size))=some (fs.map λf=>(f.offset,af P f.type))
 |[],_=>rfl
 |f::fs,h=>by
  simp only[List.all_cons,bj]at h;obtain⟨i,hi⟩:=pw.1 h.1;simp[List.mapM_cons,hi,Le fs h.2,af]
def xf{t:TypeId}{z:List AV}(h:qZ P t=some z)(h1:qY P t=true):∃i zv,P.info? t=some i/\i.zero=some zv/\zv.cells.size=i.size/\iD zv.cells.toList/\z=zv.cells.toList.map lF:=by unfold qZ at h;simp only[rD,mW]at h;obtain⟨i,hi,zv,hz,rfl⟩:=h;unfold qY at h1;simp only[hi,rC,hz,eJ,lz,bj,beq_iff_eq,bh]at h1;exact⟨i,zv,hi,hz,h1.2,h1.1,rfl⟩
def Xq{t:TypeId}{parts:Array (Nat×Operand)}(ho:o.op= .build t parts){K:AV->Prop}(h:P6 P t (parts.toList.map λq=>(q.1,E q.2)) K):∃r,bW P o E σ n r [] []/\K r:=by
 obtain⟨z,hz,hz1,hpo,l,hl,hK⟩:=h;refine⟨_,bW.val ?_,hK⟩;intro ρ C V w hE;obtain⟨i,zv,hi,hiz,hsz,hone,rfl⟩:=xf hz hz1;have hp:∀(j:Nat) q,(parts.toList.map λq=>(q.1,E q.2))[j]? =some q->∃v,(parts.toList.map λq=>(q.1,bJ V q.2))[j]? =some (q.1,v)/\aR ρ C q.2 v:=by
  intro j q hj;rw[gr]at hj|-;cases hq:parts.toList[j]? with
  |none=>grind
  |some q'=>
   rw[hq]at hj;simp only[eJ,fg]at hj;subst hj;refine⟨bJ V q'.2,rfl,hE q'.2 ?_⟩;simp only[ce];grind
 obtain⟨vs,f1,f2,f3⟩:=FE _ (parts.toList.map λq=>(q.1,bJ V q.2)) _ l zv.cells.toList hl (by simp) hp (un _) hone;have hb:P.built t (parts.map λq=>(q.1,bJ V q.2)).toList=some vs.toArray:=by
  unfold Program.built;rw[hi];unfold Ga at hpo;unfold HD at f1;cases hu:P.underlying t with
  |none=>grind
  |some d=>
   rw[hu]at hpo f1;cases d<;>first|(cases hpo;done)|skip
   case struct fs=>
    dsimp only at hpo f1|-;rw[hiz,Le _ hpo];simp_all
   case array m e=>
    dsimp only at hpo f1|-;obtain⟨ie,hie⟩:=pw.1 hpo;rw[hiz,hie];rw[<-f1];simp[af,hie]
 refine⟨.agg vs.toArray,?_,A6 f2 f3⟩;unfold execOp;rw[ho];simp only[cr,run_build w t _ _ hb,dB,da]
def yR.mono{C0:bG}{B:Nat}{ρ ρ':Ren}{C C':bG}{w w':World}{c:Nat}{o:Ob}(h:yR C0 B ρ C w c o)(hext:∀s q,ρ s=some q->ρ' s=some q)(hC:∀b o x,C b o x->C' b o x)
  (hm:∀es clock,o.ty=1->w.heap[c]? =some (xD es clock)->w'.heap[c]? =w.heap[c]?):yR C0 B ρ' C' w' c o:=by
 rcases h with⟨h0,h1,h2⟩|⟨h0,hB,es,clock,h1,h2⟩
 .exact .inl ⟨h0,λi x hi v hv=>aR.mono hext hC x v (h1 i x hi v hv),h2⟩
 .exact .inr ⟨h0,hB,es,clock,by grind,bE.mono hext hC _ _ h2⟩
def StR.stepG{C0:bG}{ρ ρ':Ren}{g:Nat->Option Ob}{w w':World}{B:Nat}{W:List (Nat×Option Ob)}(hs:StR C0 ρ g w B)
  (hρ:∀s o,W.lookup s=none->g s=some o->ρ' s=ρ s) (hext:∀s q,ρ s=some q->ρ' s=some q)
  (hmono:∀b o x,bC C0 B w ρ g b o x->bC C0 B w' ρ' (az g W) b o x)
  (hold:∀s o b c,W.lookup s=none->g s=some o->ρ s=some (some b,c)->w'.heap[b]? =w.heap[b]?)
  (hmap:∀(s:Nat) (o:Ob) (c:Nat) es clock,W.lookup s=none->g s=some o->o.esz=0->o.ty=1->ρ s=some (none,c)->w.heap[c]? =some (xD es clock)->w'.heap[c]? =w.heap[c]?)
  (hnew:∀s o,W.lookup s=some (some o)->∃q c,ρ' s=some (q,c)/\((q=none/\o.esz≠0/\o.cells=[]/\c=0)\/(q=none/\o.esz=0/\yR C0 B ρ' (bC C0 B w' ρ' (az g W)) w' c o/\
     (∀s' o' c',s'≠s->az g W s'=some o'->o'.esz=0->ρ' s'=some (none,c')->¬sT o c o' c'))\/∃b arr,q=some b/\B<=b/\ObRep ρ' (bC C0 B w' ρ' (az g W)) w' b c o arr/\
    ∀s' o' c',s'≠s->az g W s'=some o'->ρ' s'≠some (some b,c'))):StR C0 ρ' (az g W) w' B:=by
 refine⟨?_,?_,?_⟩
 .intro s ob hob;unfold az at hob;split at hob
  .grind
  .rename_i hx;obtain⟨q,c,h1,⟨h2,h3|⟨h3,h4⟩⟩|⟨b,arr,h2,h3,h4⟩⟩:=hs.ob s ob hob
   .grind
   .refine⟨q,c,by grind,.inl ⟨h2,.inr ⟨h3,h4.mono hext hmono ?_⟩⟩⟩;grind
   .refine⟨q,c,by grind,.inr ⟨b,arr,h2,h3,?_,h4.box,h4.row,?_⟩⟩
    .subst h2;rw[hold s ob b c hx hob h1];exact h4.blk
    .intro i x hi;obtain⟨v,g1,g2,g3⟩:=h4.cells i x hi;exact⟨v,g1,g2,aR.mono hext hmono x v g3⟩
 .intro s s' ob ob' b c c' h1 h2 h3 h4;by_cases hss:s=s'
  .exact hss
  have k1:=h1;have k2:=h2;unfold az at h1 h2;split at h1
  .grind
  .rename_i hx;split at h2
   .grind
   .rename_i hx2;exact hs.inj s s' ob ob' b c c' h1 h2 (by grind) (by grind)
 .intro s s' ob ob' c c' h1 h2 m1 m2 h3 h4 hT;by_cases hss:s=s'
  .exact hss
  have k1:=h1;have k2:=h2;unfold az at h1 h2;split at h1
  .grind
  .rename_i hx;split at h2
   .rename_i x hx2;subst h2;obtain⟨q,c2,e1,⟨_,e2,_⟩|⟨e2,_,_,e5⟩|⟨b2,arr,e2,_,_,_⟩⟩:=hnew s' ob' hx2
    .omega
    .rw[h4]at e1;cases e1;exact absurd hT.symm (by grind)
    grind
   .rename_i hx2;exact hs.mpi s s' ob ob' c c' h1 h2 m1 m2 (by grind) (by grind) hT
def StR.step{C0:bG}{ρ ρ':Ren}{g:Nat->Option Ob}{w w':World}{B:Nat}{W:List (Nat×Option Ob)}(hs:StR C0 ρ g w B)
  (hρ:∀s o,W.lookup s=none->g s=some o->ρ' s=ρ s) (hext:∀s q,ρ s=some q->ρ' s=some q)
  (hmono:∀b o x,bC C0 B w ρ g b o x->bC C0 B w' ρ' (az g W) b o x)
  (hold:∀s o b c,W.lookup s=none->g s=some o->ρ s=some (some b,c)->w'.heap[b]? =w.heap[b]?)
  (hnew:∀s o,W.lookup s=some (some o)->∃q c,ρ' s=some (q,c)/\((q=none/\o.esz≠0/\o.cells=[]/\c=0)\/∃b arr,q=some b/\B<=b/\ObRep ρ' (bC C0 B w' ρ' (az g W)) w' b c o arr/\
    ∀s' o' c',s'≠s->az g W s'=some o'->ρ' s'≠some (some b,c')))
  (hmap:∀(c:Nat) es clock,w.heap[c]? =some (xD es clock)->w'.heap[c]? =w.heap[c]?):StR C0 ρ' (az g W) w' B:=
 hs.stepG hρ hext hmono hold (by grind) (by grind)
def tk{w:World}{c:Nat}{es:Array MapEntry}{clock:Nat}(h:w.heap[c]? =some (xD es clock)):c<w.heap.size:=by grind
def vm{w:World}{b c:Nat}{es:Array MapEntry}{clock:Nat}{arr:Array Value}{t:TypeId}{q:Nat×Nat}(h:w.heap[c]? =some (xD es clock))(hb:w.heap[b]? =some (.cells arr t q)):c≠b:=by grind
def bW.alloc{r:AV}{ob:Ob}(h:∀(ρ:Ren) (C:bG) (V:Nat->Value) (w:World),(∀x∈o.op.operands.toList,aR ρ C (E x) (bJ V x))->
  ∃v arr c,(execOp (bJ V) o).run P w= .ok (.value v) (w.alloc (.cells arr ob.ty))/\(ob.esz=0->arr.size=ob.cells.length)/\(ob.esz≠0->arr.size=c*ob.esz/\ob.cells.length<=arr.size/\c<=maxLen)/\
   bE ρ C ob.cells (arr.toList.take ob.cells.length)/\iD arr.toList/\∀(ρ':Ren) (C':bG),ρ' (sit n 0)=some (some w.heap.size,c)->aR ρ' C' r v):bW P o E σ n r [] [(sit n 0,some ob)] :=by
 intro C0 ρ g V w B hs hB _ hn hgn hE;have hcl:∀s,cls s≠n->s≠sit n 0:=λs h e=>h (by rw[e];exact iW n 0);generalize sit n 0=m at*;obtain⟨v,arr,c,hrun,h1,h2,h3,h4,h5⟩:=h ρ _ V w hE;unfold cQ;rw[hrun];have hblk:(w.alloc (.cells arr ob.ty)).heap[w.heap.size]? =some (.cells arr ob.ty (0,0)):=heap_alloc_new w _
 let ρ':Ren:=λs=>if s=m then some (some w.heap.size,c)else ρ s
 have hext:∀s q,ρ s=some q->ρ' s=some q:=by intro s q hq;show(if s=m then _ else _)=_;rw[if_neg (by grind)];exact hq
 have hlt:∀s ob b c,g s=some ob->ρ s=some (some b,c)->b<w.heap.size:=by intro s ob b c e1 e2;obtain⟨_,arr,e3⟩:=hs.at e1 e2;exact e3.lt
 have hold:∀b,b<w.heap.size->(w.alloc (.cells arr ob.ty)).heap[b]? =w.heap[b]? :=λb hb=>Below.heap_alloc w _ b hb;have hlk:∀s,s≠m->[(m,some ob)].lookup s=none:=by intro s hs;simp[iU,beq_eq_false_iff_ne.2 hs]
 have hup:∀s,s≠m->az g [(m,some ob)] s=g s:=by intro s hs;unfold az;rw[hlk s hs]
 have hmono:∀b o' x,bC C0 B w ρ g b o' x->bC C0 B (w.alloc (.cells arr ob.ty)) ρ' (az g [(m,some ob)]) b o' x:=by
  intro b o' x ⟨e1,e2,e0⟩;have hb:b<w.heap.size:=kO w ⟨b,o',none⟩ e1;refine⟨(je (hold b hb)).trans e1,?_,e0⟩;intro s c' e3;by_cases e:s=m
  .grind
  .grind
 refine⟨ρ',by grind,hmono,?_,by grind,(Below.refl B w).alloc hB _⟩;refine hs.step ?_ hext hmono ?_ ?_ (by grind)
 .grind
 .grind
 .intro s ob' e;have e1:s=m:=by
   rcases p9 s m with h|h
   .grind
   .exact h
  subst e1;have e2:ob'=ob:=by simp[iU]at e;exact e.symm
  subst e2;refine⟨some w.heap.size,c,by simp[ρ'],.inr ⟨w.heap.size,arr,rfl,hB,⟨hblk,h1,h2,?_⟩,?_⟩⟩
  .intro i x hi;obtain⟨u,g1,g2⟩:=h3.get _ _ i x hi;rw[pp]at g1;split at g1
   .refine⟨u,by grind,h4 u (by grind),aR.mono hext hmono x u g2⟩
   .cases g1
  grind
def QE(P:Program)(n:Nat)(t:TypeId)(K:Res):Prop:=∃z,qZ P t=some z/\qY P t=true/\K (.ptr (sit n 0) 0) [] [(sit n 0,some ⟨t,0,z⟩)]
def Xx{t:TypeId}(ho:o.op= .alloc t){K:Res}(h:QE P n t K):∃r R W,bW P o E σ n r R W/\K r R W:=by
 obtain⟨z,hz,hz1,hK⟩:=h;refine⟨_,_,_,bW.alloc ?_,hK⟩;intro ρ C V w hE;obtain⟨i,zv,hi,hiz,hsz,hone,rfl⟩:=xf hz hz1;refine⟨.pointer (some ⟨w.heap.size,0,none⟩),zv.cells,0,?_,λ_=>by simp,by grind,?_,hone,λρ' C' h=> ?_⟩
 .unfold execOp;rw[ho];simp[Instr.alloc,zeroValue,typeInfo,hi,hiz,newVar,newRow]
 .rw[iV (by simp)];exact un _
 .unfold aR;grind
def Ss(n:Nat)(t:TypeId)(x:AV)(K:Res):Prop:=∃l,mJ x=some l/\K (.ptr (sit n 0) 0) [] [(sit n 0,some ⟨t,0,l⟩)]
def aA1{t:TypeId}{x:Operand}(ho:o.op= .box t x){K:Res}(h:Ss n t (E x) K):∃r R W,bW P o E σ n r R W/\K r R W:=by
 obtain⟨l,hl,hK⟩:=h;refine⟨_,_,_,bW.alloc ?_,hK⟩;intro ρ C V w hE;obtain⟨h1,h2⟩:=Ed hl (hE x (by rw[ho];simp[ce]));have h3:=h1.length;refine⟨.pointer (some ⟨w.heap.size,0,none⟩),(bJ V x).cells,0,?_,λ_=>by omega,by grind,?_,h2,λρ' C' h=> ?_⟩
 .unfold execOp;rw[ho];simp[Instr.box,newVar,newRow]
 .grind
 .unfold aR;grind
def nB:Nat->List AV->List AV
 |0,_=>[]
 |m+1,z=>z++nB m z
def PN(P:Program)(n:Nat)(t:TypeId)(len:Nat)(parts:List (Nat×AV))(K:Res):Prop:=∃e z,dI P t=some e/\qZ P e=some z/\qY P e=true/\z≠[]/\len*af P e<=1000000/\
 ∃l,oM (λi=>some (i*af P e,af P e)) (nB len z) parts=some l/\K (.own (sit n 0) 0 len) [] [(sit n 0,some ⟨e,af P e,l⟩)]
def D6(z:List AV):∀m,(nB m z).length=m*z.length
 |0=>by simp[nB]
 |m+1=>by simp[nB,D6 z m,zV];omega
def Mk(zv:Array Value)(_hz:0<zv.size)(m:Nat):((I5 (m*zv.size)).map (λj=>zv[j % zv.size]!)).toList=(cl m zv.toList).flatten:=by
 apply List.ext_getElem?;induction m with
 |zero=>simp
 |succ m ih=>
  intro i;rw[xE,mT];by_cases hi:i<zv.size
  .rw[oU (by omega)];have h1:i<(m+1)*zv.size:=by rw[zV];omega
   simp[h1,dh hi,hi]
  .rw[lO (by simp;omega)];have e1:(i-zv.size) % zv.size=i % zv.size:=by
    conv=>rhs;rw[show i=(i-zv.size)+zv.size by omega,pk]
   grind
def Eo{ρ:Ren}{C:bG}(zs:List Value):∀m,bE ρ C (nB m (zs.map lF)) (cl m zs).flatten
 |0=>by rfl
 |m+1=>by
  rw[xE,mT,nB];have ih:=Eo (ρ:=ρ) (C:=C) zs m;refine bE.of _ _ (by simp[ih.length]) λi x hi=> ?_;by_cases h:i<(zs.map lF).length
  .rw[oU h]at hi;rw[oU (by simpa using h)];exact(un zs).get _ _ i x hi
  .rw[lO (by omega)]at hi;have:=ih.get _ _ _ x hi;grind
def WF{t:TypeId}{len:Nat}{parts:Array (Nat×Operand)}(ho:o.op= .buildSlice t len parts){K:Res}(h:PN P n t len (parts.toList.map λq=>(q.1,E q.2)) K):∃r R W,bW P o E σ n r R W/\K r R W:=by
 obtain⟨e,z,he,hz,hz1,hne,hlen,l,hl,hK⟩:=h;refine⟨_,_,_,bW.alloc ?_,hK⟩;intro ρ C V w hE;obtain⟨i,zv,hi,hiz,hsz,hone,rfl⟩:=xf hz hz1;have hsize:af P e=zv.cells.size:=by simp[af,hi,hsz]
 have hpos:0<zv.cells.size:=by
  rcases qz zv.cells.size with h|h
  .grind
  .exact h
 have hp:∀(j:Nat) q,(parts.toList.map λq=>(q.1,E q.2))[j]? =some q->∃v,(parts.toList.map λq=>(q.1,bJ V q.2))[j]? =some (q.1,v)/\aR ρ C q.2 v:=by
  intro j q hj;rw[gr]at hj|-;cases hq:parts.toList[j]? with
  |none=>grind
  |some q'=>
   rw[hq]at hj;simp only[eJ,fg]at hj;subst hj;refine⟨bJ V q'.2,rfl,hE q'.2 ?_⟩;simp only[ce];grind
 have hones:iD (cl len zv.cells.toList).flatten:=by intro u hu;simp only[lu,TD]at hu;obtain⟨l',⟨_,rfl⟩,hu⟩:=hu;exact hone u hu
 obtain⟨vs,f1,f2,f3⟩:=FE _ (parts.toList.map λq=>(q.1,bJ V q.2)) _ l _ hl (by simp) hp (Eo _ len) hones;have hl2:=f2.length;have hl3:l.length=len*af P e:=by
  have:∀(parts:List (Nat×AV)) (cs res:List AV),oM (λi=>some (i*af P e,af P e)) cs parts=some res->res.length=cs.length:=by
   intro parts;induction parts with
   |nil=>intro cs res h;simp[oM]at h;rw[h]
   |cons q parts ih=>
    intro cs res h;unfold oM at h;split at h
    .split at h
     .rw[ih _ _ h,AH]
     .cases h
    .cases h
  rw[this _ _ _ hl,D6,di,zU,hsize]
 refine⟨.slice (some ⟨w.heap.size,0,none⟩) len len,vs.toArray,len,?_,λh=>by omega,λ_=> ?_,?_,by omega,λρ' C' h=> ?_⟩
 .unfold execOp;rw[ho];have e1:¬(len*af P e>2^24):=by omega
  have e2:((parts.map λq=>(q.1,bJ V q.2)).toList)=(parts.toList.map λq=>(q.1,bJ V q.2)):=by simp
  have e3:∀w:World,(sizeOf e).run P w= .ok (af P e) w:=λw=>by simp[sizeOf,typeInfo,hi,af]
  have e4:∀w:World,(zeroValue e).run P w= .ok zv w:=λw=>by simp[zeroValue,typeInfo,hi,hiz]
  by_cases h0:len*af P e=0
  .have hl0:len=0:=by
    rcases I3.1 h0 with h|h
    .exact h
    .omega
   subst hl0;simp only[List.replicate_zero,List.flatten_nil]at f1;simp only[Instr.buildSlice,cr,run_underlying (mB he),dB,e3,Nat.zero_mul,if_neg (show¬(0:Nat)>2^24 by omega),if_true,da];have e6:(I5 0).map (λx=>(#[] :Array Value)[x % (#[] :Array Value).size]!)= #[] :=by simp
   rw[e6,e2];rw[f1];simp[newRow]
  .have e5:(I5 (len*af P e)).map (λj=>zv.cells[j % zv.cells.size]!)=(cl len zv.cells.toList).flatten.toArray:=by rw[hsize];apply p8.1;rw[Mk zv.cells hpos len]
   simp only[Instr.buildSlice,cr,run_underlying (mB he),dB,e3,if_neg e1,if_neg h0,e4,da,e5,e2,f1];simp[newRow]
 .refine⟨?_,?_,?_⟩
  .simp;omega
  .simp;omega
  .have:len<=len*af P e:=TE _ (by omega);unfold maxLen;omega
 .grind
 .unfold aR;grind
end
end
section
section
variable {P:Program} {o:Oper} {E:Operand->AV} {σ:Nat->Option Ob} {n:Nat}
def MX:∀(l cs:List AV) (off:Nat),off+l.length<=cs.length->∀(i:Nat) x,(iA cs off l)[i]? =some x->(off<=i/\l[i-off]? =some x)\/((i<off\/off+l.length<=i)/\cs[i]? =some x)
 |[],cs,off,_,i,x,h=>by
  simp only[iA]at h;grind
 |y::l,cs,off,hl,i,x,h=>by
  simp only[iE]at hl;rcases MX l (cs.set off y) (off+1) (by simp;omega) i x h with⟨h1,h2⟩|⟨h1,h2⟩
  .grind
  grind
def vZ(P:Program)(t:TypeId)(σ:Nat->Option Ob)(a v:AV)(K:Res):Prop:=match a with
 | .ptr s off=>∃ob l,σ s=some ob/\mJ v=some l/\l.length=af P t/\(P.info? t).isSome=true/\off+l.length<=ob.cells.length/\K .undef [s] [(s,some ⟨ob.ty,ob.esz,iA ob.cells off l⟩)]
 |_=>False
def WU{t:TypeId}{a x:Operand}(ho:o.op= .store t a x){K:Res}(h:vZ P t σ (E a) (E x) K):∃r R W,bW P o E σ n r R W/\K r R W:=by
 unfold vZ at h;split at h
 case h_2=>exact h.elim
 rename_i s off ea;obtain⟨ob,l,hob,hl,hsz,ht,hoff,hK⟩:=h;refine⟨_,_,_,?_,hK⟩;intro C0 ρ g V w B hs hB hR hn hgn hE;have g1:=hE a (by rw[ho];simp[ce]);rw[ea]at g1;obtain⟨b,c,hρ,hv⟩:=g1;have hgs:g s=some ob:=by grind
 obtain⟨hBb,arr,hO⟩:=hs.at hgs hρ;obtain⟨r1,r2⟩:=Ed hl (hE x (by rw[ho];simp[ce]));have hlen:=r1.length;have hle:ob.cells.length<=arr.size:=by
  by_cases hz:ob.esz=0
  .rw[hO.box hz];omega
  .exact(hO.row hz).2.1
 have hst:=run_storeCells_at P b off ob.ty (bJ V x).cells.toList 0 arr w hO.blk (by omega) r2;obtain⟨i,hi⟩:=pw.1 ht;have hsi:(bJ V x).cells.size=i.size:=by
  have:af P t=i.size:=by simp[af,hi]
  rw[<-zU,hlen,hsz,this]
 unfold cQ execOp;simp only[ho,hv,Instr.storeAt,DU,storeVar,sizeOf,typeInfo,cr,da,dB,run_program,hi,if_neg (show¬(bJ V x).cells.size≠i.size from λh=>h hsi),hst];simp only[Nat.add_zero];generalize hvs:(bJ V x).cells.toList=vs at*;have hblk:(w.setRow b (arr.toList.take off++vs++arr.toList.drop (off+vs.length)).toArray).heap[b]? =some (.cells (arr.toList.take off++vs++arr.toList.drop (off+vs.length)).toArray ob.ty (0,0)):=setRow_heap w b arr _ ob.ty _ hO.blk;have hold:∀k,k≠b->(w.setRow b (arr.toList.take off++vs++arr.toList.drop (off+vs.length)).toArray).heap[k]? =w.heap[k]? :=by intro k hk;unfold World.setRow;simp only[Iz];rw[if_neg (by grind)]
 have hsize:(w.setRow b (arr.toList.take off++vs++arr.toList.drop (off+vs.length)).toArray).heap.size=w.heap.size:=by unfold World.setRow;simp
 have hlk:∀s',s'≠s->[(s,some (⟨ob.ty,ob.esz,iA ob.cells off l⟩:Ob))].lookup s'=none:=by intro s' hs';simp[iU,beq_eq_false_iff_ne.2 hs']
 have hup:∀s',s'≠s->az g [(s,some ⟨ob.ty,ob.esz,iA ob.cells off l⟩)] s'=g s':=by intro s' hs';unfold az;rw[hlk s' hs']
 have hmono:∀b' o' x,bC C0 B w ρ g b' o' x->bC C0 B (w.setRow b (arr.toList.take off++vs++arr.toList.drop (off+vs.length)).toArray) ρ (az g [(s,some ⟨ob.ty,ob.esz,iA ob.cells off l⟩)]) b' o' x:=by
  intro b' o' x ⟨e1,e2,e0⟩;have hne:b'≠b:=λe=>by grind
  refine⟨(je (hold b' hne)).trans e1,?_,e0⟩;intro s' c' e3;by_cases e:s'=s
  .grind
  .grind
 refine⟨ρ,λ_ _=>rfl,hmono,?_,by rfl,⟨rfl,rfl,rfl,by omega,by grind⟩⟩;refine hs.step (by grind) (λ_ _ h=>h) hmono ?_ ?_ λk es clock hk=>hold k (vm hk hO.blk)
 .intro s' o' b' c' e1 e2 e3;refine hold b' λe=> ?_;subst e;have:=hs.inj s s' ob o' b' c c' hgs e2 hρ e3;grind
 .intro s' o' e;have e1:s'=s:=by
   rcases p9 s' s with h|h
   .grind
   .exact h
  subst e1;have e2:o'=⟨ob.ty,ob.esz,iA ob.cells off l⟩:=by simp[iU]at e;exact e.symm
  subst e2;have hasz:(arr.toList.take off++vs++arr.toList.drop (off+vs.length)).toArray.size=arr.size:=by simp[mX];omega
  refine⟨some b,c,hρ,.inr ⟨b,_,rfl,hBb,⟨hblk,?_,?_,?_⟩,?_⟩⟩
  .intro hz;rw[hasz,hO.box hz];exact(AH _ _ _).symm
  .intro hz;obtain⟨k1,k2,k3⟩:=hO.row hz;rw[hasz];exact⟨k1,by rw[AH];exact k2,k3⟩
  .intro j y hj;rcases MX l ob.cells off hoff j y hj with⟨h1,h2⟩|⟨h1,h2⟩
   .obtain⟨u,k1,k2⟩:=r1.get _ _ _ y h2;refine⟨u,?_,r2 u (by grind),aR.mono (λ_ _ h=>h) hmono y u k2⟩;grind
   .obtain⟨u,k1,k3,k2⟩:=hO.cells j y h2;refine⟨u,?_,k3,aR.mono (λ_ _ h=>h) hmono y u k2⟩;grind
  .intro s2 o' c' hne e3 e4;rw[hup s2 hne]at e3;exact hne (hs.inj s' s2 ob o' b c c' hgs e3 hρ e4).symm
def Cp(P:Program)(e:TypeId):Bool:=((P.info? e).bind λi=>i.zero.map λz=>z.cells.size==i.size&&decide (0<i.size)&&decide (i.bytes<=1000000)).getD false
def H4(σ:Nat->Option Ob)(e:TypeId)(esz:Nat)(x:AV)(K:Nat->List AV->List Nat->Prop):Prop:=match x with
 | .nil=>K 0 [] []
 | .own s 0 k=>∃ob,σ s=some ob/\ob.ty=e/\ob.esz=esz/\ob.cells.length=k*esz/\K k ob.cells [s]
 |_=>False
def CT(σ:Nat->Option Ob)(esz:Nat)(y:AV)(K:Nat->List AV->List Nat->Prop):Prop:=match y with
 | .nil=>K 0 [] []
 | .p (.sl m cs)=>cs.length=m*esz/\K m (cs.map .p) []
 | .own s o m=>∃ob l,σ s=some ob/\(ob.cells.drop o).take (m*esz)=l/\l.length=m*esz/\K m l [s]
 |_=>False
def zH(P:Program)(n:Nat)(t:TypeId)(σ:Nat->Option Ob)(x y:AV)(K:Res):Prop:=∃e,dI P t=some e/\Cp P e=true/\
 H4 σ e (af P e) x λk cs R1=>CT σ (af P e) y λm cs' R2=>k+m<=1000000/\
  K (.own (sit n 0) 0 (k+m)) (R1++R2) (R1.map (·,none)++[(sit n 0,some ⟨e,af P e,cs++cs'⟩)])
def dA.vals{C:bG}:∀(l:List PV) (b off:Nat),dA C l b off->∃vs:List Value,vs.length=l.length/\(∀(i:Nat) v,vs[i]? =some v->C b (off+i) v)/\bK C l vs/\iD vs
 |[],b,off,_=>⟨[],rfl,(by grind),by rfl,λu hu=>by cases hu⟩
 |x::l,b,off,h=>by
  obtain⟨⟨v,h1,h2,h3⟩,h4⟩:=h;obtain⟨vs,g1,g2,g3,g4⟩:=dA.vals l b (off+1) h4;refine⟨v::vs,by simp[g1],?_,?_,λu hu=>by rcases bI.1 hu with rfl|hu;exact h2;exact g4 u hu⟩
  .grind
  .unfold bK;grind
def ObRep.vals{ρ:Ren}{C:bG}{w:World}{b c:Nat}{ob:Ob}{arr:Array Value}(h:ObRep ρ C w b c ob arr):bE ρ C ob.cells (arr.toList.take ob.cells.length)/\iD (arr.toList.take ob.cells.length):=by
 have hle:ob.cells.length<=arr.size:=by
  by_cases hz:ob.esz=0
  .rw[h.box hz];omega
  .exact(h.row hz).2.1
 refine⟨bE.of _ _ (by simp;omega) λi x hi=> ?_,?_⟩
 .obtain⟨v,h1,_,h3⟩:=h.cells i x hi;grind
 .intro u hu;obtain⟨i,hi,he⟩:=List.getElem_of_mem hu;simp only[mX,zU]at hi;obtain⟨v,h1,h2,_⟩:=h.cells i ob.cells[i] (by grind);grind
def ZD{C0:bG}{ρ:Ren}{g:Nat->Option Ob}{w:World}{B:Nat}(hs:StR C0 ρ g w B){e:TypeId}{esz:Nat}{x:AV}{v:Value}(hz:esz≠0)(hx:aR ρ (bC C0 B w ρ g) x v){k:Nat}{cs:List AV}{R:List Nat}
  (hd:(x= .nil/\k=0/\cs=[]/\R=[])\/∃s ob,x= .own s 0 k/\R=[s]/\g s=some ob/\ob.ty=e/\ob.esz=esz/\ob.cells.length=k*esz/\cs=ob.cells):
  ∃xs,w.ownsRow B e esz v k xs/\bE ρ (bC C0 B w ρ g) cs xs/\iD xs/\((v.ownBlock=none/\∀s∈R,∀b c,ρ s≠some (some b,c))\/∃s b c ob,R=[s]/\g s=some ob/\ρ s=some (some b,c)/\v.ownBlock=some b):=by
 rcases hd with⟨rfl,rfl,rfl,rfl⟩|⟨s,ob,rfl,rfl,h1,h2,h3,h4,rfl⟩
 .subst hx;exact⟨[],I6 _ _ _ _,by rfl,(λu hu=>by cases hu),.inl ⟨rfl,by grind⟩⟩
 .obtain⟨q,c,hq,⟨rfl,hv,rfl,_⟩|⟨b,o',c',rfl,hv,h5,h6,h7⟩⟩:=hx
  .subst hv;have hc:ob.cells=[] :=by grind
   rw[hc];exact⟨[],I6 _ _ _ _,by rfl,(λu hu=>by cases hu),.inl ⟨rfl,by grind⟩⟩
  .obtain⟨rfl,rfl⟩:=h7 rfl;obtain⟨hB,arr,hO⟩:=hs.at h1 hq;obtain⟨r1,r2⟩:=hO.vals;obtain⟨k1,k2,k3⟩:=hO.row (by omega);refine⟨_,⟨?_,.inr ⟨b,c',arr,hv,hB,?_,h5,k3,?_,?_⟩⟩,r1,r2,.inr ⟨s,b,c',ob,rfl,h1,hq,by rw[hv];rfl⟩⟩
   .grind
   .have:=hO.blk;grind
   .rw[k1,h3]
   .rw[h4]
def YD{C0:bG}{ρ:Ren}{g:Nat->Option Ob}{w:World}{B:Nat}(hs:StR C0 ρ g w B){esz:Nat}{y:AV}{v:Value}(hy:aR ρ (bC C0 B w ρ g) y v){m:Nat}{cs:List AV}
  (hd:(y= .nil/\m=0/\cs=[])\/(∃l,y= .p (.sl m l)/\l.length=m*esz/\cs=l.map .p)\/∃s o ob,y= .own s o m/\g s=some ob/\(ob.cells.drop o).take (m*esz)=cs/\cs.length=m*esz):
  ∃a c us,v= .slice a m c/\us.length=m*esz/\Rd w a us/\(a=none->c=0)/\bE ρ (bC C0 B w ρ g) cs us/\iD us:=by
 rcases hd with⟨rfl,rfl,rfl⟩|⟨l,rfl,hl,rfl⟩|⟨s,oo,ob,rfl,h1,h2,h3⟩
 .exact⟨none,0,[],hy,by simp,(λi u hi=>by simp at hi),λ_=>rfl,by rfl,λu hu=>by cases hu⟩
 .obtain⟨a,c,hv,h1,h2,h3⟩:=hy;cases a with
  |none=>
   obtain⟨rfl,rfl⟩:=h2 rfl;exact⟨none,0,[],hv,hl,(λi u hi=>by simp at hi),λ_=>rfl,by rfl,λu hu=>by cases hu⟩
  |some ad=>
   obtain⟨b,off,sp⟩:=ad;obtain⟨h4,h5⟩:=h3 _ rfl;rcases qz m with hm0|hm0
   .subst hm0;have hl0:_=[] :=p7.1 (by simpa using hl);subst hl0;exact⟨_,c,[],hv,by simp,(λi u hi=>by simp at hi),(by grind),by rfl,λu hu=>by cases hu⟩
   have h4:=h4 hm0;subst h4;obtain⟨vs,k1,k2,k3,k4⟩:=h5.vals;refine⟨_,c,vs,hv,by omega,?_,(by grind),k3.toA,k4⟩;intro i u hi;have:=k2 i u hi;exact⟨b,off,rfl,kO w ⟨b,_,none⟩ this.1,this.1⟩
 .obtain⟨q,c,hq,⟨rfl,hv,rfl,rfl⟩|⟨b,o',c',rfl,hv,h5,h6,h7⟩⟩:=hy
  .have:cs=[] :=by grind
   subst this;exact⟨none,0,[],hv,by simp,(λi u hi=>by simp at hi),λ_=>rfl,by rfl,λu hu=>by cases hu⟩
  .obtain⟨hB,arr,hO⟩:=hs.at h1 hq;obtain⟨r1,r2⟩:=hO.vals;refine⟨_,c',((arr.toList.take ob.cells.length).drop oo).take (m*esz),hv,?_,?_,(by grind),by rw[<-h2];exact(r1.drop _).take _,λu hu=>r2 u (by grind)⟩
   .have:=r1.length;grind
   .intro i u hi;rw[pp]at hi;split at hi
    .rename_i hlt;have hm:m≠0:=by intro h;subst h;simp at hlt
     have e:=h6 hm;rw[wq,pp]at hi;split at hi
     .refine⟨b,o',rfl,hO.lt,?_⟩;rw[hO.cell];grind
     .cases hi
    .cases hi
def UQ{t t' ty e e':TypeId}(ht:P.underlying t=some (.slice e))(ht':P.underlying t'=some (.slice e'))(s x:Value)(w:World):
  (Builtin.append_ #[t,t'] ty #[s,x]).run P w=(Builtin.append_ #[t,t] ty #[s,x]).run P w:=by
 cases s<;>simp[Builtin.append_,run_underlying ht,run_underlying ht']
def aA4{x y:Operand}{t t':TypeId}(ht':(dI P t').isSome=true)(ho:o.op= .call {callee:= .builtin .append,args:= #[x,y],argTypes:= #[t,t']}){K:Res}(h:zH P n t σ (E x) (E y) K):∃r R W,bW P o E σ n r R W/\K r R W:=by
 obtain⟨e,he,hta,h⟩:=h;unfold Cp at hta;have hx:x∈o.op.operands.toList:=by rw[ho];simp[ce,ju]
 have hy:y∈o.op.operands.toList:=by rw[ho];simp[ce,ju]
 cases hi:P.info? e with
 |none=>grind
 |some i=>
 rw[hi]at hta;simp only[rC]at hta;cases hz:i.zero with
 |none=>grind
 |some z=>
 rw[hz]at hta;simp only[eJ,lz,bj,beq_iff_eq,decide_eq_true_eq]at hta;obtain⟨⟨t1,t2⟩,t3⟩:=hta;have hesz:af P e=i.size:=by simp[af,hi]
 have hh:∃k cs R1 m cs' R2,((E x= .nil/\k=0/\cs=[]/\R1=[])\/∃s ob,E x= .own s 0 k/\R1=[s]/\σ s=some ob/\ob.ty=e/\ob.esz=af P e/\ob.cells.length=k*af P e/\cs=ob.cells)/\
   ((E y= .nil/\m=0/\cs'=[]/\R2=[])\/(∃l,E y= .p (.sl m l)/\l.length=m*af P e/\cs'=l.map .p/\R2=[])\/∃s o ob,E y= .own s o m/\σ s=some ob/\(ob.cells.drop o).take (m*af P e)=cs'/\cs'.length=m*af P e/\R2=[s])/\
   k+m<=1000000/\K (.own (sit n 0) 0 (k+m)) (R1++R2) (R1.map (·,none)++[(sit n 0,some ⟨e,af P e,cs++cs'⟩)]):=by
  have tl:∀k cs R1,CT σ (af P e) (E y) (λm cs' R2=>k+m<=1000000/\K (.own (sit n 0) 0 (k+m)) (R1++R2) (R1.map (·,none)++[(sit n 0,some ⟨e,af P e,cs++cs'⟩)]))->
    ∃m cs' R2,((E y= .nil/\m=0/\cs'=[]/\R2=[])\/(∃l,E y= .p (.sl m l)/\l.length=m*af P e/\cs'=l.map .p/\R2=[])\/∃s o ob,E y= .own s o m/\σ s=some ob/\(ob.cells.drop o).take (m*af P e)=cs'/\cs'.length=m*af P e/\R2=[s])/\
    k+m<=1000000/\K (.own (sit n 0) 0 (k+m)) (R1++R2) (R1.map (·,none)++[(sit n 0,some ⟨e,af P e,cs++cs'⟩)]):=by
   intro k cs R1 h;unfold CT at h;split at h
   .rename_i ey;exact⟨0,[],[],by grind,h⟩
   .grind
   .grind
   .exact h.elim
  unfold H4 at h;split at h
  .rename_i ex;obtain⟨m,cs',R2,h1,h2⟩:=tl _ _ _ h;exact⟨0,[],[],m,cs',R2,by grind,h1,h2⟩
  .obtain⟨ob,g1,g2,g3,g4,g5⟩:=h;obtain⟨m,cs',R2,h1,h2⟩:=tl _ _ _ g5;grind
  .exact h.elim
 obtain⟨k,cs,R1,m,cs',R2,hd1,hd2,hkm,hK⟩:=hh;refine⟨_,_,_,?_,hK⟩;intro C0 ρ g V w B hs hB hR hn hgn hE;have hn:=hn _ (iW n 0);have hgn:=hgn _ (iW n 0);have hcl:∀s,cls s≠n->s≠sit n 0:=λs h e=>h (by rw[e];exact iW n 0);have hd1':(E x= .nil/\k=0/\cs=[]/\R1=[])\/∃s ob,E x= .own s 0 k/\R1=[s]/\g s=some ob/\ob.ty=e/\ob.esz=af P e/\ob.cells.length=k*af P e/\cs=ob.cells:=by
  rcases hd1 with h|⟨s,ob,h1,h2,h3,h4⟩
  .exact .inl h
  .grind
 have hd2':(E y= .nil/\m=0/\cs'=[])\/(∃l,E y= .p (.sl m l)/\l.length=m*af P e/\cs'=l.map .p)\/∃s o ob,E y= .own s o m/\g s=some ob/\(ob.cells.drop o).take (m*af P e)=cs'/\cs'.length=m*af P e:=by
  rcases hd2 with⟨h1,h2,h3,_⟩|⟨l,h1,h2,h3,_⟩|⟨s,oo,ob,h1,h2,h3,h4,h5⟩
  .grind
  .grind
  .grind
 obtain⟨xs,hown,q1,q2,hsep⟩:=ZD hs (by omega) (hE x hx) hd1';obtain⟨a,c,us,hyv,p1,p2,p3,p4,p5⟩:=YD hs (hE y hy) hd2';have hlenx:xs.length=k*af P e:=hown.1;have hsuff:∀K0:Value->World->Prop,cQ P {o with op:= .call {callee:= .builtin .append,args:= #[x,y],argTypes:= #[t,t]}} V w K0->cQ P o V w K0:=by intro K0 h;obtain⟨e',he'⟩:=pw.1 ht';have hr:=UQ (ty:=o.type) (mB he) (mB he') (bJ V x) (bJ V y) w;unfold cQ execOp at*;simp only[ho,resolve,invoke,builtin,cr,da,dB,I2,dX,po]at*;rw[hr];exact h
 refine hsuff _ ?_;refine Eu x y t rfl B e z (af P e) i.bytes (mB he) (by grind) (by rw[t1,hesz]) (by omega) _ k xs rfl hown a m c us hyv p1 p2 p3 p5 hkm t3 hB ?_;intro v' w' hown' hbel hgrow hblk;obtain⟨q',c',hq',hq2⟩:∃(q':Option Nat) (c':Nat),((q'=none/\v'= .slice none 0 0/\k+m=0/\c'=0/\xs++us=[])\/∃b' arr,q'=some b'/\v'= .slice (some ⟨b',0,none⟩) (k+m) c'/\B<=b'/\w'.heap[b']? =some (.cells arr e (0,0))/\k+m<=c'/\c'<=maxLen/\arr.size=c'*af P e/\arr.toList.take ((k+m)*af P e)=xs++us)/\True:=by
  obtain⟨o1,⟨h1,h2⟩|⟨b',c',arr,h1,h2,h3,h4,h5,h6,h7⟩⟩:=hown'
  .exact⟨none,0,.inl ⟨rfl,h1,h2,rfl,p7.1 (by grind)⟩,trivial⟩
  .exact⟨some b',c',by grind,trivial⟩
 clear hq2;generalize hnS:sit n 0=nS at*
 let ρ':Ren:=λs=>if s=nS then some (q',c')else ρ s
 let W:List (Nat×Option Ob):=R1.map (·,none)++[(nS,some ⟨e,af P e,cs++cs'⟩)]
 show∃ρ'':Ren,(∀s,cls s≠n->ρ'' s=ρ s)/\(∀b o' x,bC C0 B w ρ g b o' x->bC C0 B w' ρ'' (az g W) b o' x)/\StR C0 ρ'' (az g W) w' B/\aR ρ'' (bC C0 B w' ρ'' (az g W)) (.own nS 0 (k+m)) v'/\Below B w w';have hext:∀s q,ρ s=some q->ρ' s=some q:=by intro s q hq;show(if s=nS then _ else _)=_;rw[if_neg (by grind)];exact hq
 have hR1:∀s∈R1,s≠nS:=by
  intro s hs' e;rcases hd1' with⟨_,_,_,h⟩|⟨s',ob,_,h1,h2,_⟩
  .grind
  .grind
 have hlkn:W.lookup nS=some (some ⟨e,af P e,cs++cs'⟩):=by
  rcases hd1' with⟨_,_,_,h⟩|⟨s',ob,_,h1,h2,_⟩
  .simp[W,h]
  .grind
 have hlkR:∀s,s∈R1->W.lookup s=some none:=by
  intro s hs';rcases hd1' with⟨_,_,_,h⟩|⟨s',ob,_,h1,h2,_⟩
  .grind
  .grind
 have hlk:∀s,s≠nS->s∉R1->W.lookup s=none:=by
  intro s h1 h2;rcases hd1' with⟨_,_,_,h⟩|⟨s',ob,_,h3,_⟩
  .grind
  .grind
 have hupR:∀s,s∈R1->az g W s=none:=by intro s h;unfold az;rw[hlkR s h]
 have hup:∀s,s≠nS->s∉R1->az g W s=g s:=by intro s h1 h2;unfold az;rw[hlk s h1 h2]
 have hrow:∀s ob b c,g s=some ob->ρ s=some (some b,c)->s∉R1->some b≠(bJ V x).ownBlock:=by
  intro s ob b c e1 e2 e3 e4;rcases hsep with⟨h1,_⟩|⟨s',b',c2,ob',h1,h2,h3,h4⟩
  .grind
  .rw[h4]at e4;cases e4;have:=hs.inj s s' ob ob' b c c2 e1 h2 e2 h3;grind
 have hlt:∀s ob b c,g s=some ob->ρ s=some (some b,c)->b<w.heap.size:=by intro s ob b c e1 e2;obtain⟨_,arr,e3⟩:=hs.at e1 e2;exact e3.lt
 have hmono:∀b o' x,bC C0 B w ρ g b o' x->bC C0 B w' ρ' (az g W) b o' x:=by
  intro b o' x' ⟨e1,e2,e0⟩;have hb:b<w.heap.size:=kO w ⟨b,o',none⟩ e1;have hnr:some b≠(bJ V x).ownBlock:=by
   intro e4;rcases hsep with⟨h1,_⟩|⟨s',b',c2,ob',h1,h2,h3,h4⟩
   .grind
   .grind
  refine⟨(je (hgrow.block b hb hnr)).trans e1,?_,e0⟩;intro s c2 e3;by_cases e:s=nS
  .subst e;simp only[ρ',if_true]at e3;cases e3;rcases hq' with⟨h1,_⟩|⟨b',arr,h1,h2,_⟩
   .cases h1
   .cases h1;rcases hblk b (by rw[h2];rfl)with h3|h3
    .grind
    .omega
  .grind
 refine⟨ρ',by grind,hmono,?_,?_,hbel⟩
 .refine hs.step ?_ hext hmono ?_ ?_ λk es clock hk=>hgrow.block k (tk hk) ?_
  rotate_left 3
  .intro e4;rcases hsep with⟨h1,_⟩|⟨s',b',c2,ob',h1,h2,h3,h4⟩
   .grind
   .rw[h4]at e4;cases e4;obtain⟨_,arr,e5⟩:=hs.at h2 h3;exact vm hk e5.blk rfl
  .grind
  .intro s ob' b c2 e1 e2 e3;have e4:s∉R1:=λh=>by grind
   exact hgrow.block b (by grind) (by grind)
  .intro s ob' e1;have e2:s=nS:=by
    by_cases h1:s=nS
    .exact h1
    .grind
   subst e2;rw[hlkn]at e1;simp only[fg]at e1;subst e1;refine⟨q',c',by simp[ρ'],?_⟩;rcases hq' with⟨h1,h2,h3,h4,h5⟩|⟨b',arr,h1,h2,h3,h4,h5,h6,h7,h8⟩
   .refine .inl ⟨h1,by grind,?_,h4⟩;have l1:=q1.length;have l2:=p4.length;have l3:=congrArg eQ h5;simp only[fM,List.length_nil]at l3;rw[List.append_eq_nil_iff];exact⟨p7.1 (by omega),p7.1 (by omega)⟩
   .refine .inr ⟨b',arr,h1,h3,⟨h4,by grind,λ_=>⟨h7,?_,h6⟩,?_⟩,?_⟩
    .have l1:=q1.length;have l2:=p4.length;rw[h7,fM,<-l1,<-l2,hlenx,p1,<-zV];exact Nat.mul_le_mul_right _ h5
    .intro j u hj;have l1:=q1.length;have hjj:∃v,(xs++us)[j]? =some v/\v.oneCell'=true/\aR ρ (bC C0 B w ρ g) u v:=by
      by_cases hlt2:j<cs.length
      .rw[oU hlt2]at hj;obtain⟨v,g1,g2⟩:=q1.get _ _ j u hj;exact⟨v,by grind,q2 v (by grind),g2⟩
      .rw[lO (by omega)]at hj;obtain⟨v,g1,g2⟩:=p4.get _ _ _ u hj;exact⟨v,by grind,p5 v (by grind),g2⟩
     obtain⟨v,g1,g2,g3⟩:=hjj;refine⟨v,?_,g2,aR.mono hext hmono u v g3⟩;grind
    .intro s' o' c2 hne e3 e4;have e5:s'∉R1:=λh=>by grind
     rcases hblk b' (by rw[h2];rfl)with h9|h9
     .grind
     grind
 .unfold aR;grind
end
end
section
def aCm(C0:bG)(B:Nat)(w:World):bG:=λb o v=>w.cell? ⟨b,o,none⟩=some v/\(B<=b\/C0 b o v)
def dr{α β:Type}(f:α->Option β):List α->Option (List β)
 |[] =>some []
 |x::l=>match f x,dr f l with
  |some y,some m=>some (y::m)
  |_,_=>none
def bQ{α β:Type}(f:α->List β):List α->List β
 |[] =>[]
 |x::l=>f x++bQ f l
def dL:Nat->(Nat->Option Ob)->AV->Option PV
 |_,_,.p x=>some x
 |_,_,.nil=>some (.sl 0 [])
 |d+1,σ,.own s o m=>(σ s).bind λob=>(dr (dL d σ) ob.cells).map λl=> .sl m ((l.drop o).take (m*ob.esz))
 |d+1,σ,.ptr s off=>(σ s).bind λob=>(dr (dL d σ) ob.cells).map λl=> .pro l off
 |d+1,σ,.agg l=>(dr (dL d σ) l).map .agg
 |d+1,σ,.fn f a b=>(dr (dL d σ) a).bind λx=>(dr (dL d σ) b).map λy=> .fn f x y
 |_,_,_=>none
def cR:Nat->(Nat->Option Ob)->AV->List Nat
 |0,_,_=>[]
 |d+1,σ,.own s _ _=>s::(match σ s with|some ob=>bQ (cR d σ) ob.cells|none=>[])
 |d+1,σ,.ptr s _=>s::(match σ s with|some ob=>bQ (cR d σ) ob.cells|none=>[])
 |d+1,σ,.agg l=>bQ (cR d σ) l
 |d+1,σ,.fn _ a b=>bQ (cR d σ) a++bQ (cR d σ) b
 |_,_,_=>[]
def G5(d:Nat)(σ:Nat->Option Ob)(x:PV):dL d σ (.p x)=some x:=by cases d<;>rfl
def th(d:Nat)(σ:Nat->Option Ob):∀(l:List PV),dr (dL d σ) (l.map .p)=some l
 |[] =>rfl
 |x::l=>by simp only[dX,dr,G5,th d σ l]
def aBt(d:Nat)(σ:Nat->Option Ob)(x:PV):cR d σ (.p x)=[] :=by cases d<;>rfl
def qO(d:Nat)(σ:Nat->Option Ob):∀(l:List PV),bQ (cR d σ) (l.map .p)=[]
 |[] =>rfl
 |x::l=>by simp only[dX,bQ,aBt,qO d σ l,ww]
def ol{α β:Type}{f:α->List β}{x:α}{y:β}:∀{l:List α},x∈l->y∈f x->y∈bQ f l
 |a::l,h,hy=>by
  rcases bI.1 h with rfl|h
  .exact ig _ hy
  .exact gq _ (ol h hy)
def o6{α β:Type}{f:α->Option β}:∀{l:List α} {m:List β},dr f l=some m->l.length=m.length/\∀(i:Nat) x,l[i]? =some x->∃y,m[i]? =some y/\f x=some y
 |[],m,h=>by simp[dr]at h;grind
 |a::l,m,h=>by
  unfold dr at h;split at h
  .rename_i y r h1 h2;obtain⟨g1,g2⟩:=o6 h2;grind
  .cases h
section
variable {P:Program}
def FW{C0:bG}{ρ:Ren}{g σ:Nat->Option Ob}{w:World}{B:Nat}(hs:StR C0 ρ g w B)(T:bG)(S:Nat->Prop)(hfull:∀b o v,bC C0 B w ρ g b o v->T b o v)(hT:∀s ob b c,S s->g s=some ob->ρ s=some (some b,c)->B<=b->∀o v,w.cell? ⟨b,o,none⟩=some v->T b o v):∀(d:Nat) (x:AV) (y:PV) (v:Value),dL d σ x=some y->(∀s∈cR d σ x,S s/\g s=σ s)->aR ρ (bC C0 B w ρ g) x v->aY T y v:=by
 intro d;induction d with
 |zero=>
  intro x y v h hr hx;unfold dL at h;split at h<;>first|(cases h;done)|skip
  .cases h;exact aY.mono hfull _ v hx
  .cases h;unfold aR at hx;unfold aY;grind
  all_goals (rename_i e;cases e)
 |succ d ih=>
  have ihL:∀(l:List AV) (m:List PV) (vs:List Value),dr (dL d σ) l=some m->(∀s∈bQ (cR d σ) l,S s/\g s=σ s)->bE ρ (bC C0 B w ρ g) l vs->bK T m vs:=by
   intro l m vs h hr hv;obtain⟨h1,h2⟩:=o6 h;refine bK.of _ _ (by rw[<-h1];exact hv.length) λi y hi=> ?_;have hlt:i<l.length:=by rw[h1];grind
   obtain⟨y',h3,h4⟩:=h2 i l[i] (by grind);rw[hi]at h3;cases h3;obtain⟨v,h5,h6⟩:=hv.get _ _ i l[i] (by grind);exact⟨v,h5,ih _ _ v h4 (λs hs'=>hr s (ol (by grind) hs')) h6⟩
  have ihC:∀(s b c:Nat) (ob:Ob) (m:List PV),S s->g s=some ob->ρ s=some (some b,c)->dr (dL d σ) ob.cells=some m->(∀s∈bQ (cR d σ) ob.cells,S s/\g s=σ s)->dA T m b 0:=by
   intro s b c ob m hS h1 h2 h3 h4;obtain⟨hBb,arr,hO⟩:=hs.at h1 h2;obtain⟨g1,g2⟩:=o6 h3;refine dA.of _ _ _ λi y hi=> ?_;have hlt:i<ob.cells.length:=by rw[g1];grind
   obtain⟨y',h5,h6⟩:=g2 i ob.cells[i] (by grind);rw[hi]at h5;cases h5;obtain⟨v,k1,k2,k3⟩:=hO.cells i ob.cells[i] (by grind);refine⟨v,?_,k2,ih _ _ v h6 (λs hs'=>h4 s (ol (by grind) hs')) k3⟩;refine hT s ob b c hS h1 h2 hBb _ _ ?_;rw[kN,hO.cell];exact k1
  intro x y v h hr hx;unfold dL at h;split at h
  .cases h;exact aY.mono hfull _ v hx
  .cases h;unfold aR at hx;unfold aY;grind
  .rename_i σ _ _ _ d' s o m e;cases e;simp only[rD,mW]at h;obtain⟨ob,h1,l,h2,rfl⟩:=h;have hg:g s=some ob:=(hr s (by simp[cR])).2.trans h1;have hSs:=(hr s (by simp[cR])).1;have hr2:∀s'∈bQ (cR d σ) ob.cells,S s'/\g s'=σ s':=λs' hs'=>hr s' (by simp only[cR,h1];grind);unfold aY;obtain⟨q,c,hq,⟨rfl,hv,rfl,rfl⟩|⟨b,o',c',rfl,hv,h5,h6,h7⟩⟩:=hx
   .grind
   .refine⟨_,c',hv,h5,(by grind),λad e=> ?_⟩;cases e;by_cases hm:m=0
    .subst hm;simp;trivial
    .have e:=h6 hm;have:=((ihC s b c ob l hSs hg hq h2 hr2).drop o').take (m*ob.esz);grind
  .rename_i σ _ _ _ d' s off e;simp only[rD,mW]at h;obtain⟨ob,h1,l,h2,rfl⟩:=h;have hg:g s=some ob:=(hr s (by simp[cR])).2.trans h1;have hSs:=(hr s (by simp[cR])).1;have hr2:∀s'∈bQ (cR d σ) ob.cells,S s'/\g s'=σ s':=λs' hs'=>hr s' (by simp only[cR,h1];grind);unfold aR at hx;unfold aY;grind
  .rename_i d' l e;cases e;simp only[mW]at h;obtain⟨m,h2,rfl⟩:=h;obtain⟨vs,h3,h4,h5⟩:=hx;exact⟨vs,h3,ihL l m vs h2 (λs hs'=>hr s hs') h4,h5⟩
  .rename_i d' f a b e;cases e;simp only[rD,mW]at h;obtain⟨x1,h1,x2,h2,rfl⟩:=h;obtain⟨vs1,vs2,h3,h4,h5⟩:=hx;exact⟨vs1,vs2,h3,ihL a x1 vs1 h1 (λs hs'=>hr s (ig _ hs')) h4,ihL b x2 vs2 h2 (λs hs'=>hr s (gq _ hs')) h5⟩
  .cases h
def kE(P:Program)(f:FuncId):Bool:=((P.funcs[f]?).map λfn=> !(fn.name== "runtime.NumGoroutine")&& !fn.body.isNone).getD false
def Sat(P:Program)(fr:Bool)(f:FuncId)(A:List PV)(r:PV):Prop:=kE P f=true/\
 ∀(C:bG) (w:World) (vs:List Value),(∀b o v,C b o v->w.cell? ⟨b,o,none⟩=some v)->bK C A vs->
  Calls P f vs.toArray w λe w'=>∃v,e= .returned v/\aY (λb o x=>(fr=false/\C b o x)\/(w.heap.size<=b/\w'.cell? ⟨b,o,none⟩=some x)) r v/\Below w.heap.size w w'
def l5{f:FuncId}(h:kE P f=true)(args:Array Value)(w:World):(callFunc f args).run P w= .ok (.enter f args) w:=by
 unfold kE at h;cases hf:P.funcs[f]? with
 |none=>grind
 |some fn=>
  rw[hf]at h;simp only[eJ,lz,bj,zP]at h;simp only[callFunc,cr,run_program,dB,hf,h.1,h.2,lN,if_false,da]
structure Lent(C:bG)(w:World)(b c:Nat)(ty:TypeId)(esz:Nat)(cells:List PV)(arr:Array Value):Prop where
 blk:w.heap[b]? =some (.cells arr ty (0,0))
 box:esz=0->arr.size=cells.length
 row:esz≠0->arr.size=c*esz/\cells.length<=arr.size/\c<=maxLen
 cells:∀(i:Nat) x,cells[i]? =some x->∃v,arr[i]? =some v/\v.oneCell'=true/\aY C x v
def Qc(n:Option Nat)(b c:Nat):Value:=match n with
 |none=> .pointer (some ⟨b,0,none⟩)
 |some n=> .slice (some ⟨b,0,none⟩) n c
def nI(P:Program)(f:FuncId)(n:Option Nat)(A:List PV)(ty:TypeId)(esz:Nat)(cells cells':List PV):Prop:=kE P f=true/\cells'.length=cells.length/\
 (∀(C:bG) (w:World) (b c:Nat) (arr:Array Value) (vs:List Value),(∀b' o v,C b' o v->w.cell? ⟨b',o,none⟩=some v/\b'≠b)->Lent C w b c ty esz cells arr->(∀m,n=some m->m<=c)->bK C A vs->
   Calls P f (Qc n b c::vs).toArray w λe w'=>∃arr',e= .returned Go.undef/\Lent C w' b c ty esz cells' arr'/\w.grownBy w' (some b))/\
 (n=some 0->∀(C:bG) (w:World) (vs:List Value),(∀b' o v,C b' o v->w.cell? ⟨b',o,none⟩=some v)->bK C A vs->
   Calls P f (.slice none 0 0::vs).toArray w λe w'=>e= .returned Go.undef/\Below w.heap.size w w')
def Gk(P:Program)(σ:Nat->Option Ob)(f:FuncId)(avs:List AV)(K:Res):Prop:=match avs with
 | .ptr s 0::rest=>∃ty cells,σ s=some ⟨ty,0,cells.map .p⟩/\∃A cells',bT rest=some A/\nI P f none A ty 0 cells cells'/\K .undef [s] [(s,some ⟨ty,0,cells'.map .p⟩)]
 | .own s 0 n::rest=>∃ty esz cells,σ s=some ⟨ty,esz,cells.map .p⟩/\esz≠0/\∃A cells',bT rest=some A/\nI P f (some n) A ty esz cells cells'/\K .undef [s] [(s,some ⟨ty,esz,cells'.map .p⟩)]
 |_=>False
def aAH(P:Program)(σ:Nat->Option Ob)(f:FuncId)(avs:List AV)(K:Res):Prop:=
 ∃A,dr (dL 3 σ) avs=some A/\∃fr r,Sat P fr f A r/\(((fr=true\/bT avs=some A)/\K (.p r) (bQ (cR 3 σ) avs) [])\/K (.p r) (bQ (cR 3 σ) avs) ((bQ (cR 3 σ) avs).map (·,none)))
def qU(P:Program)(σ:Nat->Option Ob)(f:FuncId)(avs:List AV)(K:Res):Prop:=aAH P σ f avs K\/Gk P σ f avs K
def Cn(P:Program)(σ:Nat->Option Ob)(fv:AV)(args:List AV)(K:Res):Prop:=match fv with
 | .fn (.func f) first caps=>qU P σ f (first++args++caps) K
 | .p (.fn (.func f) first caps)=>qU P σ f (first.map .p++args++caps.map .p) K
 |_=>False
variable {o:Oper} {E:Operand->AV} {σ:Nat->Option Ob} {n:Nat}
def bE.append{ρ:Ren}{C:bG}{l m:List AV}{vs us:List Value}(h:bE ρ C l vs)(k:bE ρ C m us):bE ρ C (l++m) (vs++us):=
 bE.of _ _ (by simp[h.length,k.length]) λi x hi=>by
  have hl:=h.length;by_cases hlt:i<l.length
  .rw[oU hlt]at hi;rw[oU (by omega)];exact h.get _ _ i x hi
  .rw[lO (by omega)]at hi;rw[lO (by omega),hl];exact k.get _ _ _ x hi
def MB{s n0:Nat}{nn:Option Nat}{f:FuncId}{A:List PV}{ty esz:Nat}{cells cells':List PV}(hob:σ s=some ⟨ty,esz,cells.map .p⟩)(hS:nI P f nn A ty esz cells cells')
  (hkind:(nn=none/\esz=0)\/(nn=some n0/\esz≠0))
  (hrun:∀(ρ:Ren) (C:bG) (V:Nat->Value) (w:World),(∀x∈o.op.operands.toList,aR ρ C (E x) (bJ V x))->∃v us,(execOp (bJ V) o).run P w= .ok (.enter f (v::us).toArray) w/\bK C A us/\
    aR ρ C (match nn with|none=> .ptr s 0|some n0=> .own s 0 n0) v):bW P o E σ n .undef [s] [(s,some ⟨ty,esz,cells'.map .p⟩)] :=by
 obtain⟨_,hlen,hcall,hnil⟩:=hS;intro C0 ρ g V w B hs hB hR hn hgn hE;obtain⟨v,us,hr,hA,hv⟩:=hrun ρ _ V w hE;have hgs:g s=some ⟨ty,esz,cells.map .p⟩:=by grind
 unfold cQ;rw[hr];dsimp only;have hlk:∀s',s'≠s->[(s,some (⟨ty,esz,cells'.map .p⟩:Ob))].lookup s'=none:=by intro s' hs';simp[iU,beq_eq_false_iff_ne.2 hs']
 have hup:∀s',s'≠s->az g [(s,some ⟨ty,esz,cells'.map .p⟩)] s'=g s':=by intro s' hs';unfold az;rw[hlk s' hs']
 have hat:∀s' o',[(s,some (⟨ty,esz,cells'.map .p⟩:Ob))].lookup s'=some (some o')->s'=s/\o'=⟨ty,esz,cells'.map .p⟩:=by
  intro s' o' e;have e1:s'=s:=by
   rcases p9 s' s with h|h
   .grind
   .exact h
  subst e1;simp[iU]at e;exact⟨rfl,e.symm⟩
 have hlt:∀s ob b c,g s=some ob->ρ s=some (some b,c)->b<w.heap.size:=by intro s ob b c e1 e2;obtain⟨_,arr,e3⟩:=hs.at e1 e2;exact e3.lt
 have real:∀b c,ρ s=some (some b,c)->v=Qc nn b c->(∀m,nn=some m->m<=c)->
   Calls P f (v::us).toArray w λe w''=>∃v,e= .returned v/\∃ρ':Ren,(∀s,cls s≠n->ρ' s=ρ s)/\(∀b o' x,bC C0 B w ρ g b o' x->bC C0 B w'' ρ' (az g [(s,some ⟨ty,esz,cells'.map .p⟩)]) b o' x)/\
    StR C0 ρ' (az g [(s,some ⟨ty,esz,cells'.map .p⟩)]) w'' B/\aR ρ' (bC C0 B w'' ρ' (az g [(s,some ⟨ty,esz,cells'.map .p⟩)])) .undef v/\Below B w w'':=by
  intro b c hρ hv hnc;obtain⟨hBb,arr,hO⟩:=hs.at hgs hρ;subst hv;have hL:Lent (bC C0 B w ρ g) w b c ty esz cells arr:=by refine⟨hO.blk,λh=>by simpa using hO.box h,λh=>by simpa using hO.row h,λi x hi=> ?_⟩;obtain⟨u,h1,h2,h3⟩:=hO.cells i (.p x) (by grind);unfold aR at h3;grind
  refine(hcall _ w b c arr us (λb' o' x hx=>⟨hx.1,λe=>by subst e;have:=hx.2.1 s c hρ;grind⟩) hL hnc hA).mono ?_;rintro e w' ⟨arr',rfl,hL',hG⟩;have hold:∀k,k<w.heap.size->k≠b->w'.heap[k]? =w.heap[k]? :=λk h1 h2=>hG.block k h1 (by grind);have hmono:∀b' o' x,bC C0 B w ρ g b' o' x->bC C0 B w' ρ (az g [(s,some ⟨ty,esz,cells'.map .p⟩)]) b' o' x:=by
   intro b' o' x ⟨e1,e2,e0⟩;have hne:b'≠b:=λe=>by grind
   refine⟨(je (hold b' (kO w ⟨b',o',none⟩ e1) hne)).trans e1,?_,e0⟩;intro s' c' e3;by_cases e:s'=s
   .grind
   .grind
  refine⟨_,rfl,ρ,λ_ _=>rfl,hmono,?_,by rfl,⟨hG.os,hG.tape,hG.output,hG.size,by grind⟩⟩;refine hs.step (by grind) (λ_ _ h=>h) hmono ?_ ?_ λk es clock hk=>hold k (tk hk) (vm hk hO.blk)
  .intro s' o' b' c' e1 e2 e3;refine hold b' (by grind) λe=> ?_;subst e;have:=hs.inj s s' _ o' b' c c' hgs e2 hρ e3;grind
  .intro s' o' e;obtain⟨rfl,rfl⟩:=hat s' o' e;refine⟨some b,c,hρ,.inr ⟨b,arr',rfl,hBb,⟨hL'.blk,λh=>by simpa using hL'.box h,λh=>by simpa using hL'.row h,?_⟩,?_⟩⟩
   .intro i x hi;rw[gr]at hi;cases hc:cells'[i]? with
    |none=>grind
    |some y=>
     rw[hc]at hi;simp only[eJ,fg]at hi;subst hi;obtain⟨u,h1,h2,h3⟩:=hL'.cells i y hc;exact⟨u,h1,h2,by exact aY.mono hmono y u h3⟩
   .intro s2 o' c' hne e3 e4;rw[hup s2 hne]at e3;exact hne (hs.inj s' s2 _ o' b c c' hgs e3 hρ e4).symm
 rcases hkind with⟨rfl,he⟩|⟨rfl,he⟩
 .obtain⟨b,c,hρ,hv⟩:=hv;exact real b c hρ hv (by grind)
 .obtain⟨q,c,hρ,⟨rfl,hv,rfl,_⟩|⟨b,o',c',rfl,hv,h5,h6,h7⟩⟩:=hv
  .subst hv;have hcn:cells'=[] :=by
    obtain⟨q,c2,h1,⟨_,h2|h2⟩|⟨b,arr,h2,_⟩⟩:=hs.ob s _ hgs
    rotate_left
    .grind
    rotate_left
    .have:(cells.map AV.p)=[] :=h2.2.1;have:cells.length=0:=by simpa using congrArg eQ this
     grind
    .grind
   refine(hnil rfl _ w us (λb' o' x hx=>hx.1) hA).mono ?_;rintro e w' ⟨rfl,hb⟩;have hold:∀k,k<w.heap.size->w'.heap[k]? =w.heap[k]? :=λk hk=>hb.block k hk;have hmono:∀b' o' x,bC C0 B w ρ g b' o' x->bC C0 B w' ρ (az g [(s,some ⟨ty,esz,cells'.map .p⟩)]) b' o' x:=by
    intro b' o' x ⟨e1,e2,e0⟩;refine⟨(je (hold b' (kO w ⟨b',o',none⟩ e1))).trans e1,?_,e0⟩;intro s' c' e3;by_cases e:s'=s
    .grind
    .grind
   refine⟨_,rfl,ρ,λ_ _=>rfl,hmono,?_,by rfl,hb.mono hB⟩;refine hs.step (by grind) (λ_ _ h=>h) hmono (by grind) ?_ (by grind);intro s' o' e;obtain⟨rfl,rfl⟩:=hat s' o' e;obtain⟨q,c2,h1,⟨_,h2|h2⟩|⟨b,arr,h2,_⟩⟩:=hs.ob s' _ hgs
   .grind
   .grind
   grind
  .obtain⟨rfl,rfl⟩:=h7 rfl;exact real b c' hρ hv (by grind)
def Xo{c:Call}{f:Operand}{fid:FuncId}{first caps:List AV}(hfm:f∈o.op.operands.toList)(ham:∀x∈c.args.toList,x∈o.op.operands.toList)(ho:o.op= .call c)(hc:c.callee= .value f)
  (hfv:∀ρ C v,aR ρ C (E f) v->∃vs1 vs2:List Value,v= .func (.func fid) vs1.toArray vs2.toArray/\bE ρ C first vs1/\bE ρ C caps vs2) {K:Res}
  (h:Gk P σ fid (first++c.args.toList.map E++caps) K):∃r R W,bW P o E σ n r R W/\K r R W:=by
 have hrun:kE P fid=true->∀(ρ:Ren) (C:bG) (V:Nat->Value) (w:World),(∀x∈o.op.operands.toList,aR ρ C (E x) (bJ V x))->∃us,(execOp (bJ V) o).run P w= .ok (.enter fid us.toArray) w/\bE ρ C (first++c.args.toList.map E++caps) us:=by
  intro hok ρ C V w hE;obtain⟨vs1,vs2,hv,q1,q2⟩:=hfv _ _ _ (hE f hfm);have hargs:∀l:List Operand,(∀x∈l,x∈o.op.operands.toList)->bE ρ C (l.map E) (l.map (bJ V)):=by
   intro l;induction l with
   |nil=>intro _;rfl
   |cons x l ih=>
    unfold bE;grind
  refine⟨vs1++c.args.toList.map (bJ V)++vs2,?_,(q1.append (hargs _ ham)).append q2⟩;unfold execOp;rw[ho];have e2:vs1.toArray++uc (bJ V) c.args++vs2.toArray=(vs1++c.args.toList.map (bJ V)++vs2).toArray:=by apply p8.1;simp
  simp only[resolve,hc,hv,ud,cr,da,dB,invoke,l5 hok,e2]
 generalize first++c.args.toList.map E++caps=avs at h hrun
 unfold Gk at h;split at h
 .obtain⟨ty,cells,hob,A,cells',hA,hS,hK⟩:=h;refine⟨_,_,_,MB (n0:=0) hob hS (by grind) ?_,hK⟩;intro ρ C V w hE;obtain⟨us,h1,h2⟩:=hrun hS.1 ρ C V w hE;obtain⟨v,r,rfl,h3,h4⟩:=h2;exact⟨v,r,h1,rW hA h4,h3⟩
 .rename_i s k rest;obtain⟨ty,esz,cells,hob,he,A,cells',hA,hS,hK⟩:=h;refine⟨_,_,_,MB (n0:=k) hob hS (by grind) ?_,hK⟩;intro ρ C V w hE;obtain⟨us,h1,h2⟩:=hrun hS.1 ρ C V w hE;obtain⟨v,r,rfl,h3,h4⟩:=h2;exact⟨v,r,h1,rW hA h4,h3⟩
 grind
def ZZ{c:Call}{f:Operand}(ho:o.op= .call c)(hc:c.callee= .value f){K:Res}(h:Cn P σ (E f) (c.args.toList.map E) K):∃r R W,bW P o E σ n r R W/\K r R W:=by
 have hfm:f∈o.op.operands.toList:=by rw[ho];simp[ce,ju,hc]
 have ham:∀x∈c.args.toList,x∈o.op.operands.toList:=by intro x hx;rw[ho];simp[ce,ju];exact .inr (by grind)
 have key:∀(fid:FuncId) (first caps:List AV),(∀ρ C v,aR ρ C (E f) v->∃vs1 vs2:List Value,v= .func (.func fid) vs1.toArray vs2.toArray/\bE ρ C first vs1/\bE ρ C caps vs2)->
   qU P σ fid (first++c.args.toList.map E++caps) K->∃r R W,bW P o E σ n r R W/\K r R W:=by
  intro fid first caps hfv hgo
  refine Or.elim hgo ?_ (λhgo=>Xo hfm ham ho hc hfv hgo);rintro⟨A,hA,fr,r,hsat,hcase⟩;have sim:∀W:List (Nat×Option Ob),(W=[]/\(fr=true\/bT (first++c.args.toList.map E++caps)=some A))\/W=(bQ (cR 3 σ) (first++c.args.toList.map E++caps)).map (·,none)->bW P o E σ n (.p r) (bQ (cR 3 σ) (first++c.args.toList.map E++caps)) W:= ?_
  .grind
  intro W hW;intro C0 ρ g V w B hs hB hR hn hgn hE;obtain⟨vs1,vs2,hv,q1,q2⟩:=hfv _ _ _ (hE f hfm);have hargs:∀l:List Operand,(∀x∈l,x∈o.op.operands.toList)->bE ρ (bC C0 B w ρ g) (l.map E) (l.map (bJ V)):=by
   intro l;induction l with
   |nil=>intro _;rfl
   |cons x l ih=>
    unfold bE;grind
  have hall:=(q1.append (hargs _ ham)).append q2;obtain⟨hok,hcalls⟩:=hsat;have hrun:(execOp (bJ V) o).run P w= .ok (.enter fid (vs1++c.args.toList.map (bJ V)++vs2).toArray) w:=by
   unfold execOp;rw[ho];have e2:vs1.toArray++uc (bJ V) c.args++vs2.toArray=(vs1++c.args.toList.map (bJ V)++vs2).toArray:=by apply p8.1;simp
   simp only[resolve,hc,hv,ud,cr,da,dB,invoke,l5 hok,e2]
  have hlive:∀s ob b c,g s=some ob->ρ s=some (some b,c)->b<w.heap.size:=by intro s ob b c e1 e2;obtain⟨_,arr,e3⟩:=hs.at e1 e2;exact e3.lt
  have hnone:∀s x,W.lookup s=some x->W.lookup s=some none:=by
   intro s x h;rcases hW with⟨rfl,_⟩|rfl
   .simp at h
   .have key:∀l:List Nat,(l.map (·,(none:Option Ob))).lookup s=some x->x=none:=by
     intro l;induction l with
     |nil=>grind
     |cons k l ih=>
      grind
    grind
  have hdrop:∀b o' x,bC C0 B w ρ g b o' x->bC C0 B w ρ (az g W) b o' x:=by
   intro b o' x ⟨e1,e2,e0⟩;refine⟨e1,λs c' e3=> ?_,e0⟩;unfold az;split
   .grind
   .grind
  unfold cQ;rw[hrun];dsimp only;have fin:∀(C:bG),(∀b o v,C b o v->w.cell? ⟨b,o,none⟩=some v)->bK C A (vs1++c.args.toList.map (bJ V)++vs2)->(fr=false->∀b o v,C b o v->bC C0 B w ρ (az g W) b o v)->
    Calls P fid (vs1++c.args.toList.map (bJ V)++vs2).toArray w λe w''=>∃v,e= .returned v/\∃ρ':Ren,(∀s,cls s≠n->ρ' s=ρ s)/\(∀b o' x,bC C0 B w ρ g b o' x->bC C0 B w'' ρ' (az g W) b o' x)/\StR C0 ρ' (az g W) w'' B/\aR ρ' (bC C0 B w'' ρ' (az g W)) (.p r) v/\Below B w w'':=by
   intro C hC hrep hCC;refine(hcalls C w _ hC hrep).mono ?_;rintro e w' ⟨v,rfl,hr,hbel⟩;have hold:∀b,b<w.heap.size->w'.heap[b]? =w.heap[b]? :=λb hb=>hbel.block b hb;have hmono:∀b o' x,bC C0 B w ρ (az g W) b o' x->bC C0 B w' ρ (az g W) b o' x:=by intro b o' x ⟨e1,e2,e0⟩;exact⟨(je (hold b (kO w ⟨b,o',none⟩ e1))).trans e1,e2,e0⟩
   refine⟨v,rfl,ρ,λ_ _=>rfl,by grind,?_,?_,hbel.mono hB⟩
   .refine hs.step (by grind) (λ_ _ h=>h) (by grind) ?_ (by grind) (by grind);grind
   .refine aY.mono ?_ r v hr;rintro b o' x (⟨h1,h2⟩|⟨h1,h2⟩)
    .grind
    .refine⟨h2,?_,by grind⟩;intro s c' e3;unfold az;split
     .grind
     .cases hgs:g s with
      |none=>rfl
      |some ob=>grind
  have hsnap:∀(T:bG),(∀b o v,bC C0 B w ρ g b o v->T b o v)->(∀s ob b c2,s∈bQ (cR 3 σ) (first++c.args.toList.map E++caps)->g s=some ob->ρ s=some (some b,c2)->B<=b->∀o v,w.cell? ⟨b,o,none⟩=some v->T b o v)->
    bK T A (vs1++c.args.toList.map (bJ V)++vs2):=by
   intro T hT1 hT2;obtain⟨g1,g2⟩:=o6 hA;refine bK.of _ _ (by rw[<-g1];exact hall.length) λi y hi=> ?_;have hlt:i<(first++c.args.toList.map E++caps).length:=by rw[g1];grind
   obtain⟨y',h5,h6⟩:=g2 i _ (dw hlt);rw[hi]at h5;cases h5;obtain⟨v,k1,k2⟩:=hall.get _ _ i _ (dw hlt);exact⟨v,k1,FW hs T (λs=>s∈bQ (cR 3 σ) (first++c.args.toList.map E++caps)) hT1 hT2 3 _ _ v h6 (λs hs'=>⟨ol (by grind) hs',hR s (ol (by grind) hs')⟩) k2⟩
  rcases hW with⟨rfl,h⟩|rfl
  .cases fr with
   |true=>exact fin (aCm C0 B w) (λb o v h=>h.1) (hsnap _ (λb o v h=>⟨h.1,h.2.2⟩) (λs ob b c _ _ _ hb o v h=>⟨h,.inl hb⟩)) (by grind)
   |false=>
    rcases h with h|h
    .cases h
    .exact fin (bC C0 B w ρ g) (λb o v h=>h.1) (rW h hall) (by grind)
  .refine fin (bC C0 B w ρ (az g ((bQ (cR 3 σ) (first++c.args.toList.map E++caps)).map (·,none)))) (λb o v h=>h.1) (hsnap _ hdrop ?_) (by grind);intro s ob b c' hsm e1 e2 hb o' v e3;have hmem:∀l:List Nat,s∈l->(l.map (·,(none:Option Ob))).lookup s=some none:=by
    intro l;induction l with
    |nil=>grind
    |cons k l ih=>
     grind
   refine⟨e3,λs' c2 e4=> ?_,.inl hb⟩;unfold az;split
   .grind
   .cases hg':g s' with
    |none=>rfl
    |some ob'=>
     have:=hs.inj s s' ob ob' b c' c2 e1 hg' e2 e4;grind
 unfold Cn at h;split at h
 .rename_i fid first caps e
  refine key fid first caps (λρ C v hv=> ?_) h
  rw[e]at hv;exact hv
 .rename_i fid first caps e
  refine key fid _ _ (λρ C v hv=> ?_) h;rw[e]at hv;obtain⟨vs1,vs2,h1,h2,h3⟩:=hv;exact⟨vs1,vs2,h1,h2.toA,h3.toA⟩
 grind
end
def zA(v:Value)(us:List Value):Value:=match us with
 |[] =>v
 |us=> .tuple (v::us).toArray
def pT(C:bG)(N:Nat)(q:Option Nat)(w':World):bG:=λb o x=>C b o x\/(N<=b/\q≠some b/\w'.cell? ⟨b,o,none⟩=some x)
def wg(P:Program)(f:FuncId)(A:List PV)(ty esz:Nat)(cells:List PV)(m:Nat)(ys:List PV):Prop:=kE P f=true/\esz≠0/\
 ∀(C:bG) (w:World) (vs:List Value),(∀b o v,C b o v->w.cell? ⟨b,o,none⟩=some v)->bK C A vs->
  Calls P f vs.toArray w λe w'=>∃v us q c,e= .returned (zA v us)/\Below w.heap.size w w'/\bK (pT C w.heap.size q w') ys us/\
   ((q=none/\v= .slice none 0 0/\m=0/\cells=[]/\c=0)\/∃b arr,q=some b/\v= .slice (some ⟨b,0,none⟩) m c/\m<=c/\w.heap.size<=b/\w'.heap[b]? =some (.cells arr ty (0,0))/\
     arr.size=c*esz/\cells.length<=arr.size/\c<=maxLen/\∀(i:Nat) x,cells[i]? =some x->∃u,arr[i]? =some u/\u.oneCell'=true/\aY (pT C w.heap.size q w') x u)
def Cw(n m:Nat)(ys:List PV):AV:=match ys with
 |[] => .own (sit n 0) 0 m
 |ys=> .tup (.own (sit n 0) 0 m::ys.map .p)
def Ih(P:Program)(f:FuncId)(A:List PV)(ty esz:Nat)(cells:List PV)(m:Nat)(ys:List PV):Prop:=kE P f=true/\esz≠0/\
 ∀(C:bG) (w:World) (vs:List Value),(∀b o v,C b o v->w.cell? ⟨b,o,none⟩=some v)->bK C A vs->
  Calls P f (Value.slice none 0 0::vs).toArray w λe w'=>∃v us q c,e= .returned (zA v us)/\Below w.heap.size w w'/\bK (pT C w.heap.size q w') ys us/\
   ((q=none/\v= .slice none 0 0/\m=0/\cells=[]/\c=0)\/∃b arr,q=some b/\v= .slice (some ⟨b,0,none⟩) m c/\m<=c/\w.heap.size<=b/\w'.heap[b]? =some (.cells arr ty (0,0))/\
     arr.size=c*esz/\cells.length<=arr.size/\c<=maxLen/\∀(i:Nat) x,cells[i]? =some x->∃u,arr[i]? =some u/\u.oneCell'=true/\aY (pT C w.heap.size q w') x u)
def Bj(P:Program)(n:Nat)(f:FuncId)(avs:List AV)(K:Res):Prop:=
 ∃A ty esz cells m ys,((bT avs=some A/\wg P f A ty esz cells m ys)\/∃r,avs= .nil::r/\bT r=some A/\Ih P f A ty esz cells m ys)/\K (Cw n m ys) [] [(sit n 0,some ⟨ty,esz,cells.map .p⟩)]
def Cm(P:Program)(n:Nat)(fv:AV)(args:List AV)(K:Res):Prop:=match fv with
 | .fn (.func f) first caps=>Bj P n f (first++args++caps) K
 | .p (.fn (.func f) first caps)=>Bj P n f (first.map .p++args++caps.map .p) K
 |_=>False
section
variable {P:Program} {o:Oper} {E:Operand->AV} {σ:Nat->Option Ob} {n:Nat}
def bK.Qa{ρ:Ren}{C:bG}:∀{l:List PV} {vs:List Value},bK C l vs->bE ρ C (l.map .p) vs
 |[],vs,h=>by exact h
 |x::l,vs,h=>by
  obtain⟨v,r,rfl,h2,h3⟩:=h;exact⟨v,r,rfl,by exact h2,bK.Qa h3⟩
def Xn{c:Call}{f:Operand}(ho:o.op= .call c)(hc:c.callee= .value f){K:Res}(h:Cm P n (E f) (c.args.toList.map E) K):∃r R W,bW P o E σ n r R W/\K r R W:=by
 have hfm:f∈o.op.operands.toList:=by rw[ho];simp[ce,ju,hc]
 have ham:∀x∈c.args.toList,x∈o.op.operands.toList:=by intro x hx;rw[ho];simp[ce,ju];exact .inr (by grind)
 have key:∀(fid:FuncId) (first caps:List AV),(∀ρ C v,aR ρ C (E f) v->∃vs1 vs2:List Value,v= .func (.func fid) vs1.toArray vs2.toArray/\bE ρ C first vs1/\bE ρ C caps vs2)->
   Bj P n fid (first++c.args.toList.map E++caps) K->∃r R W,bW P o E σ n r R W/\K r R W:=by
  intro fid first caps hfv ⟨A,ty,esz,cells,m,ys,hA,hK⟩
  obtain⟨hok,he,hcalls⟩:kE P fid=true/\esz≠0/\∀(ρ:Ren) (C:bG) (w:World) (vs:List Value),(∀b o v,C b o v->w.cell? ⟨b,o,none⟩=some v)->bE ρ C (first++c.args.toList.map E++caps) vs->
   Calls P fid vs.toArray w λe w'=>∃v us q c,e= .returned (zA v us)/\Below w.heap.size w w'/\bK (pT C w.heap.size q w') ys us/\
    ((q=none/\v= .slice none 0 0/\m=0/\cells=[]/\c=0)\/∃b arr,q=some b/\v= .slice (some ⟨b,0,none⟩) m c/\m<=c/\w.heap.size<=b/\w'.heap[b]? =some (.cells arr ty (0,0))/\
      arr.size=c*esz/\cells.length<=arr.size/\c<=maxLen/\∀(i:Nat) x,cells[i]? =some x->∃u,arr[i]? =some u/\u.oneCell'=true/\aY (pT C w.heap.size q w') x u):=by
   rcases hA with⟨hA,h1,h2,h3⟩|⟨r,hr,hA,h1,h2,h3⟩
   .exact⟨h1,h2,λρ C w vs hC h=>h3 C w vs hC (rW hA h)⟩
   .refine⟨h1,h2,λρ C w vs hC h=> ?_⟩;rw[hr]at h;obtain⟨v,vs',rfl,h4,h5⟩:=h;subst h4;exact h3 C w vs' hC (rW hA h5)
  refine⟨_,_,_,?_,hK⟩;intro C0 ρ g V w B hs hB hR hn hgn hE;have hn:=hn _ (iW n 0);have hgn:=hgn _ (iW n 0);have hcl:∀s,cls s≠n->s≠sit n 0:=λs h e=>h (by rw[e];exact iW n 0);obtain⟨vs1,vs2,hv,q1,q2⟩:=hfv _ _ _ (hE f hfm);have hargs:∀l:List Operand,(∀x∈l,x∈o.op.operands.toList)->bE ρ (bC C0 B w ρ g) (l.map E) (l.map (bJ V)):=by
   intro l;induction l with
   |nil=>intro _;rfl
   |cons x l ih=>
    unfold bE;grind
  have hall:=(q1.append (hargs _ ham)).append q2;have hrun:(execOp (bJ V) o).run P w= .ok (.enter fid (vs1++c.args.toList.map (bJ V)++vs2).toArray) w:=by
   unfold execOp;rw[ho];have e2:vs1.toArray++uc (bJ V) c.args++vs2.toArray=(vs1++c.args.toList.map (bJ V)++vs2).toArray:=by apply p8.1;simp
   simp only[resolve,hc,hv,ud,cr,da,dB,invoke,l5 hok,e2]
  have hlive:∀s ob b c,g s=some ob->ρ s=some (some b,c)->b<w.heap.size:=by intro s ob b c e1 e2;obtain⟨_,arr,e3⟩:=hs.at e1 e2;exact e3.lt
  unfold cQ;rw[hrun];dsimp only;refine(hcalls ρ (bC C0 B w ρ g) w _ (λb o v h=>h.1) hall).mono ?_;rintro e w' ⟨v,us,q,c,rfl,hbel,hys,hrow⟩;have hqb:∀b,q=some b->w.heap.size<=b:=by
   intro b hb;rcases hrow with⟨h1,_⟩|⟨b',arr,h1,_,_,h4,_⟩
   .grind
   .grind
  have hold:∀b,b<w.heap.size->w'.heap[b]? =w.heap[b]? :=λb hb=>hbel.block b hb;unfold Cw;generalize hnS:sit n 0=nS at*
  let ρ':Ren:=λs=>if s=nS then some (q,c)else ρ s
  have hρn:ρ' nS=some (q,c):=if_pos rfl;have hρs:∀s,s≠nS->ρ' s=ρ s:=by grind
  have hup:∀s,s≠nS->az g [(nS,some ⟨ty,esz,cells.map .p⟩)] s=g s:=by intro s h;unfold az;simp[iU,beq_eq_false_iff_ne.2 h]
  have hmono:∀b o' x,bC C0 B w ρ g b o' x->bC C0 B w' ρ' (az g [(nS,some ⟨ty,esz,cells.map .p⟩)]) b o' x:=by
   intro b o' x ⟨e1,e2,e0⟩;have hlt:=kO w ⟨b,o',none⟩ e1;refine⟨(je (hold b hlt)).trans e1,λs c' e3=> ?_,e0⟩;by_cases hsn:s=nS
   .grind
   .grind
  have hkeep:∀b o' x,pT (bC C0 B w ρ g) w.heap.size q w' b o' x->bC C0 B w' ρ' (az g [(nS,some ⟨ty,esz,cells.map .p⟩)]) b o' x:=by
   rintro b o' x (h1|⟨h1,h2,h3⟩)
   .grind
   .refine⟨h3,λs c' e3=> ?_,by grind⟩;by_cases hsn:s=nS
    .grind
    .rw[hup s hsn];cases hgs:g s with
     |none=>rfl
     |some ob=>grind
  refine⟨_,rfl,ρ',by grind,hmono,?_,?_,hbel.mono hB⟩
  .refine hs.step (by grind) (by grind) hmono ?_ ?_ (by grind)
   .grind
   .intro s o' hso;have hsn:s=nS:=by
     rcases p9 s nS with h|h
     .grind
     .exact h
    subst hsn;simp[iU]at hso;subst hso;refine⟨q,c,hρn,?_⟩;rcases hrow with⟨h1,h2,h3,h4,h5⟩|⟨b,arr,h1,h2,h3,h4,h5,h6,h7,h8,h9⟩
    .grind
    .refine .inr ⟨b,arr,h1,by grind,⟨h5,by grind,by grind,λi x hi=> ?_⟩,λs' o2 c' hne hg' hr'=> ?_⟩
     .rw[gr]at hi;cases hci:cells[i]? with
      |none=>grind
      |some y=>
       rw[hci]at hi;simp only[eJ,fg]at hi;subst hi;obtain⟨u,k1,k2,k3⟩:=h9 i y hci;exact⟨u,k1,k2,by exact aY.mono hkeep y u k3⟩
     grind
  .have hown:aR ρ' (bC C0 B w' ρ' (az g [(nS,some ⟨ty,esz,cells.map .p⟩)])) (.own nS 0 m) v:=by
    unfold aR;refine⟨q,c,hρn,?_⟩;rcases hrow with⟨h1,h2,h3,_⟩|⟨b,arr,h1,h2,h3,_⟩
    .grind
    .grind
   have hys2:bE ρ' (bC C0 B w' ρ' (az g [(nS,some ⟨ty,esz,cells.map .p⟩)])) (ys.map .p) us:=(bK.mono hkeep ys us hys).Qa;cases ys with
   |nil=>
    have:us=[] :=by have:=hys.length;simpa using this
    subst this;exact hown
   |cons y ys=>
    have hne:us≠[] :=λh=>by have:=hys.length;grind
    cases us with
    |nil=>grind
    |cons u us=>
     refine⟨v::u::us,rfl,?_⟩;unfold bE;grind
 unfold Cm at h;split at h
 .rename_i fid first caps e
  refine key fid first caps (λρ C v hv=> ?_) h
  rw[e]at hv;exact hv
 .rename_i fid first caps e
  refine key fid _ _ (λρ C v hv=> ?_) h;rw[e]at hv;obtain⟨vs1,vs2,h1,h2,h3⟩:=hv;exact⟨vs1,vs2,h1,h2.toA,h3.toA⟩
 grind
end
end
section
section
variable {P:Program} {o:Oper} {E:Operand->AV} {σ:Nat->Option Ob} {n:Nat}
def Qb(P:Program)(n:Nat)(t:TypeId)(x y:AV)(K:Res):Prop:=∃(k1 k2:IntKind) (m:Nat) (e:TypeId) (z:List AV) (i:TypeInfo),x= .p (.int k1 m)/\y= .p (.int k2 m)/\dI P t=some e/\P.info? e=some i/\
 qZ P e=some z/\qY P e=true/\z≠[]/\m*af P e<=1000000/\m*i.bytes<=1000000000/\K (.own (sit n 0) 0 m) [] [(sit n 0,some ⟨e,af P e,nB m z⟩)]
def Me{t e:TypeId}{i:TypeInfo}{zv:Value}{m:Nat}{k1 k2:IntKind}(he:dI P t=some e)(hi:P.info? e=some i)(hiz:i.zero=some zv)(hsz:af P e=zv.cells.size)(hpos:0<zv.cells.size)(h1:m*af P e<=1000000)(h2:m*i.bytes<=1000000000)(w:World):
  (Instr.makeSlice t (.int k1 m) (.int k2 m)).run P w= .ok (.slice (some ⟨w.heap.size,0,none⟩) m m) (w.alloc (.cells (cl m zv.cells.toList).flatten.toArray e)):=by
 have hm:m<=1000000:=by have:m<=m*af P e:=TE _ (by omega);omega
 have wl:jV.wrap (m:Int)=m:=by rw[IntKind.wrap_i64];omega
 have n1:¬(m:Int)<0:=by omega
 have n2:¬(281474976710656<(i.bytes:Int)*m):=by have h3:((m*i.bytes:Nat):Int)<=((1000000000:Nat):Int):=Int.ofNat_le.2 h2;rw[Nat.mul_comm,Int.natCast_mul]at h3;omega
 have n4:¬(m:Int)<m:=by omega
 have e3:∀w:World,(sizeOf e).run P w= .ok (af P e) w:=λw=>by simp[sizeOf,typeInfo,hi,af]
 have e4:∀w:World,(zeroValue e).run P w= .ok zv w:=λw=>by simp[zeroValue,typeInfo,hi,hiz]
 have e5:(if m*af P e=0 then #[]else(I5 (m*af P e)).map (λj=>zv.cells[j % zv.cells.size]!))=(cl m zv.cells.toList).flatten.toArray:=by
  split
  .rename_i h0;have:m=0:=by
    rcases I3.1 h0 with h|h
    .exact h
    .omega
   grind
  .rw[hsz];apply p8.1;rw[Mk zv.cells hpos m]
 rw[<-e5];by_cases h0:m*af P e=0
 .have:m=0:=by
   rcases I3.1 h0 with h|h
   .exact h
   .omega
  subst this;have w0:jV.wrap 0=0:=by simpa using wl
  simp[w0,Instr.makeSlice,asInt,asIntOf,run_underlying (mB he),typeInfo,hi,askRoom,newRow,sizeOf];grind
 .simp[Instr.makeSlice,asInt,asIntOf,run_underlying (mB he),typeInfo,hi,wl,n1,n2,n4,askRoom,e3,e4,h0,newRow]
def Yw{t:TypeId}{a b:Operand}(ho:o.op= .makeSlice t a b){K:Res}(h:Qb P n t (E a) (E b) K):∃r R W,bW P o E σ n r R W/\K r R W:=by
 obtain⟨k1,k2,m,e,z,i0,ha,hb,he,hi0,hz,hz1,hne,h1,h2,hK⟩:=h;refine⟨_,_,_,bW.alloc ?_,hK⟩;intro ρ C V w hE;obtain⟨i,zv,hi,hiz,hsz,hone,rfl⟩:=xf hz hz1;rw[hi0]at hi;cases hi;have hsize:af P e=zv.cells.size:=by simp[af,hi0,hsz]
 have hpos:0<zv.cells.size:=by
  rcases qz zv.cells.size with h|h
  .grind
  .exact h
 have hones:iD (cl m zv.cells.toList).flatten:=by intro u hu;simp only[lu,TD]at hu;obtain⟨l',⟨_,rfl⟩,hu⟩:=hu;exact hone u hu
 have va:bJ V a= .int k1 m:=by have:=hE a (by rw[ho];simp[ce]);rw[ha]at this;unfold aR at this;unfold aY at this;exact this
 have vb:bJ V b= .int k2 m:=by have:=hE b (by rw[ho];simp[ce]);rw[hb]at this;unfold aR at this;unfold aY at this;exact this
 have hlen:(cl m zv.cells.toList).flatten.length=m*af P e:=by rw[hsize];simp
 have hl2:(nB m (zv.cells.toList.map lF)).length=m*af P e:=by rw[D6,di,zU,hsize]
 refine⟨.slice (some ⟨w.heap.size,0,none⟩) m m,(cl m zv.cells.toList).flatten.toArray,m,?_,λh=>by grind,λ_=> ?_,?_,hones,λρ' C' h=> ?_⟩
 .unfold execOp;rw[ho];dsimp only;rw[va,vb];have:=Me (k1:=k1) (k2:=k2) he hi0 hiz hsize hpos h1 h2 w;simp[this]
 .refine⟨?_,?_,?_⟩
  .omega
  .grind
  .have:m<=m*af P e:=TE _ (by omega);unfold maxLen;omega
 .rw[iV (by grind)];exact Eo _ m
 .unfold aR;grind
def Dx{α:Type}(g0:Nat->Nat)(x:α)(s:Nat):∀l:List Nat,(l.map λi=>(g0 i,x)).lookup s=if s∈l.map g0 then some x else none
 |[] =>rfl
 |i::l=>by
  rw[dX,dY,Dx g0 x s l,dX];grind
def bW.fam{r:AV}{ob iob:Ob}{g0:Nat->Nat}{m0:Nat}(hi1:iob.esz≠0)(hi2:iob.cells=[])(hg0:∀i,cls (g0 i)=n)(hg1:∀i,g0 i≠sit n 0)
  (h:∀(ρ:Ren) (C:bG) (V:Nat->Value) (w:World),(∀x∈o.op.operands.toList,aR ρ C (E x) (bJ V x))->
  ∃v arr c,(execOp (bJ V) o).run P w= .ok (.value v) (w.alloc (.cells arr ob.ty))/\(ob.esz=0->arr.size=ob.cells.length)/\(ob.esz≠0->arr.size=c*ob.esz/\ob.cells.length<=arr.size/\c<=maxLen)/\
   iD arr.toList/\∀(ρ':Ren) (C':bG),ρ' (sit n 0)=some (some w.heap.size,c)->(∀i,i<m0->ρ' (g0 i)=some (none,0))->bE ρ' C' ob.cells (arr.toList.take ob.cells.length)/\aR ρ' C' r v):
  bW P o E σ n r [] ((sit n 0,some ob)::(bM m0).map λi=>(g0 i,some iob)):=by
 intro C0 ρ g V w B hs hB _ hn hgn hE;have hcl:∀s,cls s≠n->s≠sit n 0:=λs h e=>h (by rw[e];exact iW n 0);have hcl2:∀s,s∈(bM m0).map g0->cls s=n:=by grind
 have hmem:∀i,i<m0->g0 i∈(bM m0).map g0:=by grind
 have hm:cls (sit n 0)=n:=iW n 0;generalize sit n 0=m at*;obtain⟨v,arr,c,hrun,h1,h2,h4,h5⟩:=h ρ _ V w hE;unfold cQ;rw[hrun];dsimp only;have hblk:(w.alloc (.cells arr ob.ty)).heap[w.heap.size]? =some (.cells arr ob.ty (0,0)):=heap_alloc_new w _;generalize hM:(bM m0).map g0=M at*
 let ρ':Ren:=λs=>if s=m then some (some w.heap.size,c)else if s∈M then some (none,0)else ρ s
 have hext:∀s q,ρ s=some q->ρ' s=some q:=by intro s q hq;show(if s=m then _ else _)=_;rw[if_neg (by grind),if_neg (by grind)];exact hq
 have hlt:∀s ob b c,g s=some ob->ρ s=some (some b,c)->b<w.heap.size:=by intro s ob b c e1 e2;obtain⟨_,arr,e3⟩:=hs.at e1 e2;exact e3.lt
 have hold:∀b,b<w.heap.size->(w.alloc (.cells arr ob.ty)).heap[b]? =w.heap[b]? :=λb hb=>Below.heap_alloc w _ b hb;generalize hW:((m,some ob)::(bM m0).map λi=>(g0 i,some iob))=W;have hlk:∀s,W.lookup s=if s=m then some (some ob)else if s∈M then some (some iob)else none:=by
  intro s;rw[<-hW,dY,Dx,hM];by_cases e:s=m
  .grind
  .grind
 have hup:∀s,s≠m->s∉M->az g W s=g s:=by intro s h1 h2;unfold az;rw[hlk,if_neg h1,if_neg h2]
 have hmono:∀b o' x,bC C0 B w ρ g b o' x->bC C0 B (w.alloc (.cells arr ob.ty)) ρ' (az g W) b o' x:=by
  intro b o' x ⟨e1,e2,e0⟩;have hb:b<w.heap.size:=kO w ⟨b,o',none⟩ e1;refine⟨(je (hold b hb)).trans e1,?_,e0⟩;intro s c' e3;by_cases e:s=m
  .grind
  .grind
 have k5:=λC'=>h5 ρ' C' (by simp[ρ']) (λi hi=>by grind)
 refine⟨ρ',λs hs=> ?_,hmono,?_,(k5 _).2,(Below.refl B w).alloc hB _⟩
 .grind
 refine hs.step ?_ hext hmono ?_ ?_ (by grind)
 .grind
 .grind
 .intro s ob' e;rw[hlk]at e;by_cases e1:s=m
  .rw[if_pos e1]at e;subst e1;have e2:ob'=ob:=by cases e;rfl
   subst e2;refine⟨some w.heap.size,c,by simp[ρ'],.inr ⟨w.heap.size,arr,rfl,hB,⟨hblk,h1,h2,?_⟩,?_⟩⟩
   .intro i x hi;obtain⟨u,g1,g2⟩:=(k5 _).1.get _ _ i x hi;rw[pp]at g1;split at g1
    .exact⟨u,by grind,h4 u (by grind),g2⟩
    .cases g1
   grind
  .rw[if_neg e1]at e;by_cases e':s∈M
   .rw[if_pos e']at e;cases e;exact⟨none,0,by grind,by grind⟩
   grind
def Pm(P:Program)(n:Nat)(t:TypeId)(x y:AV)(K:Res):Prop:=∃(g0:Nat->Nat) (ity:TypeId) (wd:Nat) (k1 k2:IntKind) (m:Nat) (e:TypeId) (i:TypeInfo),x= .p (.int k1 m)/\y= .p (.int k2 m)/\dI P t=some e/\P.info? e=some i/\
 qZ P e=some [.nil]/\qY P e=true/\wd≠0/\(∀i,cls (g0 i)=n)/\(∀i,g0 i≠sit n 0)/\m<=1000000/\m*i.bytes<=1000000000/\
 K (.own (sit n 0) 0 m) [] ((sit n 0,some ⟨e,1,(bM m).map λj=> .own (g0 j) 0 0⟩)::(bM m).map λj=>(g0 j,some ⟨ity,wd,[]⟩))
def Ux{α:Type}(v:α):∀m,(cl m [v]).flatten=cl m v
 |0=>rfl
 |m+1=>by simp_all
def XB{t:TypeId}{a b:Operand}(ho:o.op= .makeSlice t a b){K:Res}(h:Pm P n t (E a) (E b) K):∃r R W,bW P o E σ n r R W/\K r R W:=by
 obtain⟨g0,ity,wd,k1,k2,m,e,i0,ha,hb,he,hi0,hz,hz1,hwd,hg0,hg1,h1,h2,hK⟩:=h;refine⟨_,_,_,bW.fam (iob:=⟨ity,wd,[]⟩) hwd rfl hg0 hg1 ?_,hK⟩;intro ρ C V w hE;obtain⟨i,zv,hi,hiz,hsz,hone,hzv⟩:=xf hz hz1;rw[hi0]at hi;cases hi;have hnil:zv.cells.toList=[.slice none 0 0] :=by have h3:bE ρ C (zv.cells.toList.map lF) zv.cells.toList:=un _;rw[show zv.cells.toList.map lF=[.nil]from hzv.symm]at h3;unfold bE at h3;obtain⟨v,r,h4,h5,h6⟩:=h3;unfold bE at h6;unfold aR at h5;rw[h4,h5,h6]
 have hsize:af P e=zv.cells.size:=by simp[af,hi0,hsz]
 have hs1:zv.cells.size=1:=by rw[<-zU,hnil];rfl
 have va:bJ V a= .int k1 m:=by have:=hE a (by rw[ho];simp[ce]);rw[ha]at this;unfold aR at this;unfold aY at this;exact this
 have vb:bJ V b= .int k2 m:=by have:=hE b (by rw[ho];simp[ce]);rw[hb]at this;unfold aR at this;unfold aY at this;exact this
 have hlist:(cl m zv.cells.toList).flatten=cl m (.slice none 0 0):=by rw[hnil,Ux]
 refine⟨.slice (some ⟨w.heap.size,0,none⟩) m m,(cl m zv.cells.toList).flatten.toArray,m,?_,(by grind),λ_=> ?_,?_,λρ' C' h h'=>⟨?_,?_⟩⟩
 .unfold execOp;rw[ho];dsimp only;rw[va,vb];have:=Me (k1:=k1) (k2:=k2) he hi0 hiz hsize (by omega) (by grind) h2 w;simp[this]
 .rw[hlist];refine⟨by simp,by simp,?_⟩;unfold maxLen;omega
 .intro u hu;simp only[lu,TD]at hu;obtain⟨l',⟨_,rfl⟩,hu⟩:=hu;exact hone u hu
 .rw[hlist];refine bE.of _ _ (by simp) λj x hj=> ?_;rw[gr]at hj;by_cases hjm:j<m
  .rw[List.getElem?_range hjm]at hj;unfold aR;grind
  grind
 .unfold aR;grind
end
end
abbrev Sto:=Nat->Option Ob
def AOp(P:Program)(n:Nat)(o:Oper)(E:Operand->AV)(σ:Nat->Option Ob)(K:Res):Prop:=match o.op with
 | .move x=>K (E x) [] []
 | .assign x=>K (E x) [] []\/(E x= .nil/\K (.p (.sl 0 [])) [] [])
 | .pick c a b=>v8 (E c) (E a) (E b) λr=>K r [] []
 | .alloc t=>QE P n t K
 | .box t x=>Ss n t (E x) K
 | .build t parts=>P6 P t (parts.toList.map λq=>(q.1,E q.2)) λr=>K r [] []
 | .buildSlice t len parts=>PN P n t len (parts.toList.map λq=>(q.1,E q.2)) K
 | .load t x=>(match E x with
   | .p (.pro cs off)=>Hz P t cs off λr=>K (.p r) [] []
   | .ptr s off=>∃ob,σ s=some ob/\ry P t ob.cells off λr=>K r [s] []
   |_=>False)
 | .store t a x=>vZ P t σ (E a) (E x) K
 | .nilCheck x=>C4 (E x)=true/\K (E x) [] []
 | .binOp op t x y _=>wY P op t (E x) (E y) λr=>K r [] []
 | .unOp op _ x=>unA op (E x) λr=>K r [] []
 | .convert s d x=>Cj P s d (E x) λr=>K r [] []
 | .makeFunc f first caps=>K (.fn f (first.toList.map E) (caps.toList.map E)) [] []
 | .slice t x lo hi none=>vf P t (E x) (loA E lo 0) (loA E hi (CC (E x))) λr=>K r [] []
 | .fieldAddr t x f=>HW P t f (E x) λr=>K r [] []
 | .field t x f=>HR P t f (E x) λr=>K r [] []
 | .indexAddr t x i=>CG P t (E x) (E i) λr=>K r [] []
 | .extract x i=>y5 (E x) i λr=>K r [] []
 | .call {callee:= .value f,args, .. }=>Cn P σ (E f) (args.toList.map E) K\/Cm P n (E f) (args.toList.map E) K
 | .call {callee:= .builtin .len,args:=⟨[x]⟩,argTypes:=⟨[t]⟩}=>C6 P t (E x) λr=>K r [] []
 | .call {callee:= .builtin .append,args:=⟨[x,y]⟩,argTypes:=⟨[t,t']⟩}=>(dI P t').isSome=true/\zH P n t σ (E x) (E y) K
 | .call {callee:= .builtin .min,args:=⟨[x,y]⟩, .. }=>mmA min (E x) (E y) λr=>K r [] []
 | .call {callee:= .builtin .max,args:=⟨[x,y]⟩, .. }=>mmA max (E x) (E y) λr=>K r [] []
 | .makeSlice t a b=>Qb P n t (E a) (E b) K\/Pm P n t (E a) (E b) K
 |_=>False
def Xv{P:Program}{n:Nat}{o:Oper}{E:Operand->AV}{σ:Nat->Option Ob}{K:Res}(h:AOp P n o E σ K):∃r R W,bW P o E σ n r R W/\K r R W:=by
 have lift:∀{K':AV->Prop} {R:List Nat},(∃r,bW P o E σ n r R []/\K' r)->(∀r,K' r->K r R [])->∃r R W,bW P o E σ n r R W/\K r R W:=by grind
 unfold AOp at h;split at h
 .rename_i x ho;exact⟨_,_,_,M3 (.inl ho),h⟩
 .rename_i x ho;exact Or.elim h (λh=>⟨_,_,_,M3 (.inr ho),h⟩) (λh=>⟨_,_,_,XS (.inr ho) h.1,h.2⟩)
 .rename_i ho;exact lift (Yi ho h) λ_ h=>h
 .rename_i ho;exact Xx ho h
 .rename_i ho;exact aA1 ho h
 .rename_i ho;exact lift (Xq ho h) λ_ h=>h
 .rename_i ho;exact WF ho h
 .rename_i ho;split at h
  .rename_i e;obtain⟨r,h1,h2⟩:=XC (o:=o) (σ:=σ) (n:=n) ho e h;grind
  .rename_i e;obtain⟨ob,h1,h2⟩:=h;obtain⟨r,h3,h4⟩:=XD (o:=o) (n:=n) ho e h1 h2;grind
  grind
 .rename_i ho;exact WU ho h
 .rename_i ho;exact⟨_,_,_,aAo ho h.1,h.2⟩
 .rename_i ho;exact lift (aA2 ho h) λ_ h=>h
 .rename_i ho;exact lift (aA8 ho h) λ_ h=>h
 .rename_i ho;exact lift (ZW ho h) λ_ h=>h
 .rename_i ho;exact⟨_,_,_,Yt ho,h⟩
 .rename_i ho;exact lift (Wa ho h) λ_ h=>h
 .rename_i ho;exact lift (XO ho h) λ_ h=>h
 .rename_i ho;exact lift (XN ho h) λ_ h=>h
 .rename_i ho;exact lift (XI ho h) λ_ h=>h
 .rename_i ho;exact lift (ZM ho h) λ_ h=>h
 .rename_i ho;exact Or.elim h (ZZ ho rfl) (Xn ho rfl)
 .rename_i ho;exact lift (aAA ho h) λ_ h=>h
 .rename_i ho;exact aA4 h.1 ho h.2
 .rename_i ho;exact lift (aAu ho h) λ_ h=>h
 .rename_i ho;exact lift (aAw ho h) λ_ h=>h
 .rename_i ho;exact Or.elim h (Yw ho) (XB ho)
 grind
structure St(C0:bG)(B:Nat)(wI:World)(F:List AV)(σ:Nat->Option Ob)(N:Nat)(a:Act)(w:World):Prop where
 ex:∃ρ:Ren,StR C0 ρ σ w B/\(∀s,N<=cls s->ρ s=none)/\∀t,aR ρ (bC C0 B w ρ σ) (F.getD t .any) (a.tmps.getD t Go.undef)
 le:B<=w.heap.size
 defers:a.defers=[]
 size:a.tmps.size=F.length
 below:Below B wI w
def Pz(ops:List Oper)(j:Nat):((ops.map (·.dst))[j]?).join=(ops[j]?).bind (·.dst):=by grind
def gdA(ds:List (Option Nat))(F:List AV)(j:Nat):Option (Option Bool):=match(ds[j]?).join with
 |some d=>(match F.getD d .any with| .p (.bool b)=>some (some b)| .undef=>some none|_=>none)
 |none=>none
def eP(F:List AV)(d:Option Nat)(r:AV):List AV:=match d with|some d=>F.set d r|none=>F
abbrev jc:=List (List Nat×List Nat)
def inC(R Rc:List Nat):Prop:=∀s∈R,cls s∈Rc
def eZ(P:Program)(N:Nat)(ds:List (Option Nat)):List Oper->Nat->List AV->Sto->jc->(List AV->Sto->jc->Prop)->Prop
 |[],_,F,L,log,K=>K F L log
 |o::rest,i,F,L,log,K=>match o.guard with
  |none=>∃r R W Rc Wc,bW P o (kX F) L (N+i) r R W/\inC R Rc/\inC (W.map (·.1)) Wc/\eZ P N ds rest (i+1) (eP F o.dst r) (az L W) (log++[(Rc,Wc)]) K
  |some (j,want)=>(match gdA ds F j with
   |some (some b)=>if b=want then∃r R W Rc Wc,bW P o (kX F) L (N+i) r R W/\inC R Rc/\inC (W.map (·.1)) Wc/\eZ P N ds rest (i+1) (eP F o.dst r) (az L W) (log++[(Rc,Wc)]) K
    else eZ P N ds rest (i+1) (eP F o.dst .undef) L (log++[([],[])]) K
   |some none=>eZ P N ds rest (i+1) (eP F o.dst .undef) L (log++[([],[])]) K
   |none=>False)
structure Tr where
 r:AV
 R:List Nat
 W:List (Nat×Option Ob)
 Rc:List Nat
 Wc:List Nat
instance:Inhabited Tr:=⟨⟨.any,[],[],[],[]⟩⟩
def jK(ops:List Oper)(tr:Nat->Tr)(F0:List AV):Nat->List AV
 |0=>F0
 |k+1=>eP (jK ops tr F0 k) ((ops[k]?).bind (·.dst)) (tr k).r
def sgD(tr:Nat->Tr)(σ0:Nat->Option Ob)(D:Nat->Bool):Nat->Nat->Option Ob
 |0=>σ0
 |k+1=>if D k=true then az (sgD tr σ0 D k) (tr k).W else sgD tr σ0 D k
def qW(tr:Nat->Tr)(n:Nat):jc:=(bM n).map λk=>((tr k).Rc,(tr k).Wc)
def qX(P:Program)(N:Nat)(ops:List Oper)(F0:List AV)(σ0:Nat->Option Ob)(tr:Nat->Tr)(k:Nat):Prop:=
 ∀o,ops[k]? =some o->(((o.guard=none\/∃j b,o.guard=some (j,b)/\gdA (ops.map (·.dst)) (jK ops tr F0 k) j=some (some b))/\
   bW P o (kX (jK ops tr F0 k)) (sgD tr σ0 (λ_=>true) k) (N+k) (tr k).r (tr k).R (tr k).W/\inC (tr k).R (tr k).Rc/\inC ((tr k).W.map (·.1)) (tr k).Wc)\/
  (∃j want q,o.guard=some (j,want)/\gdA (ops.map (·.dst)) (jK ops tr F0 k) j=some q/\q≠some want/\tr k=⟨.undef,[],[],[],[]⟩))
def xe(ops:List Oper)(F0:List AV){tr tr':Nat->Tr}:∀k,(∀j,j<k->tr j=tr' j)->jK ops tr F0 k=jK ops tr' F0 k
 |0,_=>rfl
 |k+1,h=>by simp only[jK];rw[xe ops F0 k (λj hj=>h j (by omega)),h k (by omega)]
def u6(σ0:Nat->Option Ob){tr tr':Nat->Tr}{D D':Nat->Bool}:∀k,(∀j,j<k->tr j=tr' j)->(∀j,j<k->D j=D' j)->sgD tr σ0 D k=sgD tr' σ0 D' k
 |0,_,_=>rfl
 |k+1,h,h2=>by simp only[sgD];rw[u6 σ0 k (λj hj=>h j (by omega)) (λj hj=>h2 j (by omega)),h k (by omega),h2 k (by omega)]
def UR{P:Program}{N:Nat}{ops:List Oper}{F0:List AV}{σ0:Nat->Option Ob}{tr tr':Nat->Tr}{k:Nat}(h:∀j,j<=k->tr j=tr' j)(hg:qX P N ops F0 σ0 tr k):qX P N ops F0 σ0 tr' k:=by unfold qX at*;rw[xe ops F0 k (λj hj=>(h j (by omega)).symm),u6 (D':=λ_=>true) σ0 k (λj hj=>(h j (by omega)).symm) (λ_ _=>rfl),<-h k (bZ _)];exact hg
def oF(tr:Nat->Tr)(i:Nat)(x:Tr):Nat->Tr:=λk=>if k=i then x else tr k
def MM{tr:Nat->Tr}{i:Nat}{x:Tr}{k:Nat}(h:k<i):tr k=oF tr i x k:=by unfold oF;grind
def Kx{P:Program}{N:Nat}{ops:List Oper}{F0:List AV}{L0:Sto}{K:List AV->Sto->jc->Prop}:
  ∀(rest:List Oper) (i:Nat) (F:List AV) (L:Sto) (log:jc) (tr:Nat->Tr),i<=ops.length->ops.drop i=rest->F=jK ops tr F0 i->L=sgD tr L0 (λ_=>true) i->log=qW tr i->
   (∀k,k<i->qX P N ops F0 L0 tr k)->eZ P N (ops.map (·.dst)) rest i F L log K->
   ∃(tr':Nat->Tr) (L':Sto),(∀k,k<ops.length->qX P N ops F0 L0 tr' k)/\L'=sgD tr' L0 (λ_=>true) ops.length/\K (jK ops tr' F0 ops.length) L' (qW tr' ops.length)
 |[],i,F,L,log,tr,hil,hd,hF,hL,hlog,hg,h=>by
  have hi:i=ops.length:=by have:=congrArg eQ hd;simp at this;omega
  subst hi;unfold eZ at h;grind
 |o::rest,i,F,L,log,tr,hil,hd,hF,hL,hlog,hg,h=>by
  have hlt:i<ops.length:=by have:=congrArg eQ hd;simp at this;omega
  have ho:ops[i]? =some o:=by have:=congrArg (λl=>l[0]?) hd;simpa using this
  have hd':ops.drop (i+1)=rest:=by have:=congrArg List.tail hd;simpa using this
  have step:∀(x:Tr),qX P N ops F0 L0 (oF tr i x) i->eZ P N (ops.map (·.dst)) rest (i+1) (eP F o.dst x.r) (az L x.W) (log++[(x.Rc,x.Wc)]) K->
    ∃(tr':Nat->Tr) (L':Sto),(∀k,k<ops.length->qX P N ops F0 L0 tr' k)/\L'=sgD tr' L0 (λ_=>true) ops.length/\K (jK ops tr' F0 ops.length) L' (qW tr' ops.length):=by
   intro x hgx hx;have hc:∀j,j<i->tr j=oF tr i x j:=λj hj=>MM hj;have hxi:oF tr i x i=x:=by unfold oF;rw[if_pos rfl]
   refine Kx rest (i+1) _ _ _ (oF tr i x) hlt hd' ?_ ?_ ?_ ?_ hx
   .simp only[jK,ho,rC,hxi];rw[hF,xe ops F0 i hc]
   .simp only[sgD,if_true,hxi];rw[hL,u6 (D':=λ_=>true) L0 i hc (λ_ _=>rfl)]
   .unfold qW at hlog|-;rw[List.range_succ,dM,List.map_singleton,hxi,hlog];simp_all
   .intro k hk;by_cases e:k=i
    .grind
    .exact UR (by grind) (hg k (by omega))
  have hc:∀x:Tr,∀j,j<i->oF tr i x j=tr j:=λx j hj=>(MM hj).symm;have hxi:∀x:Tr,oF tr i x i=x:=λx=>by unfold oF;grind
  have mkG:∀x:Tr,(o.guard=none\/∃j b,o.guard=some (j,b)/\gdA (ops.map (·.dst)) F j=some (some b))->bW P o (kX F) L (N+i) x.r x.R x.W->inC x.R x.Rc->inC (x.W.map (·.1)) x.Wc->qX P N ops F0 L0 (oF tr i x) i:=by intro x h1 h2 h3 h4 o' ho';rw[ho]at ho';cases ho';rw[xe ops F0 i (hc x),u6 (D':=λ_=>true) L0 i (hc x) (λ_ _=>rfl),<-hF,<-hL,hxi];grind
  unfold eZ at h;split at h
  .rename_i hgd;obtain⟨r,R,W,Rc,Wc,h1,i1,i2,h2⟩:=h;exact step ⟨r,R,W,Rc,Wc⟩ (by grind) h2
  .rename_i j want hgd;have skip:∀q,gdA (ops.map (·.dst)) F j=some q->q≠some want->eZ P N (ops.map (·.dst)) rest (i+1) (eP F o.dst .undef) L (log++[([],[])]) K->
     ∃(tr':Nat->Tr) (L':Sto),(∀k,k<ops.length->qX P N ops F0 L0 tr' k)/\L'=sgD tr' L0 (λ_=>true) ops.length/\K (jK ops tr' F0 ops.length) L' (qW tr' ops.length):=by
    intro q hq hne hx;refine step ⟨.undef,[],[],[],[]⟩ ?_ hx;intro o' ho';rw[ho]at ho';cases ho';rw[xe ops F0 i (hc _),<-hF,hxi];grind
   split at h
   .rename_i b hb;split at h
    .rename_i e;subst e;obtain⟨r,R,W,Rc,Wc,h1,i1,i2,h2⟩:=h;exact step ⟨r,R,W,Rc,Wc⟩ (by grind) h2
    simp_all
   .grind
   grind
def Hc(ops:List Oper):List (List Nat):=
 ops.foldl (λacc o=>acc++[(o.after.toList.filter (iT .any)).foldl (λs e=>s++(e.on::acc.getD e.on []).filter λx=> !s.contains x) []]) []
def Gz(o:Oper):List Nat:=o.op.operands.toList.filterMap λx=>match x with| .tmp t=>some t|_=>none
def okE(l:List Oper)(anc:List (List Nat)):Bool:=
 (bM l.length).all λi=>
  (((l[i]?).map λo=>(o.after.toList.all λe=> !iT .any e||(decide (e.on<i)&&(fu anc i).contains e.on))&&o.dst !=some 1000000).getD false)&&
  ((fu anc i).all λj=>decide (j<i)&&(((l[i]?).map λo=>o.after.toList.any λe=>iT .any e&&(e.on==j||(fu anc e.on).contains j)).getD false))&&
  ((bM l.length).all λj=>j==i||dd l j !=dd l i||dd l i==1000000)
def Cc(ops:List Oper)(anc:List (List Nat)):Bool:=
 okE ops anc&&
 ((bM ops.length).all λi=>((ops[i]?).map λo=>
   ((Gz o).all λt=>(bM ops.length).all λj=>j==i||dd ops j !=t||(fu anc i).contains j||(fu anc j).contains i)&&
   (match o.guard with|none=>true|some (j,_)=>(fu anc i).contains j&&((ops[j]?).bind (·.dst)).isSome)).getD false)
def Cl(a b:List Nat×List Nat):Bool:=a.2.any (λs=>b.1.contains s||b.2.contains s)||a.1.any (λs=>b.2.contains s)
def yW(anc:List (List Nat))(log:jc):Bool:=(bM log.length).all λi=>(bM i).all λj=> !Cl (log.getD i ([],[])) (log.getD j ([],[]))||(fu anc i).contains j
def W8{ops:List Oper}{anc:List (List Nat)}(h:okE ops anc=true):
  (∀(i:Nat) o,ops[i]? =some o->(∀e∈o.after.toList,iT .any e=true->e.on<i/\(fu anc i).contains e.on=true)/\
    (∀j,(fu anc i).contains j=true->j<i/\∃e∈o.after.toList,iT .any e=true/\(e.on=j\/(fu anc e.on).contains j=true))/\(∀d,o.dst=some d->dd ops i=d/\d≠1000000)/\(o.dst=none->dd ops i=1000000))/\
  ∀i j,i<ops.length->j<ops.length->j≠i->dd ops j=dd ops i->dd ops i=1000000:=by
 unfold okE at h;rw[bh]at h;have hget:∀(i:Nat) o,ops[i]? =some o->i<ops.length:=by grind
 refine⟨?_,?_⟩
 .intro i o ho;have h1:=h i (cD.2 (hget i o ho));simp only[bj]at h1;obtain⟨⟨h2,h3⟩,_⟩:=h1;rw[ho]at h2;refine⟨?_,?_,?_,?_⟩
  .grind
  .intro j hj;rw[bh]at h3;have:=h3 j (by grind);simp only[bj,decide_eq_true_eq]at this;obtain⟨h4,h5⟩:=this;refine⟨h4,?_⟩;rw[ho]at h5;simp only[eJ,lz,jd,bj,jQ,beq_iff_eq]at h5;exact h5
  .intro d hd;refine⟨by unfold dd;grind,?_⟩;grind
  .unfold dd;grind
 .intro i j hi hj hne he;have h1:=h i (cD.2 hi);grind
def aBn{tr:Nat->Tr}{σ0:Nat->Option Ob}{D:Nat->Bool}{s i n:Nat}(hin:i<=n)
  (hlo:∀k,k<i->(tr k).W.lookup s≠none->D k=true) (hhi:∀k,i<=k->k<n->(tr k).W.lookup s≠none->D k=false):
  sgD tr σ0 D n s=sgD tr σ0 (λ_=>true) i s:=by
 have h1:∀m,m<=i->sgD tr σ0 D m s=sgD tr σ0 (λ_=>true) m s:=by
  intro m;induction m with
  |zero=>intro _;rfl
  |succ m ih=>
   intro hm;simp only[sgD,if_true];cases hD:D m with
   |true=>unfold az;grind
   |false=>
    unfold az;grind
 have h2:∀m,i<=m->m<=n->sgD tr σ0 D m s=sgD tr σ0 D i s:=by
  intro m;induction m with
  |zero=>grind
  |succ m ih=>
   intro hi hm;by_cases e:i=m+1
   .rw[e]
   .simp only[sgD];cases hD:D m with
    |false=>grind
    |true=>
     unfold az;grind
 grind
def KY{W:List (Nat×Option Ob)}{s:Nat}(h:W.lookup s≠none):s∈W.map (·.1):=by grind
def GH{g:Nat->Option Ob}{W:List (Nat×Option Ob)}{s:Nat}(h:W.lookup s=none):az g W s=g s:=by unfold az;rw[h]
def D7(F:List AV)(d:Option Nat)(r:AV):(eP F d r).length=F.length:=by cases d<;>simp[eP]
def xX(ops:List Oper)(tr:Nat->Tr)(F0:List AV):∀k,(jK ops tr F0 k).length=F0.length
 |0=>rfl
 |k+1=>by simp only[jK];rw[D7,xX ops tr F0 k]
def Dz{ops:List Oper}{tr:Nat->Tr}{F0:List AV}{t j:Nat}(hj:(ops[j]?).bind (·.dst)=some t)(ht:t<F0.length)(hu:∀k,k≠j->(ops[k]?).bind (·.dst)≠some t):∀m,j<m->(jK ops tr F0 m).getD t .any=(tr j).r
 |0,h=>by omega
 |m+1,h=>by
  simp only[jK];by_cases e:m=j
  .subst e;rw[hj];have:=xX ops tr F0 m;simp[eP,eI,this,ht]
  .have ih:=Dz (tr:=tr) hj ht hu m (by omega);cases hd:(ops[m]?).bind (·.dst)with
   |none=>simpa[eP]using ih
   |some d=>
    have:d≠t:=by grind
    simp only[eP,eI,TF this]at ih|-;exact ih
def Dp{ops:List Oper}{tr:Nat->Tr}{F0:List AV}{t:Nat}:∀m,(∀k,k<m->(ops[k]?).bind (·.dst)≠some t)->(jK ops tr F0 m).getD t .any=F0.getD t .any
 |0,_=>rfl
 |m+1,h=>by
  simp only[jK];have ih:=Dp (tr:=tr) (F0:=F0) m λk hk=>h k (by omega);cases hd:(ops[m]?).bind (·.dst)with
  |none=>simpa[eP]using ih
  |some d=>
   have:d≠t:=by grind
   simp only[eP,eI,TF this]at ih|-;exact ih
def BE{ρ:Ren}{C:bG}{F:List AV}{V:Nat->Value}{x:Operand}(h:∀t,x= .tmp t->aR ρ C (F.getD t .any) (V t)):aR ρ C (kX F x) (bJ V x):=by
 cases x with
 |tmp t=>exact h t rfl
 |const v=>exact Uf v
 |global g=>trivial
 |func f=>
  exact⟨[],[],rfl,by rfl,by rfl⟩
def Ab{P:Program}{o:Oper}{V:Nat->Value}{w:World}{K K':Value->World->Prop}(h:cQ P o V w K)(hk:∀v w,K v w->K' v w):cQ P o V w K':=by
 unfold cQ at h|-;split at h
 .grind
 .grind
 .exact h.mono (by grind)
 omega
def VJ{o:Oper}{t:Nat}(h: .tmp t∈o.op.operands.toList):t∈Gz o:=I8.2 (by grind)
def StR.drew{C0:bG}{ρ:Ren}{g:Nat->Option Ob}{w:World}{B:Nat}(h:StR C0 ρ g w B):StR C0 ρ g w.drew B:=by
 refine⟨λs o hg=> ?_,h.inj,h.mpi⟩;obtain⟨q,c,h1,h2|⟨b,arr,h2,h3,h4⟩⟩:=h.ob s o hg
 .exact⟨q,c,h1,.inl h2⟩
 .exact⟨q,c,h1,.inr ⟨b,arr,h2,h3,⟨h4.blk,h4.box,h4.row,h4.cells⟩⟩⟩
def UF{P:Program}{id N:Nat}{ops:List Oper}{Q:Exit->Act->World->Prop}{a0:Act}{w0:World}{C0:bG}{B:Nat}{wI:World}{F0:List AV}{L0:Sto}{K:List AV->Sto->Prop}
  (hm:P.follows .mixedOrders=true) (anc:List (List Nat)) (hok:Cc ops anc=true) (hds:((bM ops.length).all λi=>match(ops[i]?).bind (·.dst)with|some d=>decide (d<F0.length)|none=>true)=true)
  (hS:St C0 B wI F0 L0 N a0 w0) (h:eZ P N (ops.map (·.dst)) ops 0 F0 L0 [] λF L log=>yW anc log=true/\K F L)
  (hK:∀F L a w,K F L->F.length=F0.length->St C0 B wI F L (N+ops.length) a w->Q .normal a w):(zR id ops.toArray true).wp P Q a0 w0:=by
 obtain⟨tr,L',hgood,hL',hfeet,hKK⟩:=Kx ops 0 F0 L0 [] default (Nat.zero_le _) rfl rfl rfl rfl (by grind) h;unfold Cc at hok;rw[bj,bh]at hok;obtain⟨hokE,hokT⟩:=hok;obtain⟨hop,huq⟩:=W8 hokE;obtain⟨⟨ρ0,hs0,hn0,hf0⟩,hle0,hdf0,hsz0,hbl0⟩:=hS;have hget:∀(i:Nat) o,ops[i]? =some o->i<ops.length:=by grind
 have hat:∀(i:Nat),i<ops.length->∃o,ops[i]? =some o:=λi hi=>⟨_,dw hi⟩;have hdst:∀(j t:Nat),(ops[j]?).bind (·.dst)=some t->dd ops j=t/\t≠1000000/\j<ops.length/\t<F0.length:=by intro j t hj;obtain⟨o,ho,hd⟩:=rD.1 hj;have:=(hop j o ho).2.2.1 t hd;refine⟨this.1,this.2,hget j o ho,?_⟩;rw[bh]at hds;have h2:=hds j (cD.2 (hget j o ho));rw[hj]at h2;simpa using h2
 have huniq:∀(j t:Nat),(ops[j]?).bind (·.dst)=some t->∀(k:Nat),k≠j->(ops[k]?).bind (·.dst)≠some t:=by intro j t hj k hk e;obtain⟨h1,h2,h3,_⟩:=hdst j t hj;obtain⟨h4,_,h5,_⟩:=hdst k t e;exact h2 (h1▸huq j k h3 h5 hk (by grind))
 have hclash:∀i k,i<ops.length->k<ops.length->k≠i->∀s,s∈(tr i).R\/s∈(tr i).W.map (·.1)->(tr k).W.lookup s≠none->(k<i->(fu anc i).contains k=true)/\(i<k->(fu anc k).contains i=true):=by
  intro i k hi hk hne s hs hw;have hws:=KY hw;have hin:∀j,j<ops.length->inC (tr j).R (tr j).Rc/\inC ((tr j).W.map (·.1)) (tr j).Wc:=λj hj=>by
   obtain⟨o,ho⟩:=hat j hj;rcases hgood j hj o ho with⟨_,_,h1,h2⟩|⟨_,_,_,_,_,_,h⟩
   .exact⟨h1,h2⟩
   .rw[h];exact⟨λs h=>(cq h).elim,λs h=>(cq h).elim⟩
  have hwc:=(hin k hk).2 s hws;have hsc:cls s∈(tr i).Rc\/cls s∈(tr i).Wc:=hs.imp ((hin i hi).1 s) ((hin i hi).2 s);have hfl:(qW tr ops.length).length=ops.length:=by simp[qW]
  have hfg:∀j,j<ops.length->(qW tr ops.length).getD j ([],[])=((tr j).Rc,(tr j).Wc):=by intro j hj;simp[qW,eI,hj]
  unfold yW at hfeet;rw[bh]at hfeet;have hsym:∀a b:List Nat×List Nat,cls s∈b.2->(cls s∈a.1\/cls s∈a.2)->Cl a b=true/\Cl b a=true:=by
   intro a b hb ha;unfold Cl;refine⟨?_,?_⟩
   .rw[jQ];rcases ha with ha|ha
    .exact .inr (jd.2 ⟨cls s,ha,by simpa using hb⟩)
    .exact .inl (jd.2 ⟨cls s,ha,by rw[jQ];exact .inr (by simpa using hb)⟩)
   .rw[jQ];refine .inl (jd.2 ⟨cls s,hb,?_⟩);rw[jQ];rcases ha with ha|ha
    .exact .inl (by simpa using ha)
    .exact .inr (by simpa using ha)
  obtain⟨c1,c2⟩:=hsym ((tr i).Rc,(tr i).Wc) ((tr k).Rc,(tr k).Wc) hwc hsc;refine⟨λhlt=> ?_,λhlt=> ?_⟩
  .have:=hfeet i (cD.2 (by rw[hfl];exact hi));rw[bh]at this;have:=this k (cD.2 hlt);rw[hfg i hi,hfg k hk,c1]at this;simpa using this
  .have:=hfeet k (cD.2 (by rw[hfl];exact hk));rw[bh]at this;have:=this i (cD.2 hlt);rw[hfg i hi,hfg k hk,c2]at this;simpa using this
 let dsts:List Nat:=(bM ops.length).filterMap λi=>(ops[i]?).bind (·.dst)
 have hdm:∀(t:Nat),t∈dsts↔∃(j:Nat),(ops[j]?).bind (·.dst)=some t:=by intro t;simp only[dsts,I8,cD];exact⟨λ⟨j,_,h⟩=>⟨j,h⟩,λ⟨j,h⟩=>⟨j,(hdst j t h).2.2.1,h⟩⟩
 let G:(Nat->Bool)->(Nat->Value)->World->Prop:=λD V w=>∃ρ:Ren,
  (∀i j,D i=true->(fu anc i).contains j=true->D j=true)/\(∀i,D i=true->i<ops.length)/\
  StR C0 ρ (sgD tr L0 D ops.length) w B/\B<=w.heap.size/\Below B wI w/\
  (∀(j t:Nat),D j=true->(ops[j]?).bind (·.dst)=some t->aR ρ (bC C0 B w ρ (sgD tr L0 D ops.length)) (tr j).r (V t))/\
  (∀(t:Nat),(∀(j:Nat),D j=true->(ops[j]?).bind (·.dst)≠some t)->V t=a0.tmps.getD t Go.undef)/\
  (∀t,aR ρ (bC C0 B w ρ (sgD tr L0 D ops.length)) (F0.getD t .any) (a0.tmps.getD t Go.undef))/\
  (∀k s,D k=false->cls s=N+k->ρ s=none)
 refine US hm dsts ?_ ?_ G ?_ ?_ ?_
 .rw[bh];intro i hi;have hi':=cD.1 hi;obtain⟨o,ho⟩:=hat i hi';obtain⟨q1,q3,q4,q5⟩:=hop i o ho;simp only[List.getElem?_toArray,ho,eJ,lz,bj];refine⟨?_,?_⟩
  .rw[bh];intro e he;cases hb:iT .any e with
   |false=>simp
   |true=>simpa using(q1 e he hb).1
  .cases hd:o.dst with
   |none=>rfl
   |some d=>simpa using(hdm d).2 ⟨i,by rw[ho];exact hd⟩
 .intro s hs;obtain⟨j,hj⟩:=(hdm s).1 hs;rw[hsz0];exact(hdst j s hj).2.2.2
 .have e0:sgD tr L0 (λ_=>false) ops.length=L0:=by
   have:∀m,sgD tr L0 (λ_=>false) m=L0:=by
    intro m;induction m with
    |zero=>rfl
    |succ m ih=>exact ih
   exact this _
  refine⟨ρ0,(by grind),(by grind),?_,hle0,hbl0.drew,(by grind),(λt _=>rfl),?_,λk s _ hs=>hn0 s (by omega)⟩
  .rw[e0];exact hs0.drew
  .rw[e0];exact hf0
 .intro i o D V w ho ⟨ρ,g1,g2,g3,g4,g5,g6,g7,g8,g9⟩ hD hpre _;have ho':ops[i]? =some o:=by simpa using ho
  have hi:=hget i o ho';obtain⟨q1,q3,q4,q5⟩:=hop i o ho';have hanc:∀j,(fu anc i).contains j=true->D j=true:=by
   intro j hj;obtain⟨_,e,he,hb,h⟩:=q3 j hj;have:=hpre e he hb;rcases h with rfl|h
   .exact this
   .exact g1 _ _ this h
  have hdesc:∀j,(fu anc j).contains i=true->D j=false:=by
   intro j hj;cases hx:D j with
   |false=>rfl
   |true=>rw[g1 _ _ hx hj]at hD;cases hD
  have hT:=hokT i (cD.2 hi);rw[ho']at hT;simp only[eJ,lz,bj]at hT;obtain⟨hT1,hT2⟩:=hT
  let Fi:=jK ops tr F0 i
  have hslot:∀t,t∈Gz o\/(∃(j:Nat) (b:Bool),o.guard=some (j,b)/\(ops[j]?).bind (·.dst)=some t)->aR ρ (bC C0 B w ρ (sgD tr L0 D ops.length)) (Fi.getD t .any) (V t):=by
   intro t ht;have hdone:∀(j:Nat),j<i->(ops[j]?).bind (·.dst)=some t->D j=true:=by
    intro j hji hj;rcases ht with ht|⟨j',b,hg,hj'⟩
    .rw[bh]at hT1;have:=hT1 t ht;rw[bh]at this;have:=this j (cD.2 (by omega));simp only[jQ,beq_iff_eq,bne_iff_ne,ne_eq]at this;rcases this with((h|h)|h)|h
     .omega
     .exact absurd (hdst j t hj).1 h
     .exact hanc j h
     .have h1:=(hop j _ (dw (by omega))).2.1 i h;omega
    .have:j=j':=by
      rcases p9 j j' with h|h
      .exact absurd hj (huniq j' t hj' j h)
      .exact h
     subst this;rw[hg]at hT2;simp only[bj]at hT2;exact hanc j hT2.1
   have hnot:∀(j:Nat),i<=j->(ops[j]?).bind (·.dst)=some t->D j=false:=by
    intro j hij hj;by_cases e:j=i
    .rw[e];exact hD
    rcases ht with ht|⟨j',b,hg,hj'⟩
    .rw[bh]at hT1;have:=hT1 t ht;rw[bh]at this;have:=this j (cD.2 (hdst j t hj).2.2.1);simp only[jQ,beq_iff_eq,bne_iff_ne,ne_eq]at this;rcases this with((h|h)|h)|h
     .omega
     .exact absurd (hdst j t hj).1 h
     .have:=(q3 j h).1;omega
     .exact hdesc j h
    .have:j=j':=by
      rcases p9 j j' with h|h
      .exact absurd hj (huniq j' t hj' j h)
      .exact h
     subst this;rw[hg]at hT2;simp only[bj]at hT2;have:=(q3 j hT2.1).1;omega
   by_cases hw:∃(j:Nat),j<i/\(ops[j]?).bind (·.dst)=some t
   .obtain⟨j,hji,hj⟩:=hw;have:=Dz (tr:=tr) hj (hdst j t hj).2.2.2 (huniq j t hj) i hji;rw[this];exact g6 j t (hdone j hji hj) hj
   .have:=Dp (ops:=ops) (tr:=tr) (F0:=F0) (t:=t) i λk hk e=>hw ⟨k,hk,e⟩;rw[this,g7 t λj hDj e=> ?_]
    .exact g8 t
    .rcases oZ j i with h|h
     .exact hw ⟨j,h,e⟩
     .rw[hnot j h e]at hDj;cases hDj
  have hgi:=hgood i hi o ho';have hDset:∀s,sgD tr L0 (λj=>if j=i then true else D j) ops.length s=az (sgD tr L0 D ops.length) (tr i).W s:=by
   intro s;have hlt:∀m,m<=i->sgD tr L0 (λj=>if j=i then true else D j) m=sgD tr L0 D m:=λm hm=>u6 _ m (λ_ _=>rfl) (λj hj=>by rw[if_neg (by omega)]);cases hl:(tr i).W.lookup s with
   |none=>
    rw[GH hl];have:∀m,i<m->sgD tr L0 (λj=>if j=i then true else D j) m s=sgD tr L0 D m s:=by
     intro m;induction m with
     |zero=>omega
     |succ m ih=>
      intro hm;by_cases e:m=i
      .subst e;simp only[sgD,if_true,hD,lN,if_false];rw[GH hl,hlt m (bZ _)]
      .simp only[sgD,if_neg e];cases hDm:D m with
       |false=>exact ih (by omega)
       |true=>simp only[if_true];unfold az;rw[ih (by omega)]
    exact this _ hi
   |some x=>
    have:∀m,i<m->m<=ops.length->sgD tr L0 (λj=>if j=i then true else D j) m s=x:=by
     intro m;induction m with
     |zero=>omega
     |succ m ih=>
      intro hm hmn;by_cases e:m=i
      .subst e;simp only[sgD,if_true];unfold az;rw[hl]
      .simp only[sgD,if_neg e];have hlm:D m=true->(tr m).W.lookup s=none:=by
        intro hDm;cases hl2:(tr m).W.lookup s with
        |none=>rfl
        |some y=>
         have:=(hclash i m hi (by omega) e s (.inr (KY (by rw[hl];simp))) (by rw[hl2];simp)).2 (by omega);rw[hdesc m this]at hDm;cases hDm
       cases hDm:D m with
       |false=>exact ih (by omega) (by omega)
       |true=>simp only[if_true];rw[GH (hlm hDm)];exact ih (by omega) (by omega)
    rw[this _ hi (bZ _)];unfold az;rw[hl]
  have key:∀(ρ':Ren) (v:Value) (w':World),(∀s,cls s≠N+i->ρ' s=ρ s)->
    (∀b o' x,bC C0 B w ρ (sgD tr L0 D ops.length) b o' x->bC C0 B w' ρ' (az (sgD tr L0 D ops.length) (tr i).W) b o' x)->
    StR C0 ρ' (az (sgD tr L0 D ops.length) (tr i).W) w' B->aR ρ' (bC C0 B w' ρ' (az (sgD tr L0 D ops.length) (tr i).W)) (tr i).r v->Below B w w'->
    G (λj=>if j=i then true else D j) (match o.dst with|some d=>λs=>if s=d then v else V s|none=>V) w':=by
   intro ρ' v w' k1 k2 k3 k4 k5;have hsg:sgD tr L0 (λj=>if j=i then true else D j) ops.length=az (sgD tr L0 D ops.length) (tr i).W:=funext hDset;have hext:∀s q,ρ s=some q->ρ' s=some q:=by intro s q hq;rw[k1 s (λe=>by rw[g9 i s hD e]at hq;cases hq)];exact hq
   have hVd:∀(t:Nat),(ops[i]?).bind (·.dst)=some t->(match o.dst with|some d=>λs=>if s=d then v else V s|none=>V) t=v:=by intro t ht;rw[ho']at ht;have:o.dst=some t:=ht;rw[this];simp
   have hVn:∀(t:Nat),(ops[i]?).bind (·.dst)≠some t->(match o.dst with|some d=>λs=>if s=d then v else V s|none=>V) t=V t:=by
    intro t ht;rw[ho']at ht;cases hd:o.dst with
    |none=>rfl
    |some d=>
     have:t≠d:=λe=>ht (by rw[e];exact hd);simp[this]
   show G _ _ _;refine⟨ρ',?_,?_,by rw[hsg];exact k3,cL g4 k5.size,g5.trans k5,?_,?_,?_,?_⟩
   .intro i' j h1 h2;dsimp only at h1|-;by_cases e:j=i
    .rw[if_pos e]
    .rw[if_neg e];by_cases e':i'=i
     .subst e';exact hanc j h2
     .rw[if_neg e']at h1;exact g1 _ _ h1 h2
   .intro i' h1;dsimp only at h1;by_cases e':i'=i
    .rw[e'];exact hi
    .rw[if_neg e']at h1;exact g2 _ h1
   .intro j t h1 h2;dsimp only at h1;rw[hsg];by_cases e:j=i
    .subst e;rw[hVd t h2];exact k4
    .rw[if_neg e]at h1;rw[hVn t (huniq j t h2 i (λh=>e h.symm))];exact aR.mono hext k2 _ _ (g6 j t h1 h2)
   .intro t ht;rw[hVn t (ht i (by simp))];refine g7 t λj hj=>ht j ?_;dsimp only;by_cases e:j=i
    .rw[if_pos e]
    .rw[if_neg e];exact hj
   .intro t;rw[hsg];exact aR.mono hext k2 _ _ (g8 t)
   .intro k s hk hs;dsimp only at hk;by_cases e:k=i
    .rw[if_pos e]at hk;cases hk
    .rw[if_neg e]at hk;rw[k1 _ (by omega)];exact g9 k s hk hs
  have hgv:∀j b q,o.guard=some (j,b)->gdA (ops.map (·.dst)) Fi j=some q->gdV ops.toArray V j=q:=by
   intro j b q hg hq;unfold gdA at hq;rw[Pz]at hq;cases hd:(ops[j]?).bind (·.dst)with
   |none=>rw[hd]at hq;cases hq
   |some d=>
    rw[hd]at hq;have hrep:=hslot d (.inr ⟨j,b,hg,hd⟩);unfold gdV;rw[show(ops.toArray[j]?).bind (·.dst)=some d by simpa using hd];dsimp only at hq|-;split at hq
    .rename_i bb e;rw[e]at hrep;cases hq;rw[hrep]
    .rename_i e;rw[e]at hrep;cases hq;rw[hrep];rfl
    .cases hq
  rcases hgi with⟨hgd,hsim,_,_⟩|⟨j,want,q,hgd,hq,hne,htr⟩
  .have hwant:iz o (gdV ops.toArray V)=true:=by
    unfold iz;rcases hgd with h|⟨j,b,h,hq⟩
    .rw[h]
    .rw[h];dsimp only;rw[hgv j b _ h hq];simp
   rw[if_pos hwant];have hsg:∀s,s∈(tr i).R\/s∈(tr i).W.map (·.1)->sgD tr L0 D ops.length s=sgD tr L0 (λ_=>true) i s:=by
    intro s hs;refine aBn (Nat.le_of_lt hi) ?_ ?_
    .intro k hk hw;exact hanc k ((hclash i k hi (by omega) (by omega) s hs hw).1 hk)
    .intro k hk1 hk2 hw;by_cases e:k=i
     .rw[e];exact hD
     .exact hdesc k ((hclash i k hi hk2 e s hs hw).2 (by omega))
   have hgn:∀s,cls s=N+i->sgD tr L0 D ops.length s=none:=by
    intro s hs;cases hx:sgD tr L0 D ops.length s with
    |none=>rfl
    |some ob=>obtain⟨q,c,h1,_⟩:=g3.ob _ _ hx;rw[g9 i s hD hs]at h1;cases h1
   refine Ab (hsim C0 ρ _ V w B g3 g4 (λs hs=>hsg s (.inl hs)) (λs hs=>g9 i s hD hs) hgn ?_) ?_
   .intro x hx;refine BE λt e=> ?_;subst e;exact hslot t (.inl (VJ hx))
   .rintro v w' ⟨ρ',k1,k2,k3,k4,k5⟩;exact key ρ' v w' k1 k2 k3 k4 k5
  .have hwant:iz o (gdV ops.toArray V)=false:=by unfold iz;rw[hgd];dsimp only;rw[hgv j want _ hgd hq];simpa using hne
   rw[hwant,if_neg (by simp)];have e1:(tr i).W=[] :=by rw[htr]
   have e2:(tr i).r= .undef:=by rw[htr]
   refine key ρ Go.undef w (λ_ _=>rfl) ?_ ?_ ?_ (Below.refl _ _)
   .rw[e1];exact λ_ _ _ h=>h
   .rw[e1];exact g3
   .rw[e2];rfl
 .intro D V w ⟨ρ,g1,g2,g3,g4,g5,g6,g7,g8,g9⟩ hall;simp only[List.size_toArray]at hall;have hsg:sgD tr L0 D ops.length=L':=by rw[hL'];exact u6 _ _ (λ_ _=>rfl) (λj hj=>hall j hj)
  obtain⟨p1,p2,p3⟩:=AA V dsts a0 (λs hs=>by obtain⟨j,hj⟩:=(hdm s).1 hs;rw[hsz0];exact(hdst j s hj).2.2.2)
  refine hK _ L' _ w hKK (xX _ _ _ _) ⟨⟨ρ,by rw[<-hsg];exact g3,?_,?_⟩,g4,p1.trans hdf0,by rw[p2,hsz0,xX],g5⟩
  .intro s hs;have:D (cls s-N)=false:=by
    cases hx:D (cls s-N)with
    |false=>rfl
    |true=>have:=g2 _ hx;omega
   exact g9 _ s this (by omega)
  .intro t;rw[<-hsg];by_cases ht:t<a0.tmps.size
   .rw[p3 t ht];by_cases hm:t∈dsts
    .rw[if_pos hm];obtain⟨j,hj⟩:=(hdm t).1 hm;obtain⟨_,_,h3,h4⟩:=hdst j t hj;rw[Dz hj h4 (huniq j t hj) _ h3];exact g6 j t (hall j h3) hj
    .rw[if_neg hm,Dp _ λk _ e=>hm ((hdm t).2 ⟨k,e⟩)];exact g8 t
   .have:(jK ops tr F0 ops.length).getD t .any= .any:=by rw[eI,List.getElem?_eq_none (by rw[xX];omega)];rfl
    rw[this];trivial
attribute [irreducible] eZ
end Go.Proofs.YthbofdolalagjaaGreat
