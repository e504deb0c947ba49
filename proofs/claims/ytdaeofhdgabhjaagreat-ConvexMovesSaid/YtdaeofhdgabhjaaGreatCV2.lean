/- What the statement stands on: contracts of functions, plain laws. Part 2 of 6, no condition of its own. (I17 I18 I19 I20 I21 I22 I23 I24 I25 I26 I27 I28 I29 I30 I31 I32 I33 I34 I35 I36 I37 I38 I39 I40 N1 E0 E5 N2 N3 E12 N4 N5 N6 N7 N19 N8 N9) -/
import Derived.Test.YtdaeofhdgabhjaaGreatCV1
import Derived.WalkKit
import Derived.Below
import Derived.Deep.MidRow
import Derived.Test.YtdaeofhdgabhjaaGreatProg
import Derived.WalkSpells
import Derived.WalkLawsBesides
import Derived.Lib.Hide
import Derived.Deep.QuietTactic
import Derived.BigQuiet
import Derived.WalkSmall
import Derived.Deep.RegionHeld3
import Derived.LoopTactic
import Derived.Orders
import Derived.Laws.OwnMore
import Derived.Maps.AppendAt
import Derived.Laws.Small
import Derived.Scope
set_option linter.all false
set_option maxRecDepth 100000
set_option maxHeartbeats 8000000
open List renaming mem_flatten->kh,mem_append_left->gZ,mem_flatMap->dI,mem_cons->bO,not_mem_nil->cl,mem_cons_of_mem->cB,mem_cons_self->cE,all_eq_true->bZ,mem_append->bq,flatMap_cons->fX,map_append->dQ,flatten_cons->lN,nodup_iff_pairwise_ne->oe,pairwise_map->ia,nodup_append->nC,mem_filter->fB,Pairwise.imp->CS,pairwise_iff_getElem->nB,mem_iff_getElem->ib,mem_map->bM,append_assoc->kO,singleton_append->CT,perm_append_comm->vK,cons_append->j7,nodup_cons->lP,map_cons->cT,append_of_mem->H3,perm_cons_erase->SD,eq_nil_or_concat->SF,mem_append_right->fY,length_append->fw,length_cons->gY,append_nil->CU,flatMap_append->vP,getD_eq_getElem?_getD->de,getElem?_append_right->kM,filter_append->vQ,Nodup->oi,getElem?_drop->vL,getElem?_take->og,mem_range->bz,range->bP,length_eq_zero_iff->nJ,map_toArray->H8,map_nil->j6,length_take->kP,getElem?_set->yZ,getElem?_map->fy,lookup->gh,take_of_length_le->gu,replicate->cO,replicate_succ->vY,getElem?_append_left->mI,mem_replicate->SJ,length_map->cL,length->fW,getElem?_eq_getElem->eZ,lookup_cons->dS,any_eq_true->lO,getElem?_set_ne->SL,mem_filterMap->IF,range'->Cg
open Int renaming lt_or_le->bo,mul_pos->bV,mul_le_mul_of_nonneg_left->dg,add_mul->rI,lt_trichotomy->vM,mul_nonpos_of_nonneg_of_nonpos->Hx,mul_eq_zero->dd,mul_neg_of_pos_of_neg->gQ,not_le->ki,mul_nonneg->cM,mul_nonpos_of_nonpos_of_nonneg->Hw,le_refl->iz,add_zero->nD,lt_or_gt_of_ne->lK,mul_zero->dw,mul_neg->mJ,mul_neg_of_neg_of_pos->lL,mul_pos_of_neg_of_neg->vG,le_of_lt->yU
open Nat renaming mod_eq_of_lt->dj,lt_trichotomy->yR,add_mod_right->od,mod_lt->bk,le_refl->bQ,lt_or_ge->nF,strongRecOn->Hr,le_trans->cR,zero_add->jg,mul_le_mul->vV,eq_zero_or_pos->rF,mul_eq_zero->H9,decEq->om,add_mul->yd,le_mul_of_pos_right->SK,zero_le->i5
open Bool renaming true_and->oc,eq_iff_iff->eY,eq_false_or_eq_true->SH,and_eq_true->bm,not_eq_true'->CN,false_eq_true->qB,or_eq_true->je
open Ne renaming symm->oh
open Go.World renaming frozen?->H4,block_lt_of_cell?->jh,cell?_of_block->i6,ownsRow_nil->IC
open Array renaming getElem?_modify->H5,getD_eq_getD_getElem?->fx,getElem?_eq_getElem->vR,getElem?_setIfInBounds->vS,toList_inj->ol,length_toList->yb,range->IB,map->s8
open Go.Region renaming binds->gg,ready->CW,wanted->iK
open Option renaming map_some->eI,getD_some->kj,bind_some->qD,map_eq_some_iff->lQ,isSome_iff_exists->oj,bind_eq_some_iff->qE,some.injEq->fZ
open Go.Code renaming region->yX,rounds->Ch
open Go.Act renaming put->mL
open Go.Instr renaming loadAt->CZ,sureAddr->Ca,indexAt->H7,sliceBounds->Cd
open Go.Sem renaming run_bind->cn,run_pure->dZ
open Go.Op renaming operands->cU,equalIn->ss,intArith->H6,intCmp->yY
open Go.Result renaming andThen_ok->cp
open Go.Value renaming int->cV,ownBlock->Cb,cells->IA
open Go.Addr renaming add_mid->vT
open Go.Call renaming operands->jI
open Go.Obj renaming map->vX
open Go.Deferred renaming ofValue->s9
open Go.IntKind renaming i64->ic
open Go.RowKit
open Go.Proofs.YtdaeofhdgabhjaaGreat.Geo
namespace Go.Proofs.YtdaeofhdgabhjaaGreat
section
namespace Geo
def LB{r:aD}(hr:VR r){v:V}(hw:ag v 2000=true)(h:c6 r v≠1):c6 r v=if cD r (pt v)then 2 else 0:=by
 have h4:=ig hw (show(2000:Int)<=4000 by omega);have hp:dO (fT v)=true:=by rw[yx];exact h4
 unfold c6 at h|-;rw[h4]at h|-;rw[Db hr hp λe he=> ?_]
 .rfl
 refine Bool.eq_false_iff.2 λho=>h ?_;unfold bY;rw[(gv _).2 hr,hp];exact FL ⟨e,he,ho⟩
def aAC{r:aD}(hr:VR r){v:V}(hw:ag v 2000=true)(h:c6 r v=2):cD r (pt v)=true:=by have:=LB hr hw (by omega);grind
def ZS{r:aD}(hr:VR r){v:V}(hw:ag v 2000=true)(h:c6 r v=0):cD r (pt v)=false:=by have:=LB hr hw (by omega);grind
section
variable {s:Shape} {D:List S}
def zZ{r:aD}(hr:r∈aE s){v:V}(hv:v∈r):v∈bl s:=kh.2 ⟨r,hr,hv⟩
def tc{r:aD}(hr:r∈aE s){e:S}(he:e∈aJ r):sides s D e.a e.b:= .inl (gZ _ (dI.2 ⟨r,hr,he⟩))
def wQ(T:Tg s D){r q:aD}(hr:r∈aE s)(hq:q∈aE s)(hrq:r≠q){v:V}(hv:v∈r){e:S}(he:e∈aJ q):v≠e.a/\v≠e.b:=by obtain⟨h1,h2⟩:=iP he;have:=yu (aE s) T.vs.nodup r hr q hq;grind
def Dt(T:Tg s D){r q:aD}(hr:r∈aE s)(hq:q∈aE s)(hrq:r≠q){a b:V}(ha:a∈r)(hab:sides s D a b):∃N0:Int,∀n,N0<=n->∀p,In (thin a b n) p->cD q p=cD q (pt a):=by
 have N:=T.segs.net;obtain⟨N0,_,h2⟩:=N.thin hab;refine⟨N0,λn hn p hp=>(tn (by have:=(T.vs.ring hq).three;omega) (show(0:Int)<1 by omega) hp.1 λe he hm=> ?_).symm⟩;obtain⟨x,y,k,t,hx,hy,hxy,hk,ht,g⟩:=hm;have hs:sides s D e.a e.b:=tc hq he;rcases bo 0 t with ht'|ht'
 .obtain⟨f,hf,hle⟩:=h2 n hn e.a e.b hs x y hx hy hxy;dsimp only at hle;have e1:x*ev f (pt e.a)+y*ev f (pt e.b)=k*ev f (pt a)+t*ev f p:=by rw[<-ai,g,ai]
  have p1:=bV ht' (hp.2 f hf);have p2:0<=ev f (pt a):=by
   have hL:=iQ (N.ne hab);unfold thin at hf;simp only[bO,cl,or_false]at hf;rcases hf with rfl|rfl|rfl
   .rw[cG];omega
   .rw[ko,cG,kB];omega
   .rw[nY,cG,pO,zo];omega
  have:=mpp hk p2;omega
 .have:t=0:=by omega
  subst this;have hd:=congrArg P3.d g;simp only[cmb,pt]at hd;have hov:=wQ T hr hq hrq ha he;rcases N.clear hs (zZ hr ha) x y k hx hy (by rw[g];unfold cmb;simp) (by omega)with e1|e1
  .grind
  grind
def VA(T:Tg s D){r q:aD}(hr:r∈aE s)(hq:q∈aE s)(hrq:r≠q){e:S}(he:e∈aJ r):cD q (pt e.a)=cD q (pt e.b):=by
 have N:=T.segs.net;refine tn (by have:=(T.vs.ring hq).three;omega) (show(0:Int)<1 by omega) (show(0:Int)<1 by omega) λd hd hm=> ?_;obtain⟨h1,h2⟩:=iP he;have o1:=wQ T hr hq hrq h1 hd;have o2:=wQ T hr hq hrq h2 hd;rcases N.off (tc hr he) (tc hq hd)with⟨_,g⟩|⟨g,_⟩|⟨g,_⟩
 .rcases g with g|⟨g,_⟩|⟨g,_⟩|⟨g,_⟩|⟨g,_⟩
  .exact g hm
  .grind
  .grind
  .grind
  grind
 .grind
 grind
def Mm(T:Tg s D){r q:aD}(hr:r∈aE s)(hq:q∈aE s)(hrq:r≠q):∀i,i<r.length->cD q (pt (nth r i))=cD q (pt (nth r 0))
 |0,_=>rfl
 |i+1,hi=>by
  have:=VA T hr hq hrq (e:=bL r i) (Aj (T.vs.ring hr) (by omega));rw[show(bL r i).b=nth r (i+1) by show nth r ((i+1) % r.length)=_;rw[dj hi],show(bL r i).a=nth r i from rfl]at this;rw[<-this];exact Mm T hr hq hrq i (by omega)
def N5(T:Tg s D){r:aD}(hr:r∈s.holes){v:V}(hv:v∈r):c6 s.outer v=2:=by obtain⟨i,hi,rfl⟩:=qQ hr;have:=T.vs.ins i hi;unfold bG at this;grind
def Af(T:Tg s D){r:aD}(hr:r∈s.holes):r≠s.outer:=by intro e;have h:=T.vs;have hv:nth r 0∈r:=fO.2 ⟨0,by have:=(h.ring (cB _ hr)).three;omega,rfl⟩;obtain⟨i,hi,rfl⟩:=qQ hr;have ap:=h.apo i hi;rw[e]at ap hv;exact wC h.outer ap hv (Aj h.outer (i:=0) (by grind)) (by rw[<-e];exact fH (iA (h.hole i hi).near 0 (by grind)))
def Vr(T:Tg s D){q:aD}(hq:q∈s.holes){v:V}(hv:v∈s.outer):cD q (pt v)=false:=by
 have h:=T.vs;have N:=T.segs.net;have hq':q∈aE s:=cB _ hq;have ho':s.outer∈aE s:=cE;have hne:=(Af T hq).symm;have h3:=h.outer.three;have all:=Mm T ho' hq' hne;have li:=qJ (r:=s.outer) (by omega);have low:cD q (pt (nth s.outer (dN s.outer)))=false:=by
  have hv0:nth s.outer (dN s.outer)∈s.outer:=dD li;have least:∀a∈s.outer,(nth s.outer (dN s.outer)).y<=a.y:=λa ha=>by obtain⟨i,hi,rfl⟩:=fO.1 ha;have:=tR s.outer s.outer.length i hi;unfold leV at this;unfold dN;omega
  have below:∀u∈q,(nth s.outer (dN s.outer)).y<=u.y:=λu hu=>by obtain⟨_,_,⟨a,ha,hay⟩,_⟩:=Jh (by omega) (N5 T hq hu);grind
  have fr:=Ea h.outer _ hv0;generalize nth s.outer (dN s.outer)=v0 at*;rw[tn (q:=⟨v0.x,v0.y-5000,1⟩) (by have:=(h.ring hq').three;omega) (show(0:Int)<1 by omega) (by grind) λe he hm=> ?_]
  .exact NT (by have:=(h.ring hq').three;omega) (Ea (h.ring hq')) (by grind) (by grind)
  .obtain⟨x,y,k,t,hx,hy,hxy,hk,ht,g⟩:=hm;obtain⟨e1,e2⟩:=iP he;have b1:=dg (below _ e1) hx;have b2:=dg (below _ e2) hy;have hov:=wQ T ho' hq' hne hv0 he;have gy:=congrArg P3.y g;have gd:=congrArg P3.d g;simp only[cmb,pt]at gy gd;have t0:t=0:=by
    have m1:x*v0.y+y*v0.y=k*v0.y+t*v0.y:=by rw[<-rI,<-rI];congr 1;omega
    have m2:t*(v0.y-5000)=t*v0.y-t*5000:=Int.mul_sub _ _ _;omega
   subst t0;rcases N.clear (tc hq' he) (zZ ho' hv0) x y k hx hy (by rw[g];unfold cmb;simp) (by omega)with e1|e1
   .grind
   grind
 obtain⟨i,hi,rfl⟩:=fO.1 hv;grind
def Xx(T:Tg s D){r q:aD}(hr:r∈s.holes)(hq:q∈s.holes)(hrq:r≠q){v:V}(hv:v∈r):cD q (pt v)=false:=by
 have h:=T.vs;have hw:ag v 2000=true:=i9 h (zZ (cB _ hr) hv);refine ZS (h.ring (cB _ hq)) hw ?_;obtain⟨i,hi,rfl⟩:=qQ hr;obtain⟨k,hk,rfl⟩:=qQ hq;have key:bG (aC s.holes i) (aC s.holes k) 0=true:=by
  rcases yR i k with g|g|g
  .exact h.out2 k i g hk
  .grind
  .exact h.out1 i k g hi
 unfold bG at key;grind
def GT{α:Type}{P:α->Int->Prop}:∀{l:List α},(∀x∈l,∃N0:Int,∀n,N0<=n->P x n)->∃N0:Int,∀n,N0<=n->∀x∈l,P x n
 |[],_=>⟨0,by grind⟩
 |x::l,h=>by
  obtain⟨n1,h1⟩:=h x (by grind);obtain⟨n2,h2⟩:=GT λy hy=>h y (cB _ hy);refine⟨max n1 n2,λn hn y hy=> ?_⟩;grind
def JV(T:Tg s D){a b:V}(ha:a∈s.outer)(hab:sides s D a b):∃N0:Int,∀n,N0<=n->∀p,In (thin a b n) p->fK s p=cD s.outer p:=by
 obtain⟨N0,h0⟩:=GT (l:=s.holes) (P:=λq n=>∀p,In (thin a b n) p->cD q p=cD q (pt a)) λq hq=>Dt T cE (cB _ hq) (Af T hq).symm ha hab;refine⟨N0,λn hn p hp=> ?_⟩;unfold fK;have:(s.holes.all λh=> !(cD h p))=true:=by rw[bZ];intro q hq;rw[h0 n hn q hq p hp,Vr T hq ha];rfl
 grind
def Kh(T:Tg s D){r:aD}(hr:r∈s.holes){a b:V}(ha:a∈r)(hab:sides s D a b):∃N0:Int,∀n,N0<=n->∀p,In (thin a b n) p->fK s p= !(cD r p):=by
 have hr':r∈aE s:=cB _ hr;obtain⟨N1,h1⟩:=Dt T hr' cE (Af T hr) ha hab;obtain⟨N0,h0⟩:=GT (l:=s.holes) (P:=λq n=>r≠q->∀p,In (thin a b n) p->cD q p=cD q (pt a)) λq hq=>by
  by_cases g:r=q
  .simp_all
  .obtain⟨m,hm⟩:=Dt T hr' (cB _ hq) g ha hab;exact⟨m,by grind⟩
 refine⟨max N0 N1,λn hn p hp=> ?_⟩;unfold fK;rw[h1 n (by omega) p hp,aAC T.vs.outer (i9 T.vs (zZ hr' ha)) (N5 T hr ha),oc,eY,bZ];refine⟨λg=>g r hr,λg q hq=> ?_⟩;by_cases e:r=q
 .grind
 .rw[h0 n (by omega) q hq e p hp,Xx T hr hq e ha];rfl
def zm{ins ins':P3->Bool}{a b:V}(h:∃N0:Int,∀n,N0<=n->∀p,In (thin a b n) p->ins p=ins' p):Lft ins a b↔Lft ins' a b:=by
 obtain⟨N0,h⟩:=h;constructor<;>rintro⟨m,g⟩
 .exact⟨max N0 m,by grind⟩
 .exact⟨max N0 m,by grind⟩
def Nh{W:List V}{side:V->V->Prop}{ins:P3->Bool}(H:Calm W side ins){a b:V}(hab:side a b):Lft (λp=> !ins p) a b↔¬Lft ins a b:=by
 constructor
 .intro h g;exact g.not (H.net.ne hab) h
 .intro h;rcases aAB H hab with g|g
  .grind
  .exact g
def zK(T:Tg s D){e:S}(he:e∈aJ s.outer):Lft (fK s) e.a e.b/\¬Lft (fK s) e.b e.a:=by obtain⟨h1,h2⟩:=iP he;have hs:sides s D e.a e.b:=tc cE he;rw[zm (JV T h1 hs),zm (JV T h2 hs.symm)];exact⟨T.vs.outer.left he,T.vs.outer.right he⟩
def zu(T:Tg s D){r:aD}(hr:r∈s.holes){e:S}(he:e∈aJ r):Lft (fK s) e.b e.a/\¬Lft (fK s) e.a e.b:=by obtain⟨h1,h2⟩:=iP he;have hs:sides s D e.a e.b:=tc (cB _ hr) he;have hv:=T.vs.ring (cB _ hr);have C:=hv.calm;rw[zm (Kh T hr h2 hs.symm),zm (Kh T hr h1 hs),Nh C (.inl he),Nh C (.inr he)];exact⟨hv.right he,λg=>g (hv.left he)⟩
def lJ(s:Shape):List S:=aJ s.outer++(s.holes.flatMap aJ).map swp
def Kt(s:Shape):bW s=aJ s.outer++s.holes.flatMap aJ:=by unfold bW aE;grind
def AO(T:Tg s D)(e:S):e∈lJ s↔eR (bW s) e.a e.b/\Lft (fK s) e.a e.b:=by
 unfold lJ eR;rw[bq,lm,Kt,bq,bq,dI,dI,dI];constructor
 .rintro(h|⟨r,hr,h⟩)
  .exact⟨.inl (.inl h),(zK T h).1⟩
  .exact⟨.inr (.inr ⟨r,hr,h⟩),(zu T hr h).1⟩
 .rintro⟨(h|⟨r,hr,h⟩)|(h|⟨r,hr,h⟩),g⟩
  .exact .inl h
  .exact absurd g (zu T hr h).2
  .exact absurd g (zK T h).2
  .exact .inr ⟨r,hr,h⟩
def VS.wM(h:VS s):(bW s).Nodup:=by
 have hn:=h.nodup;have e:(bW s).map S.a=bl s:=by
  unfold bW bl;have key:∀l:List aD,(∀r∈l,VR r)->(l.flatMap aJ).map S.a=l.flatten:=by
   intro l;induction l with
   |nil=>intro _;rfl
   |cons r l ih=>
    intro hl;rw[fX,dQ,lN,ih (by grind),EY (by have:=(hl r (by grind)).three;omega)]
  exact key _ λr hr=>h.ring hr
 rw[oe,<-e,ia]at hn;exact oe.2 (hn.imp (by grind))
def U2(T:Tg s D):(lJ s).Nodup:=by have hn:=T.vs.wM;rw[Kt,nC]at hn;unfold lJ;rw[nC];refine⟨hn.1,FF hn.2.1,λa ha b hb e=> ?_⟩;subst e;rw[lm,dI]at hb;obtain⟨r,hr,hb⟩:=hb;have e1:=(iP ha).1;have e2:=(iP hb).2;exact Af T hr (yu (aE s) T.vs.nodup r (cB _ hr) s.outer cE _ e2 e1)
end
end Geo
end
section
namespace Geo
def Up(x:V):Prop:=0<x.y\/(x.y=0/\0<x.x)
def Dn(x:V):Prop:=x.y<0\/(x.y=0/\x.x<0)
instance(x:V):Decidable (Up x):=by unfold Up;infer_instance
instance(x:V):Decidable (Dn x):=by unfold Dn;infer_instance
def neg(x:V):V:=⟨-x.x,-x.y⟩
def xY(x:V):Up (neg x)↔Dn x:=by unfold Up Dn neg;grind
def qp(x:V):Dn (neg x)↔Up x:=by unfold Up Dn neg;grind
def Up.not{x:V}(h:Up x):¬Dn x:=by unfold Up Dn at*;omega
def PO(x:V):Up x\/Dn x\/x=⟨0,0⟩:=by
 unfold Up Dn;rcases vM x.y 0 with h|h|h
 .omega
 .rcases vM x.x 0 with g|g|g
  .omega
  .exact .inr (.inr (by cases x;grind))
  omega
 omega
def Ak{y z:V}{α β:Int}(hy:Dn y)(hz:Dn z)(ha:0<=α)(hb:0<β):Dn ⟨α*y.x+β*z.x,α*y.y+β*z.y⟩:=by
 unfold Dn at*;dsimp only;have py:y.y<=0:=by omega
 have pz:z.y<=0:=by omega
 have m1:α*y.y<=0:=Hx ha py;have m2:β*z.y<=0:=Hx (by omega) pz;by_cases g:α*y.y+β*z.y<0
 .exact .inl g
 .have e1:α*y.y=0:=by omega
  have e2:β*z.y=0:=by omega
  have z0:z.y=0:=by rcases dd.1 e2 with h|h<;>omega
  have m3:β*z.x<0:=gQ hb (by omega);have m4:α*y.x<=0:=by
   rcases dd.1 e1 with h|h
   .grind
   .exact Hx ha (by omega)
  omega
def PB{x:V}{k:Int}(hk:0<k)(h:Dn ⟨k*x.x,k*x.y⟩):Dn x:=by
 unfold Dn at*;dsimp only at h;rcases h with h|⟨h1,h2⟩
 .refine .inl (ki.1 λg=> ?_);have:=cM (show 0<=k by omega) g;omega
 .refine .inr ⟨by rcases dd.1 h1 with h|h<;>omega,ki.1 λg=> ?_⟩;have:=cM (show 0<=k by omega) g;omega
def lf(p q:Int)(x:V):Int:=p*x.x+q*x.y
def FJ{x y z:V}{p q:Int}(hx:0<lf p q x)(hy:0<lf p q y)(hz:0<lf p q z)(ux:Up x)(dy:Dn y)(dz:Dn z)(h:0<cross x y):0<cross x z:=by
 refine ki.1 λg=> ?_;have e:cross z y*lf p q x= -(cross x z)*lf p q y+cross x y*lf p q z:=by unfold cross lf;grind
 have p1:=cM (show 0<= -(cross x z) by omega) (show 0<=lf p q y by omega);have p2:=bV h hz;have k:0<cross z y:=ki.1 λg'=>by have:=Hw g' (show 0<=lf p q x by omega);omega
 refine ux.not (PB k ?_);have ex:cross z y*x.x= -(cross x z)*y.x+cross x y*z.x:=by unfold cross;grind
 have ey:cross z y*x.y= -(cross x z)*y.y+cross x y*z.y:=by unfold cross;grind
 rw[ex,ey];exact Ak dy dz (by omega) h
def Kw(x y:V):cross (neg x) (neg y)=cross x y:=by unfold cross neg;grind
def GN(p q:Int)(x:V):lf (-p) (-q) (neg x)=lf p q x:=by unfold lf neg;grind
def M7{x y z:V}{p q:Int}(hx:0<lf p q x)(hy:0<lf p q y)(hz:0<lf p q z)(ux:Dn x)(dy:Up y)(dz:Up z)(h:0<cross x y):0<cross x z:=by rw[<-Kw]at h|-;exact FJ (p:= -p) (q:= -q) (by rw[GN];exact hx) (by rw[GN];exact hy) (by rw[GN];exact hz) ((xY x).2 ux) ((qp y).2 dy) ((qp z).2 dz) h
def iO(x y:V):cross y x= -cross x y:=by unfold cross;grind
def AR{x y:V}{p q:Int}(hx:0<lf p q x)(hy:0<lf p q y)(ux:Up x)(dy:Dn y):cross x y≠0:=λh=>by
 have e1:lf p q y*x.x=lf p q x*y.x:=by unfold cross lf at*;grind
 have e2:lf p q y*x.y=lf p q x*y.y:=by unfold cross lf at*;grind
 refine ux.not (PB hy ?_);have:=Ak dy dy (iz 0) hx;grind
def cr(x y:V):Int:=if Up x↔Up y then 0 else sgn (cross x y)
def uN{x y:V}(h:Up x↔Up y):cr x y=0:=if_pos h
def sC{x y:V}(h:¬(Up x↔Up y)):cr x y=sgn (cross x y):=if_neg h
def EV(n:Int):sgn (-n)= -sgn n:=by unfold sgn;grind
def OZ{m n:Int}(hm:m≠0)(hn:n≠0)(h:0<m↔0<n):sgn m=sgn n:=by unfold sgn;grind
def Fr{x y z:V}{p q:Int}(hx:0<lf p q x)(hy:0<lf p q y)(hz:0<lf p q z):cr x y+cr y z=cr x z:=by
 have k:∀{x:V},0<lf p q x->¬Up x->Dn x:=λ{x} h g=>by
  rcases PO x with e|e|e
  .grind
  .exact e
  .rw[e]at h;unfold lf at h;simp at h
 have pair:∀{x y z:V},0<lf p q x->0<lf p q y->0<lf p q z->¬(Up x↔Up y)->(Up y↔Up z)->sgn (cross x y)=sgn (cross x z):=by
  intro x y z hx hy hz h1 h2;by_cases ux:Up x
  .have dy:Dn y:=by grind
   have dz:Dn z:=by grind
   exact OZ (AR hx hy ux dy) (AR hx hz ux dz) ⟨FJ hx hy hz ux dy dz,FJ hx hz hy ux dz dy⟩
  .have dx:=k hx ux;have uy:Up y:=by grind
   have uz:=h2.1 uy;refine OZ (λg=>AR hy hx uy dx (by rw[iO];omega)) (λg=>AR hz hx uz dx (by rw[iO];omega)) ⟨M7 hx hy hz dx uy uz,M7 hx hz hy dx uz uy⟩
 by_cases h1:Up x↔Up y
 .rw[uN h1,Int.zero_add];by_cases h2:Up y↔Up z
  .rw[uN h2,uN (h1.trans h2)]
  .rw[sC h2,sC (by grind),iO z y,iO z x,EV,EV,pair hz hy hx (by grind) h1.symm]
 .by_cases h2:Up y↔Up z
  .rw[uN h2,nD,sC h1,sC (by grind),pair hx hy hz h1 h2]
  .have h3:Up x↔Up z:=by by_cases a:Up x<;>by_cases b:Up y<;>by_cases c:Up z<;>simp_all
   rw[uN h3,sC h1,sC h2,iO y x,EV,pair hy hx hz (by grind) h3];omega
def T4{p q:V}(h:cross p q≠0):cr p q=cr p ⟨p.x+q.x,p.y+q.y⟩+cr ⟨p.x+q.x,p.y+q.y⟩ q:=by
 have e1:lf (sgn (cross p q)*(q.y-p.y)) (sgn (cross p q)*(p.x-q.x)) p=sgn (cross p q)*cross p q:=by unfold lf cross;grind
 have e2:lf (sgn (cross p q)*(q.y-p.y)) (sgn (cross p q)*(p.x-q.x)) q=sgn (cross p q)*cross p q:=by unfold lf cross;grind
 have e3:lf (sgn (cross p q)*(q.y-p.y)) (sgn (cross p q)*(p.x-q.x)) ⟨p.x+q.x,p.y+q.y⟩=2*(sgn (cross p q)*cross p q):=by unfold lf cross;grind
 have k:0<sgn (cross p q)*cross p q:=by
  rcases lK h with g|g
  .rw[show sgn (cross p q)= -1 by unfold sgn;omega];omega
  .rw[show sgn (cross p q)=1 by unfold sgn;rw[if_pos g]];omega
 exact(Fr (by rw[e1];exact k) (by omega) (by omega)).symm
def lH(f:Nat->Int):Nat->Int
 |0=>0
 |k+1=>lH f k+f k
structure Curve(v:Nat->V)(m:Nat):Prop where
 close:v (m+3)=v 0
 least:∀i,0<i->i<m+3->Up (sub (v i) (v 0))
 turn:∀i,i+1<m+3->cross (sub (v (i+1)) (v i)) (sub (v (i+2)) (v (i+1)))≠0
 turn0:cross (sub (v (m+3)) (v (m+2))) (sub (v 1) (v 0))≠0
 apart:∀i j,i+1<j->j<m+3->¬(i=0/\j=m+2)->∃f:P3,ev f (pt (v i))<0/\ev f (pt (v (i+1)))<0/\0<ev f (pt (v j))/\0<ev f (pt (v (j+1)))
section
variable {v:Nat->V} {m:Nat}
def uU(f:P3)(a b:V):lf f.x f.y (sub a b)=ev f (pt a)-ev f (pt b):=by unfold lf sub ev pt;grind
def sub_neg(a b:V):neg (sub a b)=sub b a:=by unfold neg sub;grind
def Curve.cell(C:Curve v m){i j:Nat}(h1:i+1<j)(h2:j<m+3)(h3:¬(i=0/\j=m+2)):
  cr (sub (v j) (v i)) (sub (v (j+1)) (v i))+cr (sub (v (j+1)) (v i)) (sub (v (j+1)) (v (i+1)))=cr (sub (v j) (v i)) (sub (v j) (v (i+1)))+cr (sub (v j) (v (i+1))) (sub (v (j+1)) (v (i+1))):=by
 obtain⟨f,f1,f2,f3,f4⟩:=C.apart i j h1 h2 h3;rw[Fr (p:=f.x) (q:=f.y) (by rw[uU];omega) (by rw[uU];omega) (by rw[uU];omega),Fr (p:=f.x) (q:=f.y) (by rw[uU];omega) (by rw[uU];omega) (by rw[uU];omega)]
def Curve.col(C:Curve v m){b j:Nat}(hj:j<m+3)(h:b=0->j≠m+2):∀a,b+a<j->
  lH (λi=>cr (sub (v j) (v (b+i))) (sub (v j) (v (b+i+1)))) a+cr (sub (v j) (v (b+a))) (sub (v (j+1)) (v (b+a)))=
  cr (sub (v j) (v b)) (sub (v (j+1)) (v b))+lH (λi=>cr (sub (v (j+1)) (v (b+i))) (sub (v (j+1)) (v (b+i+1)))) a
 |0,_=>by simp[lH]
 |a+1,ha=>by
  have ih:=C.col hj h a (by omega);have c:=C.cell (i:=b+a) (j:=j) (by omega) hj (by omega);rw[lH,lH];grind
def Curve.diag(C:Curve v m){i:Nat}(hi:i+1<m+3):cr (sub (v (i+1)) (v i)) (sub (v (i+2)) (v (i+1)))=cr (sub (v (i+1)) (v i)) (sub (v (i+2)) (v i))+cr (sub (v (i+2)) (v i)) (sub (v (i+2)) (v (i+1))):=by
 rw[T4 (C.turn i hi)];have e:(⟨(sub (v (i+1)) (v i)).x+(sub (v (i+2)) (v (i+1))).x,(sub (v (i+1)) (v i)).y+(sub (v (i+2)) (v (i+1))).y⟩:V)=sub (v (i+2)) (v i):=by unfold sub;simp only[V.mk.injEq];omega
 rw[e]
def Curve.part(C:Curve v m):∀k,k<m+2->lH (λi=>cr (sub (v (i+1)) (v i)) (sub (v (i+2)) (v (i+1)))) k=
  lH (λj=>cr (sub (v (j+1)) (v 0)) (sub (v (j+2)) (v 0))) k+lH (λi=>cr (sub (v (k+1)) (v i)) (sub (v (k+1)) (v (i+1)))) k
 |0,_=>by simp[lH]
 |k+1,hk=>by
  have ih:=C.part k (by omega);have d:=C.diag (i:=k) (by omega);have c:=C.col (b:=0) (j:=k+1) (by omega) (by omega) k (by omega);rw[lH,lH,lH];grind
end
end Geo
end
namespace Geo
def vv(r:aD)(i:Nat):V:=nth r (i % r.length)
end Geo
section
namespace Geo
def On(o:Bool)(v x:V):Prop:=if o=true then Up (sub x v)else Dn (sub x v)
def xx{v x:V}(h:x≠v)(o:Bool):On o v x\/On (!o) v x:=by
 have:Up (sub x v)\/Dn (sub x v):=by
  rcases PO (sub x v)with g|g|g
  .exact .inl g
  .exact .inr g
  .exact absurd g (F9 h.symm)
 unfold On;grind
def On.not{o:Bool}{v x:V}(h:On o v x):¬On (!o) v x:=by
 unfold On at*;cases o<;>simp at h|-
 .exact λg=>g.not h
 .exact h.not
def tv(o:Bool)(v x:V):V:=if o=true then sub x v else neg (sub x v)
def pj(o:Bool)(v x:V):On o v x↔Up (tv o v x):=by
 unfold On tv;cases o
 .simp[xY]
 .simp
def AP(o:Bool)(v x y:V):cross (tv o v x) (tv o v y)=ev (lin v x) (pt y):=by
 rw[eM];unfold tv;cases o
 .simp[Kw]
 .simp
def Pu{o:Bool}{v x:V}(h:On (!o) v x):Dn (tv o v x):=by
 unfold On at h;unfold tv;cases o
 .simp at h;simp[qp,h]
 grind
def AZ{y z:V}{α β:Int}(hy:Up y)(hz:Up z)(ha:0<=α)(hb:0<β):Up ⟨α*y.x+β*z.x,α*y.y+β*z.y⟩:=by rw[<-qp];have:=Ak ((qp y).2 hy) ((qp z).2 hz) ha hb;unfold neg at this|-;grind
def Ay{x:V}{k:Int}(hx:Up x)(h:Up ⟨k*x.x,k*x.y⟩):0<k:=by
 refine ki.1 λg=> ?_;rcases bo k 0 with g'|g'
 .refine h.not ?_;have:=Ak ((qp x).2 hx) ((qp x).2 hx) (iz 0) (show 0< -k by omega);unfold neg at this;grind
 .have:k=0:=by omega
  subst this;unfold Up at h;simp at h
def VE{x y z:V}(_hx:Up x)(hy:Up y)(hz:Up z)(h1:0<cross x y)(h2:0<cross y z):0<cross x z:=by refine Ay hy ?_;have:=AZ hz _hx (show 0<=cross x y by omega) h2;rw[show cross x z*y.x=cross x y*z.x+cross y z*x.x by unfold cross;grind,show cross x z*y.y=cross x y*z.y+cross y z*x.y by unfold cross;grind];exact this
def Zz{t u z:V}(ht:Dn t)(hu:Up u)(hz:Up z)(h1:0<cross t z)(h2:0<cross u z):0<cross t u:=by refine Ay hz ?_;have:=AZ hu ((xY t).2 ht) (show 0<=cross t z by omega) h2;unfold neg at this;rw[show cross t u*z.x=cross t z*u.x+cross u z* -t.x by unfold cross;grind,show cross t u*z.y=cross t z*u.y+cross u z* -t.y by unfold cross;grind];exact this
def Ya{x u y:V}(hx:Up x)(hu:Up u)(hy:Dn y)(h1:0<cross x y)(h2:0<cross x u):0<cross u y:=by refine Ay hx ?_;have:=AZ hu ((xY y).2 hy) (show 0<=cross x y by omega) h2;unfold neg at this;rw[show cross u y*x.x=cross x y*u.x+cross x u* -y.x by unfold cross;grind,show cross u y*x.y=cross x y*u.y+cross x u* -y.y by unfold cross;grind];exact this
def Yb{x y:V}(hx:Up x)(hy:Up y)(h:cross x y=0):0<x.x*y.x+x.y*y.y:=by
 have e1:(x.x*y.x+x.y*y.y)*x.x=(x.x*x.x+x.y*x.y)*y.x:=by unfold cross at h;grind
 have e2:(x.x*y.x+x.y*y.y)*x.y=(x.x*x.x+x.y*x.y)*y.y:=by unfold cross at h;grind
 refine Ay hx ?_;have k:0<x.x*x.x+x.y*x.y:=by
  have:=qL x.x;have:=qL x.y;unfold Up at hx;rcases hx with g|⟨_,g⟩
  .have:=A6 (show x.y≠0 by omega);omega
  .have:=A6 (show x.x≠0 by omega);omega
 have:=AZ hy hy (iz 0) k;grind
def F5{α:Type}{R:α->α->Prop}:∀{l:List α},l≠[]->(∀x∈l,∀y∈l,x=y\/R x y\/R y x)->(∀x∈l,∀y∈l,∀z∈l,R x y->R y z->R x z)->∃m∈l,∀y∈l,y=m\/R y m
 |[],h,_,_=>absurd rfl h
 |[x],_,_,_=>⟨x,by grind,by grind⟩
 |x::y::l,_,ht,hr=>by
  obtain⟨m,hm,h⟩:=F5 (l:=y::l) (by simp) (by grind) (λa ha b hb c hc=>hr a (cB _ ha) b (cB _ hb) c (cB _ hc));grind
section
variable {W:List V} {side:V->V->Prop} {ins:P3->Bool}
def Ccw(v x y:V):Prop:=0<ev (lin v x) (pt y)
def uF{v x y:V}(h:Ccw v x y):¬Ccw v y x:=by unfold Ccw at*;rw[show ev (lin v y) (pt x)= -ev (lin v x) (pt y) by unfold ev lin pt;grind];omega
def Ap(N:Net W side){o:Bool}{v x y:V}(hx:side v x)(hy:side v y)(ox:On o v x)(oy:On o v y):x=y\/Ccw v x y\/Ccw v y x:=by
 unfold Ccw;rw[show ev (lin v y) (pt x)= -ev (lin v x) (pt y) by unfold ev lin pt;grind];by_cases h:ev (lin v x) (pt y)=0
 .left;refine(N.ray hx hy h ?_).symm;have d:=Yb ((pj o v x).1 ox) ((pj o v y).1 oy) (by rw[AP];exact h);have:(tv o v x).x*(tv o v y).x+(tv o v x).y*(tv o v y).y=ev (aY v x) (pt y):=by unfold tv ev aY pt sub neg;cases o<;>simp<;>grind
  omega
 .omega
def Ky{o:Bool}{v x y z:V}(ox:On o v x)(oy:On o v y)(oz:On o v z)(h1:Ccw v x y)(h2:Ccw v y z):Ccw v x z:=by unfold Ccw at*;rw[<-AP o]at*;exact VE ((pj o v x).1 ox) ((pj o v y).1 oy) ((pj o v z).1 oz) h1 h2
def Tri.sector(N:Net W side){a b c:V}(h:Tri W side ins a b c){x:V}(hx:side a x):¬(Ccw a b x/\Ccw a x c):=by
 unfold Ccw;rintro⟨h1,h2⟩;have h2':0<ev (lin c a) (pt x):=by rw[<-gk c a x];exact h2
 obtain⟨f,hf,hle⟩:=h.free N a x hx (1+(ev (lin b c) (pt x)).natAbs) 1 (by omega) (by omega) (by omega);dsimp only at hle;simp only[bO,cl,or_false]at hf;rcases hf with rfl|rfl|rfl
 .rw[cG,dw]at hle;omega
 .rw[gk a b c]at hle;have:=dg (show 1<=ev (lin a b) (pt c) by have:=h.left;omega) (show 0<=1+((ev (lin b c) (pt x)).natAbs:Int) by omega);omega
 .rw[cZ,dw]at hle;omega
def Mid(W:List V)(side:V->V->Prop)(ins:P3->Bool)(o:Bool)(v x:V):Prop:=On o v x/\∃y,Tri W side ins v x y/\On (!o) v y
def Mid.top(N:Net W side){o:Bool}{v x z:V}(h:Mid W side ins o v x)(hz:side v z)(oz:On o v z):z=x\/Ccw v z x:=by
 obtain⟨ox,y,T,oy⟩:=h;rcases Ap N hz T.ab oz ox with e|e|e
 .exact .inl e
 .exact .inr e
 .refine absurd ⟨e,?_⟩ (T.sector N hz);unfold Ccw at*;have hl:=T.left;rw[<-AP o]at*;exact Ya ((pj o v x).1 ox) ((pj o v z).1 oz) (Pu oy) hl e
open Classical in
def Js(N:Net W side){o:Bool}{v x:V}{P:V->Prop}(hx:side v x)(ox:On o v x)(px:P x):∃z,side v z/\On o v z/\P z/\∀y,side v y->On o v y->P y->y=z\/Ccw v y z:=by
 have mm:∀{y},y∈W.filter (λz=>decide (side v z/\On o v z/\P z))↔side v y/\On o v y/\P y:=λ{y}=>
  ⟨by grind,λh=>fB.2 ⟨N.mem (N.symm h.1),decide_eq_true h⟩⟩
 obtain⟨z,hz,h⟩:=F5 (R:=Ccw v) (by grind) (λa ha b hb=>Ap N (mm.1 ha).1 (mm.1 hb).1 (mm.1 ha).2.1 (mm.1 hb).2.1)
  (λa ha b hb c hc=>Ky (mm.1 ha).2.1 (mm.1 hb).2.1 (mm.1 hc).2.1)
 grind
open Classical in
def Jt(N:Net W side){o:Bool}{v x:V}{P:V->Prop}(hx:side v x)(ox:On o v x)(px:P x):∃z,side v z/\On o v z/\P z/\∀y,side v y->On o v y->P y->y=z\/Ccw v z y:=by
 have mm:∀{y},y∈W.filter (λz=>decide (side v z/\On o v z/\P z))↔side v y/\On o v y/\P y:=λ{y}=>
  ⟨by grind,λh=>fB.2 ⟨N.mem (N.symm h.1),decide_eq_true h⟩⟩
 obtain⟨z,hz,h⟩:=F5 (R:=λa b=>Ccw v b a) (by grind) (λa ha b hb=>by
   rcases Ap N (mm.1 ha).1 (mm.1 hb).1 (mm.1 ha).2.1 (mm.1 hb).2.1 with e|e|e
   .exact .inl e
   .grind
   grind)
  (λa ha b hb c hc h1 h2=>Ky (mm.1 hc).2.1 (mm.1 hb).2.1 (mm.1 ha).2.1 h2 h1)
 grind
structure Vtx(W:List V)(side:V->V->Prop)(ins:P3->Bool)(v u w:V):Prop where
 fill:Filled W side ins
 su:side v u
 sw:side v w
 lw:Lft ins v w
 lu:¬Lft ins v u
 out:∀x,side v x->x≠u->Lft ins v x
 inn:∀x,side v x->x≠w->Lft ins x v
variable {v u w:V}
def Mv(X:Vtx W side ins v u w){o:Bool}{x:V}(hx:side v x)(ox:On o v x)(hu:x≠u)(ht:∀y,side v y->On o v y->y=x\/Ccw v y x):Mid W side ins o v x:=by
 have N:=X.fill.net;obtain⟨y,T⟩:=z7 X.fill hx (X.out x hx hu);refine⟨ox,y,T,?_⟩;have hy:=N.symm T.ca;rcases xx (N.ne T.ca) o with g|g
 .rcases ht y hy g with e|e
  .exact absurd e.symm (N.ne T.bc)
  .exact absurd e (uF T.left)
 .exact g
def Nl(X:Vtx W side ins v u w){o:Bool}(hu:¬On o v u){x:V}(hx:side v x)(ox:On o v x):∃x,Mid W side ins o v x:=by obtain⟨z,z1,z2,_,z3⟩:=Js X.fill.net (P:=λ_=>True) hx ox trivial;exact⟨z,Mv X z1 z2 (by grind) (by grind)⟩
def KU(X:Vtx W side ins v u w){o:Bool}(hu:On o v u){x:V}(hx:side v x)(ox:On o v x)(h:Ccw v u x):∃x,Mid W side ins o v x:=by
 obtain⟨z,z1,z2,_,z3⟩:=Js X.fill.net (P:=λ_=>True) hx ox trivial;refine⟨z,Mv X z1 z2 (λe=> ?_) (by grind)⟩;subst e;rcases z3 x hx ox trivial with e|e
 .subst e;exact uF h h
 .exact uF h e
def Ei(X:Vtx W side ins v u w){o:Bool}(hu:On o v u)(hw:On o v w->Ccw v w u):¬∃x,Mid W side ins o v x:=by
 rintro⟨x,M⟩;have N:=X.fill.net;obtain⟨ox,y,T,oy⟩:=id M;have hxu:x≠u:=λe=>X.lu (by rw[<-e];exact T.lft X.fill);have hux:Ccw v u x:=(M.top N X.su hu).resolve_left (by grind);obtain⟨z,z1,z2,z3,z4⟩:=Jt N (P:=λz=>Ccw v u z) T.ab ox hux;have hzw:z≠w:=λe=>uF (hw (e▸z2)) (e▸z3);obtain⟨t,T2⟩:=z7 X.fill (N.symm z1) (X.inn z z1 hzw);have T3:Tri W side ins v t z:=T2.rot;have htz:Ccw v t z:=T3.left;have st:=T3.ab;by_cases ot:On o v t
 .rcases Ap N X.su st hu ot with e|e|e
  .exact X.lu (by rw[e];exact T3.lft X.fill)
  .rcases z4 t st ot e with e'|e'
   .exact N.ne T3.bc e'
   .exact uF htz e'
  .exact T3.sector N X.su ⟨e,z3⟩
 .have ot':=(xx (N.ne (N.symm st)) o).resolve_left ot;refine T3.sector N X.su ⟨?_,z3⟩;unfold Ccw at*;rw[<-AP o]at*;exact Zz (Pu ot') ((pj o v u).1 hu) ((pj o v z).1 z2) htz z3
def Vz(X:Vtx W side ins v u w){o:Bool}(hu:On (!o) v u)(hw:On (!o) v w)(h:Ccw v w u):¬∃x,Mid W side ins o v x:=by
 rintro⟨x,M⟩;have N:=X.fill.net;obtain⟨ox,y,T,oy⟩:=id M;obtain⟨z,z1,z2,_,z4⟩:=Jt N (P:=λ_=>True) T.ab ox trivial;have hzw:z≠w:=λe=>z2.not (e▸hw);obtain⟨t,T2⟩:=z7 X.fill (N.symm z1) (X.inn z z1 hzw);have T3:Tri W side ins v t z:=T2.rot;have st:=T3.ab;have ot':On (!o) v t:=by
  refine(xx (N.ne (N.symm st)) o).resolve_left λot=> ?_;rcases z4 t st ot trivial with e|e
  .exact N.ne T3.bc e
  .exact uF T3.left e
 exact Ei X hu (λ_=>h) ⟨t,ot',z,T3,by grind⟩
def Ub(X:Vtx W side ins v u w){o:Bool}(hu:On (!o) v u)(hw:On (!o) v w)(h:Ccw v u w):∃x,Mid W side ins o v x:=by
 have N:=X.fill.net;by_cases hx:∃x,side v x/\On o v x
 .obtain⟨x,h1,h2⟩:=hx;exact Nl X (λg=>g.not hu) h1 h2
 .exfalso;obtain⟨x,ox,y,T,oy⟩:=KU X hu X.sw hw h;rw[Bool.not_not]at oy;exact hx ⟨y,N.symm T.ca,oy⟩
open Classical in
noncomputable def cnt(W:List V)(side:V->V->Prop)(ins:P3->Bool)(o:Bool)(v:V):Int:=if∃x,Mid W side ins o v x then 1 else 0
def Fs{o:Bool}(h:∃x,Mid W side ins o v x):cnt W side ins o v=1:=if_pos h
def Ez{o:Bool}(h:¬∃x,Mid W side ins o v x):cnt W side ins o v=0:=if_neg h
def PP{x:V}:Up (sub x v)↔On true v x:=by unfold On;simp
def OP{x:V}:Up (sub v x)↔On false v x:=by unfold On;rw[<-sub_neg,xY];simp
def Vtx.count(X:Vtx W side ins v u w)(ht:cross (sub v u) (sub w v)≠0):cnt W side ins true v+cnt W side ins false v=1-cr (sub v u) (sub w v):=by
 have N:=X.fill.net;have eu:ev (lin v w) (pt u)=cross (sub v u) (sub w v):=by rw[eM];unfold cross sub;grind
 have ew:ev (lin v u) (pt w)= -cross (sub v u) (sub w v):=by rw[eM];unfold cross sub;grind
 have ou:=xx (N.ne (N.symm X.su));have ow:=xx (N.ne (N.symm X.sw));have diff:∀o,On o v u->On (!o) v w->cnt W side ins o v=0/\cnt W side ins (!o) v=1:=λo h1 h2=>
  ⟨Ez (Ei X h1 λg=>absurd h2 g.not),Fs (Nl X (λg=>h1.not g) X.sw h2)⟩
 have same:∀o,On o v u->On o v w->cnt W side ins o v+cnt W side ins (!o) v=1-sgn (cross (sub v u) (sub w v)):=λo h1 h2=>by
  have h1':On (!(!o)) v u:=by rw[Bool.not_not];exact h1
  have h2':On (!(!o)) v w:=by rw[Bool.not_not];exact h2
  rcases lK ht with g|g
  .have k:Ccw v u w:=by unfold Ccw;rw[ew];omega
   rw[Fs (KU X h1 X.sw h2 k),Fs (Ub X h1' h2' k),show sgn (cross (sub v u) (sub w v))= -1 by unfold sgn;omega];rfl
  .have k:Ccw v w u:=by unfold Ccw;rw[eu];exact g
   rw[Ez (Ei X h1 λ_=>k),Ez (Vz X h1' h2' k),show sgn (cross (sub v u) (sub w v))=1 by unfold sgn;rw[if_pos g]];rfl
 by_cases c:Up (sub v u)↔Up (sub w v)
 .rw[uN c];rw[OP,PP]at c;grind
 .rw[sC c];rw[OP,PP]at c;grind
end
end Geo
end
section
namespace Geo
section
variable {s:Shape} {D:List S}
end
open Classical in
open Classical in
open Classical in
section
variable {s:Shape} {D:List S}
end
end Geo
end
section
namespace Geo
section
variable {s:Shape} {D:List S}
end
end Geo
end
section
namespace Geo
section
variable {s:Shape} {D:List S}
structure Idx(s:Shape)(D:List S)(v:List V)(L:List (Nat×Nat×Nat)):Prop where
 nodup:L.Nodup
 mem:∀i j k,(i,j,k)∈L↔i<j/\j<k/\k<v.length/\sides s D (nth v i) (nth v j)/\sides s D (nth v i) (nth v k)/\sides s D (nth v j) (nth v k)/\O9 s v i j k=true
end
end Geo
end
section
namespace Geo
section
variable (s:Shape) (v:List V) (T:Tab)
def kL(i j:Nat):Nat->List (Nat×Nat×Nat)
 |0=>[]
 |m+1=>kL i j m++(if T i (j+1+m)&&(T j (j+1+m)&&O9 s v i j (j+1+m))then [(i,j,j+1+m)]else [])
def jL(i:Nat):Nat->List (Nat×Nat×Nat)
 |0=>[]
 |m+1=>jL i m++(if T i (i+1+m)then kL s v T i (i+1+m) (v.length-(i+1+m+1))else [])
def iL:Nat->List (Nat×Nat×Nat)
 |0=>[]
 |i+1=>iL i++jL s v T i (v.length-(i+1))
variable {s v T}
end
section
variable {s:Shape} {v:List V} {T:Tab}
end
end Geo
end
section
namespace Geo
def T3.ring(t:T3):aD:=[t.a,t.b,t.c]
def Rt(t u:T3):Prop:=t=u\/t=u.rot\/t=u.rot.rot
def Rt.symm{t u:T3}(h:Rt t u):Rt u t:=by
 rcases h with rfl|rfl|rfl
 .exact .inl rfl
 .exact .inr (.inr rfl)
 .exact .inr (.inl rfl)
def Rt.trans{t u w:T3}(h:Rt t u)(g:Rt u w):Rt t w:=by
 rcases h with rfl|rfl|rfl<;>rcases g with rfl|rfl|rfl
 .exact .inl rfl
 .exact .inr (.inl rfl)
 .exact .inr (.inr rfl)
 .exact .inr (.inl rfl)
 .exact .inr (.inr rfl)
 .exact .inl rfl
 .exact .inr (.inr rfl)
 .exact .inl rfl
 .exact .inr (.inl rfl)
section
variable {W:List V} {side:V->V->Prop} {ins:P3->Bool}
end
end Geo
end
section
namespace Geo
section
variable {s:Shape} {D:List S}
end
end Geo
end
section
namespace Geo
def Bet(q:P3)(a b:V):Prop:=∃x y k:Int,0<=x/\0<=y/\0<k/\cmb x (pt a) y (pt b)=cmb k q 0 q
def Bet.swap{q:P3}{a b:V}(h:Bet q a b):Bet q b a:=by obtain⟨x,y,k,h1,h2,h3,h4⟩:=h;exact⟨y,x,k,h2,h1,h3,by rw[kU];exact h4⟩
section
variable {s:Shape} {D:List S}
end
end Geo
end
section
namespace Geo
section
variable {s:Shape} {D:List S}
variable (T:Tg s D) {q:Pt} (hq:dO q=true) (hqd:0<q.den)
include T hq hqd
end
end Geo
end
namespace Geo
def gK(v:V):Prop:=0<v.y\/(v.y=0/\0<v.x)
instance(v:V):Decidable (gK v):=by unfold gK;infer_instance
def dot(a b:V):Int:=a.x*b.x+a.y*b.y
def alt(a b:V):Prop:=(gK a/\¬gK b)\/((gK a↔gK b)/\0<cross a b)
instance(a b:V):Decidable (alt a b):=by unfold alt;infer_instance
def ul(f t:V):Int:=if 0<cross f t then 0 else if cross f t<0 then 2 else if dot f t<0 then 1 else 3
def pg(f a b:V):Bool:=decide (ul f a<ul f b)||(decide (ul f a=ul f b)&&decide (0<cross a b))
def nz(v:V):Prop:=¬(v.x=0/\v.y=0)
def iG(a b:V):Prop:=¬(cross a b=0/\0<=dot a b)
def MW(a b:V):dot b a=dot a b:=by unfold dot;grind
def iG.symm{a b:V}(h:iG a b):iG b a:=λ⟨h1,h2⟩=>h ⟨by rw[iO]at h1;omega,by rw[MW]at h2;exact h2⟩
def FT{a:V}(ha:gK a){k:Int}(hk:0<=k):0<=k*a.y/\(k*a.y=0->0<=k*a.x/\(k*a.x=0->k=0)):=by
 rcases ha with h|⟨h,h2⟩
 .refine⟨cM hk (by omega),λh0=> ?_⟩;rcases dd.1 h0 with h1|h1
  .grind
  .omega
 .rw[h,dw];refine⟨iz _,λ_=>⟨cM hk (by omega),λh0=> ?_⟩⟩;rcases dd.1 h0 with h1|h1
  .exact h1
  .omega
def aBB{a b c:V}(ha:gK a)(hb:gK b)(hc:gK c){i j k:Int}(hi:0<=i)(hj:0<=j)(hk:0<=k)(hx:i*a.x+j*b.x+k*c.x=0)(hy:i*a.y+j*b.y+k*c.y=0):i=0/\j=0/\k=0:=by obtain⟨a1,a2⟩:=FT ha hi;obtain⟨b1,b2⟩:=FT hb hj;obtain⟨c1,c2⟩:=FT hc hk;omega
def eV(v:V):Int:=if gK v then 1 else-1
def GS{v:V}(h:nz v):gK ⟨eV v*v.x,eV v*v.y⟩:=by
 unfold eV nz at*;by_cases hp:gK v
 .simp_all
 .unfold gK at*;grind
def Gy(v:V):eV v*eV v=1:=by unfold eV;split<;>rfl
def Z1(u v w:V):cross u v*w.x+cross v w*u.x+cross w u*v.x=0/\cross u v*w.y+cross v w*u.y+cross w u*v.y=0:=by unfold cross;grind
def wh{u v w:V}(hu:nz u)(hv:nz v)(hw:nz w)(h1:0<=eV w*cross u v)(h2:0<=eV u*cross v w)(h3:0<=eV v*cross w u):cross u v=0/\cross v w=0/\cross w u=0:=by obtain⟨x,y⟩:=Z1 u v w;have sw:=Gy w;have su:=Gy u;have sv:=Gy v;have key:=aBB (GS hw) (GS hu) (GS hv) h1 h2 h3 (by grind) (by grind);grind
def zH{u v w:V}(hu:nz u)(hv:nz v)(hw:nz w)(h1:eV w*cross u v<=0)(h2:eV u*cross v w<=0)(h3:eV v*cross w u<=0):cross u v=0/\cross v w=0/\cross w u=0:=by have:=wh hv hu hw (by rw[iO u v,mJ];omega) (by rw[iO w u,mJ];omega) (by rw[iO v w,mJ];omega);rw[iO u v,iO w u,iO v w]at this;omega
def pD{u v:V}(hu:nz u)(hv:nz v)(h:cross u v=0):(0<dot u v/\(gK u↔gK v))\/(dot u v<0/\(gK u↔¬gK v)):=by
 have e1:dot u u*v.x=dot u v*u.x:=by unfold dot cross at*;grind
 have e2:dot u u*v.y=dot u v*u.y:=by unfold dot cross at*;grind
 have hd:0<dot u u:=by
  unfold dot nz at*;have sq:∀x:Int,0<=x*x:=λx=>by
   rcases Int.le_total 0 x with h|h
   .exact cM h h
   .have:=cM (show 0<= -x by omega) (show 0<= -x by omega);grind
  have h1:=sq u.x;have h2:=sq u.y;by_cases hx:u.x=0
  .have hy:u.y≠0:=by grind
   have:u.y*u.y≠0:=λh=>by rcases dd.1 h with h|h<;>exact hy h
   omega
  .have:u.x*u.x≠0:=λh=>by rcases dd.1 h with h|h<;>exact hx h
   omega
 generalize dot u u=d at*;generalize dot u v=k at*;have sg:∀a b:Int,d*a=k*b->(0<k->(0<a↔0<b)/\(a=0↔b=0))/\(k<0->(0<a↔b<0)/\(a=0↔b=0)/\(a<0↔0<b))/\(k=0->a=0):=by
  intro a b e;obtain⟨p1,p2,p3,p4,p5,p6⟩:=Pi d a;obtain⟨q1,q2,q3,q4,q5,q6⟩:=Pi k b;refine⟨λhk=> ?_,λhk=> ?_,λhk=> ?_⟩
  .grind
  .grind
  .grind
 obtain⟨x1,x2,x3⟩:=sg _ _ e1;obtain⟨y1,y2,y3⟩:=sg _ _ e2;rcases vM k 0 with hk|hk|hk
 .unfold gK nz at*;omega
 .exact absurd (by grind) hv
 .unfold gK;omega
def Hg(u v w:V):Prop:=(alt u v/\alt v w)\/(alt v w/\alt w u)\/(alt w u/\alt u v)
def XC{u v w:V}(hu:nz u)(hv:nz v)(hw:nz w)(_h1:iG u v)(_h2:iG v w)(_h3:iG w u):pg u v w=true↔Hg u v w:=by have t1:=wh hu hv hw;have t2:=zH hu hv hw;have l1:=pD hu hv;have l3:=pD hw hu;have d3:=MW w u;have c3:=iO w u;unfold iG at _h1 _h2 _h3;unfold eV at t1 t2;unfold pg Hg alt ul;generalize cross u v=a at*;grind
end Geo
section
namespace Geo
def E8{a b:V}(h:alt a b):¬alt b a:=by have c:=iO a b;unfold alt at*;grind
def qx(p q:V)(cw:Bool)(b:V):List V->V
 |[] =>b
 |x::l=>if x=q then qx p q cw b l else if b=q\/pg (sub q p) (sub x p) (sub b p)≠cw then qx p q cw x l else qx p q cw b l
def fJ(l:List V)(p q:V)(cw:Bool):V:=qx p q cw q l
def mW{p q m:V}{cw:Bool}(hm:m≠q){S:V->Prop}(H1:∀x,S x->x≠q->x≠m->pg (sub q p) (sub m p) (sub x p)≠cw)(H2:∀x,S x->x≠q->x≠m->¬pg (sub q p) (sub x p) (sub m p)≠cw):
  ∀(l:List V) (b:V),(∀x∈l,S x)->(b=q\/S b)->(b=m\/m∈l)->qx p q cw b l=m
 |[],b,_,_,h=>by
  rcases h with h|h
  .exact h
  .cases h
 |x::l,b,hl,hb,h=>by
  have hl':∀y∈l,S y:=by grind
  have hx:=hl x cE;unfold qx;by_cases e1:x=q
  .rw[if_pos e1];refine mW hm H1 H2 l b hl' hb ?_;grind
  .rw[if_neg e1];by_cases e2:x=m
   .subst e2;by_cases e3:b=x
    .subst e3;split
     .exact mW hm H1 H2 l b hl' (.inr hx) (.inl rfl)
     .exact mW hm H1 H2 l b hl' (.inr hx) (.inl rfl)
    .rw[if_pos]
     .exact mW hm H1 H2 l x hl' (.inr hx) (.inl rfl)
     grind
   .by_cases e3:b=m
    .subst e3;rw[if_neg]
     .exact mW hm H1 H2 l b hl' hb (.inl rfl)
     grind
    .have hml:m∈l:=by
      rcases h with h|h
      .grind
      .grind
     split
     .exact mW hm H1 H2 l x hl' (.inr hx) (.inr hml)
     .exact mW hm H1 H2 l b hl' hb (.inr hml)
def zG{p q:V}{cw:Bool}:∀(l:List V),(∀x∈l,x=q)->qx p q cw q l=q
 |[],_=>rfl
 |x::l,h=>by
  unfold qx;rw[if_pos (h x (by grind))];exact zG l (by grind)
structure Fan(p:V)(L:List V):Prop where
 nz:∀x∈L,nz (sub x p)
 apart:∀x∈L,∀y∈L,x≠y->iG (sub x p) (sub y p)
 sorted:L.Pairwise λa b=>alt (sub a p) (sub b p)
def OO(a:V):¬alt a a:=λh=>E8 h h
section
variable {p:V} {L:List V}
def Fan.nodup(F:Fan p L):L.Nodup:=CS (R:=λa b=>alt (sub a p) (sub b p)) (λ{a b} h (e:a=b)=>by subst e;exact OO _ h) F.sorted
def Fan.lt(F:Fan p L){i j:Nat}(hi:i<L.length)(hj:j<L.length)(h:i<j):alt (sub L[i] p) (sub L[j] p):=nB.1 F.sorted i j hi hj h
def Fan.ix(F:Fan p L){i j:Nat}(hi:i<L.length)(hj:j<L.length):alt (sub L[i] p) (sub L[j] p)↔i<j:=by
 constructor
 .intro h;rcases yR i j with h1|h1|h1
  .exact h1
  .subst h1;exact absurd h (OO _)
  .exact absurd h (E8 (F.lt hj hi h1))
 .exact F.lt hi hj
def Fan.ne(F:Fan p L){i j:Nat}(hi:i<L.length)(hj:j<L.length)(h:i≠j):L[i]≠L[j] :=by
 rcases Nat.lt_or_gt_of_ne h with h1|h1
 .exact nB.1 F.nodup i j hi hj h1
 .exact(nB.1 F.nodup j i hj hi h1).symm
def Fan.soon(F:Fan p L){i j k:Nat}(hi:i<L.length)(hj:j<L.length)(hk:k<L.length)(h1:i≠j)(h2:j≠k)(h3:k≠i):
  pg (sub L[i] p) (sub L[j] p) (sub L[k] p)=true↔(i<j/\j<k)\/(j<k/\k<i)\/(k<i/\i<j):=by
 have m:∀{i:Nat} (hi:i<L.length),L[i]∈L:=by grind
 rw[XC (F.nz _ (m hi)) (F.nz _ (m hj)) (F.nz _ (m hk)) (F.apart _ (m hi) _ (m hj) (F.ne hi hj h1)) (F.apart _ (m hj) _ (m hk) (F.ne hj hk h2)) (F.apart _ (m hk) _ (m hi) (F.ne hk hi h3))];unfold Hg;rw[F.ix hi hj,F.ix hj hk,F.ix hk hi]
def Fan.next(F:Fan p L){l:List V}(hl:∀x,x∈l↔x∈L){i:Nat}(hi:i<L.length){j:Nat}(hj:j<L.length)(hij:j=(i+1) % L.length):fJ l p L[i] false=L[j] :=by
 by_cases h1:L.length=1
 .have e:j=i:=by rw[hij,h1];omega
  subst e;refine zG l λx hx=> ?_;obtain⟨k,hk,rfl⟩:=ib.1 ((hl x).1 hx);grind
 .have hc:(j=i+1/\i+1<L.length)\/(j=0/\i+1=L.length):=by
   by_cases h:i+1<L.length
   .rw[hij,dj h];omega
   .have:i+1=L.length:=by omega
    simp_all
  have hne:j≠i:=by omega
  refine mW (S:=λx=>x∈L) (F.ne hj hi hne) ?_ ?_ l _ (by grind) (.inl rfl) (by grind)
  .intro x hx e1 e2;obtain⟨k,hk,rfl⟩:=ib.1 hx;have k1:k≠i:=by grind
   have k2:k≠j:=by grind
   rw[(F.soon hi hj hk (oh hne) (oh k2) k1).2 (by omega)];simp
  .intro x hx e1 e2;obtain⟨k,hk,rfl⟩:=ib.1 hx;have k1:k≠i:=by grind
   have k2:k≠j:=by grind
   have:=mt (F.soon hi hk hj (oh k1) k2 hne).1 (by omega);grind
def Fan.prev(F:Fan p L){l:List V}(hl:∀x,x∈l↔x∈L){i:Nat}(hi:i<L.length){j:Nat}(hj:j<L.length)(hij:j=(i+L.length-1) % L.length):fJ l p L[i] true=L[j] :=by
 by_cases h1:L.length=1
 .have e:j=i:=by omega
  subst e;refine zG l λx hx=> ?_;obtain⟨k,hk,rfl⟩:=ib.1 ((hl x).1 hx);grind
 .have hc:(i=j+1)\/(i=0/\j+1=L.length):=by
   by_cases h:i=0
   .rw[hij,dj (by omega)];omega
   .rw[hij,show i+L.length-1=(i-1)+L.length by omega,od,dj (by omega)];omega
  have hne:j≠i:=by omega
  refine mW (S:=λx=>x∈L) (F.ne hj hi hne) ?_ ?_ l _ (by grind) (.inl rfl) (by grind)
  .intro x hx e1 e2;obtain⟨k,hk,rfl⟩:=ib.1 hx;have k1:k≠i:=by grind
   have k2:k≠j:=by grind
   have:=mt (F.soon hi hj hk (oh hne) (oh k2) k1).1 (by omega);omega
  .intro x hx e1 e2;obtain⟨k,hk,rfl⟩:=ib.1 hx;have k1:k≠i:=by grind
   have k2:k≠j:=by grind
   rw[(F.soon hi hk hj (oh k1) k2 hne).2 (by omega)];simp
end
end Geo
end
section
namespace Geo
section
variable {W:List V} {side:V->V->Prop}
def kD{a p:V}(h:a≠p):nz (sub a p):=λ⟨h1,h2⟩=>h (by obtain⟨ax,ay⟩:=a;obtain⟨px,py⟩:=p;unfold sub at h1 h2;grind)
def Net.fanApart(N:Net W side){p x y:V}(hx:side p x)(hy:side p y)(hne:x≠y):iG (sub x p) (sub y p):=λ⟨h1,h2⟩=>hne (by
 symm;refine N.ray hx hy (by rw[eM];exact h1) ?_;have e:ev (aY p x) (pt y)=dot (sub x p) (sub y p):=by unfold ev aY pt dot sub;grind
 omega)
def aAI(N:Net W side){p:V}{L:List V}(h:∀x∈L,side p x)(hs:L.Pairwise λa b=>alt (sub a p) (sub b p)):Fan p L where
 nz:=λx hx=>kD (N.ne (h x hx)).symm
 apart:=λx hx y hy hne=>N.fanApart (h x hx) (h y hy) hne
 sorted:=hs
end
def Wn{a b c:V}(ha:nz a)(hb:nz b)(hc:nz c)(h1:alt a b)(h2:alt b c):alt a c:=by have t1:=wh ha hb hc;have t2:=zH ha hb hc;have c3:=iO a c;unfold eV at t1 t2;unfold alt at*;grind
def Zx{a b:V}(ha:nz a)(hb:nz b)(h:iG a b)(h1:¬alt a b):alt b a:=by have l:=pD ha hb;have c:=iO a b;unfold iG at h;unfold alt at*;grind
end Geo
end
section
namespace Geo
def ct:V->List V->List S
 |_,[] =>[]
 |a,x::l=>⟨a,x⟩::ct x l
def cyc:List V->List S
 |[] =>[]
 |a::l=>ct a (l++[a])
def tK:∀(a:V) (l:List V) (x:V) (m:List V),ct a (l++x::m)=ct a (l++[x])++ct x m
 |a,[],x,m=>rfl
 |a,y::l,x,m=>by
  show(⟨a,y⟩:S)::ct y (l++x::m)=(⟨a,y⟩:S)::(ct y (l++[x])++ct x m);rw[tK y l x m]
def zb:∀(a:V) (l:List V) (x:V),(ct a (l++[x])).map S.a=a::l
 |a,[],x=>rfl
 |a,y::l,x=>by
  show a::(ct y (l++[x])).map S.a=_;rw[zb y l x]
def zc:∀(a:V) (l:List V),(ct a l).map S.b=l
 |a,[] =>rfl
 |a,y::l=>by
  show y::(ct y l).map S.b=_;rw[zc y l]
def rn:∀r:List V,(cyc r).map S.a=r
 |[] =>rfl
 |a::l=>zb a l a
def EG{r:List V}(h:r.Nodup):(cyc r).Nodup:=by rw[<-rn r]at h;exact CS (by grind) (ia.1 h)
def oJ{r:List V}{e:S}(h:e∈cyc r):e.a∈r:=by rw[<-rn r];grind
def oI{r:List V}{e:S}(h:e∈cyc r):e.b∈r:=by
 cases r with
 |nil=>cases h
 |cons a l=>
  have:e.b∈(ct a (l++[a])).map S.b:=bM.2 ⟨e,h,rfl⟩;rw[zc]at this;grind
def OC(a:V)(l:List V):(cyc (l++[a])).Perm (cyc (a::l)):=by
 cases l with
 |nil=>exact .refl _
 |cons x m=>
  show(ct x (m++[a] ++[x])).Perm (⟨a,x⟩::ct x (m++[a]));rw[kO,CT,tK];exact(vK (l₁:=ct x (m++[a])) (l₂:=ct a [x]))
structure CX(r:List V):Prop where
 three:3<=r.length
 nodup:r.Nodup
 left:∀e∈cyc r,∀v∈r,0<=ev (lin e.a e.b) (pt v)
def CX.rot{a:V}{l:List V}(h:CX (a::l)):CX (l++[a]) where
 three:=by have:=h.three;grind
 nodup:=(vK (l₁:=l) (l₂:=[a])).nodup_iff.2 h.nodup
 left:=λe he v hv=>h.left e ((OC a l).mem_iff.1 he) v (by grind)
def T0{u p q:V}(hu:nz u)(hp:nz p)(hq:nz q)(h1:iG u p)(h2:iG u q)(h3:iG p q)(a:0<=cross u p)(b:cross u q<=0)(c:cross p q<=0):0<cross u p/\cross u q<0:=by have t1:=wh hu hp hq;have t2:=zH hu hp hq;have l1:=pD hu hp;have l2:=pD hu hq;have l3:=pD hp hq;have c3:=iO u q;unfold eV at t1 t2;unfold iG at h1 h2 h3;grind
def OD{f:P3}{o w u v:V}(h0:ev f (pt o)=0)(hw:0<=ev f (pt w))(hu:0<=ev f (pt u))(hD:0<ev (lin o w) (pt u))(h1:0<=ev (lin o w) (pt v))(h2:0<=ev (lin u o) (pt v)):0<=ev f (pt v):=by
 have e:ev (lin o w) (pt u)*ev f (pt v)=ev (lin u o) (pt v)*ev f (pt w)+ev (lin o w) (pt v)*ev f (pt u)+(ev (lin o w) (pt u)-ev (lin u o) (pt v)-ev (lin o w) (pt v))*ev f (pt o):=by unfold ev lin pt;grind
 have a:=cM h2 hw;have b:=cM h1 hu;rw[h0,dw]at e;by_cases hn:ev f (pt v)<0
 .have:=gQ hD hn;omega
 .omega
section
variable {W:List V} {side:V->V->Prop}
def YT{i j v p:V}{f k1 k2:P3}(hij:i≠j)(h1i:ev k1 (pt i)=0)(h1j:0<ev k1 (pt j))(h2j:ev k2 (pt j)=0)(h2i:0<ev k2 (pt i))(fi:0<=ev f (pt i))(fj:0<=ev f (pt j))
  (hv:ev (lin i j) (pt v)<=0) (v1:0<=ev k1 (pt v)) (v2:0<=ev k2 (pt v)) (hp:0<ev (lin i j) (pt p)) (p1:0<=ev k1 (pt p)) (p2:0<=ev k2 (pt p)) (fp:ev f (pt p)=0):0<=ev f (pt v):=by
 have hL:=iQ hij;have hQ:ev (lin i j) (cmb (ev (lin i j) (pt p)) (pt v) (-ev (lin i j) (pt v)) (pt p))=0:=by rw[ai,Int.neg_mul,Int.mul_comm];omega
 have g:=kT hQ;have e:∀k:P3,ev k (cmb (ev (lin i j) (pt p)) (pt v) (-ev (lin i j) (pt v)) (pt p))=ev (lin i j) (pt p)*ev k (pt v)+ -ev (lin i j) (pt v)*ev k (pt p):=λk=>ai ..;generalize cmb (ev (lin i j) (pt p)) (pt v) (-ev (lin i j) (pt v)) (pt p)=Q at*;have m:∀k:P3,(bj i j*Q.d-ev (aY i j) Q)*ev k (pt i)+ev (aY i j) Q*ev k (pt j)=bj i j*ev k Q:=λk=>by rw[<-ai,g];unfold ev;grind
 generalize ev (aY i j) Q=t at*;generalize bj i j*Q.d-t=s at*;generalize bj i j=L at*;have q1:0<=ev k1 Q:=by rw[e k1];exact Int.add_nonneg (cM (by omega) v1) (cM (by omega) p1)
 have q2:0<=ev k2 Q:=by rw[e k2];exact Int.add_nonneg (cM (by omega) v2) (cM (by omega) p2)
 have m1:=m k1;have m2:=m k2;have m3:=m f;rw[h1i,dw]at m1;rw[h2j,dw]at m2;have t0:0<=t:=by
  have:=cM (show 0<=L by omega) q1;by_cases hn:t<0
  .have:=lL hn h1j;omega
  .omega
 have s0:0<=s:=by
  have:=cM (show 0<=L by omega) q2;by_cases hn:s<0
  .have:=lL hn h2i;omega
  .omega
 have f0:0<=L*ev f Q:=by rw[<-m3];exact Int.add_nonneg (cM s0 fi) (cM t0 fj)
 rw[e f,fp,dw,nD]at f0;by_cases hn:ev f (pt v)<0
 .have:=gQ hL (gQ hp hn);omega
 .omega
def Net.onSide(N:Net W side){i j a:V}{k1 k2:P3}(hij:side i j)(ha:a∈W)(h1i:ev k1 (pt i)=0)(h1j:0<ev k1 (pt j))(h2j:ev k2 (pt j)=0)(h2i:0<ev k2 (pt i))(h0:ev (lin i j) (pt a)=0)(a1:0<=ev k1 (pt a))(a2:0<=ev k2 (pt a)):a=i\/a=j:=by
 have hL:=iQ (N.ne hij);have g:=kT h0;have m:∀k:P3,(bj i j*(pt a).d-ev (aY i j) (pt a))*ev k (pt i)+ev (aY i j) (pt a)*ev k (pt j)=bj i j*ev k (pt a):=λk=>by rw[<-ai,g];unfold ev;grind
 have m1:=m k1;have m2:=m k2;rw[h1i,dw]at m1;rw[h2j,dw]at m2;refine N.clear hij ha (bj i j*(pt a).d-ev (aY i j) (pt a)) (ev (aY i j) (pt a)) (bj i j) ?_ ?_ (by rw[g];unfold cmb pt;simp) hL
 .by_cases hn:bj i j*(pt a).d-ev (aY i j) (pt a)<0
  .have:=lL hn h2i;have:=cM (show 0<=bj i j by omega) a2;omega
  .omega
 .by_cases hn:ev (aY i j) (pt a)<0
  .have:=lL hn h1j;have:=cM (show 0<=bj i j by omega) a1;omega
  .omega
end
end Geo
end
section
namespace Geo
structure Jn(W:List V)(side:V->V->Prop)(r1 r2:List V)(i j x y z w:V):Prop where
 net:Net W side
 c1:CX r1
 c2:CX r2
 s1:∀e∈cyc r1,side e.a e.b
 s2:∀e∈cyc r2,side e.a e.b
 ij:(⟨i,j⟩:S)∈cyc r1
 jx:(⟨j,x⟩:S)∈cyc r1
 yi:(⟨y,i⟩:S)∈cyc r1
 ji:(⟨j,i⟩:S)∈cyc r2
 iw:(⟨i,w⟩:S)∈cyc r2
 zj:(⟨z,j⟩:S)∈cyc r2
 t1:0<=ev (lin y i) (pt w)
 t2:0<=ev (lin z j) (pt x)
 yw:y≠w
 zx:z≠x
 yj:y≠j
 xi:x≠i
 zi:z≠i
 wj:w≠j
section
variable {W:List V} {side:V->V->Prop} {r1 r2:List V} {i j x y z w:V}
def Jn.symm(J:Jn W side r1 r2 i j x y z w):Jn W side r2 r1 j i w z y x:=
 ⟨J.net,J.c2,J.c1,J.s2,J.s1,J.ji,J.iw,J.zj,J.ij,J.jx,J.yi,J.t2,J.t1,J.zx,J.yw,J.zi,J.wj,J.yj,J.xi⟩
def Jn.corner(J:Jn W side r1 r2 i j x y z w):0<ev (lin i j) (pt y)/\ev (lin i j) (pt w)<0:=by
 have N:=J.net;have sj:=J.s1 _ J.ij;have sy:=N.symm (J.s1 _ J.yi);have sw:=J.s2 _ J.iw;dsimp only at sj sy sw;have a:=J.c1.left _ J.ij y (oJ J.yi);have b:=J.c2.left _ J.ji w (oI J.iw);have c:=J.t1;dsimp only at a b;rw[jl]at b c;have k:=T0 (kD (N.ne sj).symm) (kD (N.ne sy).symm) (kD (N.ne sw).symm) (N.fanApart sj sy J.yj.symm) (N.fanApart sj sw J.wj.symm) (N.fanApart sy sw J.yw)
  (by rw[<-eM];exact a) (by rw[<-eM];omega) (by rw[<-eM];omega)
 rw[<-eM,<-eM]at k;exact k
def Jn.ends(J:Jn W side r1 r2 i j x y z w):0<ev (lin y i) (pt j)/\0<ev (lin j x) (pt i)/\0<ev (lin i w) (pt j)/\0<ev (lin j i) (pt z):=by
 obtain⟨a,b⟩:=J.corner;obtain⟨c,d⟩:=J.symm.corner;refine⟨by rw[<-gk];exact a,?_,?_,c⟩
 .rw[gk,jl];omega
 .rw[gk,jl];omega
def Jn.pos(J:Jn W side r1 r2 i j x y z w){a:V}(ha:a∈r1):a=i\/a=j\/0<ev (lin i j) (pt a):=by
 obtain⟨e1,e2,_,_⟩:=J.ends;have h:=J.c1.left _ J.ij a ha;dsimp only at h;by_cases h0:ev (lin i j) (pt a)=0
 .have m:a∈W:=by rw[<-rn r1]at ha;obtain⟨e,he,rfl⟩:=bM.1 ha;exact J.net.mem (J.s1 e he)
  rcases J.net.onSide (J.s1 _ J.ij) m (cZ y i) e1 (cG j x) e2 h0 (J.c1.left _ J.yi a ha) (J.c1.left _ J.jx a ha)with e|e
  .exact .inl e
  grind
 omega
def Jn.half(J:Jn W side r1 r2 i j x y z w){e:S}(he:e∈cyc r1)(hne:e≠⟨i,j⟩){v:V}(hv:v∈r2):0<=ev (lin e.a e.b) (pt v):=by
 obtain⟨e1,e2,e3,e4⟩:=J.ends;have hi:=oJ J.ij;have hj:=oI J.ij;have vji:=J.c2.left _ J.ji v hv;have viw:=J.c2.left _ J.iw v hv;have vzj:=J.c2.left _ J.zj v hv;dsimp only at vji viw vzj;have v1:0<=ev (lin y i) (pt v):=OD (cZ y i) J.t1 (by omega) e3 viw vji;have v2:0<=ev (lin j x) (pt v):=OD (cG j x) (by omega) (by rw[gk];exact J.t2) e4 vji vzj;have vij:ev (lin i j) (pt v)<=0:=by rw[jl]at vji;omega
 have key:∀p∈r1,ev (lin e.a e.b) (pt p)=0->0<ev (lin i j) (pt p)->0<=ev (lin e.a e.b) (pt v):=λp hp h0 h1=>
  YT (J.net.ne (J.s1 _ J.ij)) (cZ y i) e1 (cG j x) e2 (J.c1.left e he i hi) (J.c1.left e he j hj) vij v1 v2 h1 (J.c1.left _ J.yi p hp) (J.c1.left _ J.jx p hp) h0
 have ka:=key e.a (oJ he) (cG _ _);have kb:=key e.b (oI he) (cZ _ _);rcases J.pos (oJ he)with h|h|h
 .rcases J.pos (oI he)with g|g|g
  .exact absurd (h.trans g.symm) (J.net.ne (J.s1 e he))
  .exact absurd (by cases e;grind) hne
  .exact kb g
 .rcases J.pos (oI he)with g|g|g
  .grind
  .exact absurd (h.trans g.symm) (J.net.ne (J.s1 e he))
  .exact kb g
 .exact ka h
end
def Ey(i j:V)(A B:List V):cyc (i::(B++j::A))=ct i (B++[j])++ct j (A++[i]):=by show ct i (B++j::A++[i])=_;rw[kO,j7,tK]
def CX.join{W:List V}{side:V->V->Prop}{i j x y z w:V}{A B:List V}(J:Jn W side (i::j::A) (j::i::B) i j x y z w):CX (i::(B++j::A)):=by
 have n1:=J.c1.nodup;have n2:=J.c2.nodup;have q1:=lP.1 (EG J.c1.nodup);have q2:=lP.1 (EG J.c2.nodup);have dis:∀a∈A,∀b∈B,a≠b:=λa ha b hb e=>by subst e;have p1:=J.pos (a:=a) (by grind);have p2:=J.symm.pos (a:=a) (by grind);rw[jl]at p2;grind
 refine⟨?_,?_,?_⟩
 .have h1:=J.c1.three;grind
 .grind
 .intro e he v hv;have vv:v∈i::j::A\/v∈j::i::B:=by
   rcases bO.1 hv with h|h
   .grind
   .grind
  rw[Ey]at he;rcases bq.1 he with he|he
  .have h2:e∈cyc (j::i::B):=cB _ he;rcases vv with h|h
   .exact J.symm.half h2 (λg=>q2.1 (g▸he)) h
   .exact J.c2.left e h2 v h
  .have h1:e∈cyc (i::j::A):=cB _ he;rcases vv with h|h
   .exact J.c1.left e h1 v h
   .exact J.half h1 (λg=>q1.1 (g▸he)) h
end Geo
end
namespace Geo
def lh:∀(k l:List V),(cyc (l++k)).Perm (cyc (k++l))
 |[],l=>by grind
 |a::k,l=>by
  have h1:=lh k (l++[a]);rw[kO,CT,<-kO]at h1;exact h1.trans (OC a (k++l))
def CX.swap:∀{k l:List V},CX (k++l)->CX (l++k)
 |[],l,h=>by grind
 |a::k,l,h=>by
  have h1:=CX.rot (a:=a) (l:=k++l) h;rw[kO]at h1;have h2:=CX.swap h1;grind
def Jk{α β:Type}{f:α->β}:∀{l:List α},(l.map f).Nodup->∀{a b:α},a∈l->b∈l->f a=f b->a=b
 |x::l,h,a,b,ha,hb,e=>by
  rw[cT,lP]at h;rcases bO.1 ha with ha|ha<;>rcases bO.1 hb with hb|hb
  .rw[ha,hb]
  .grind
  .grind
  .exact Jk h.2 ha hb e
def An{r:List V}(h:r.Nodup){e f:S}(he:e∈cyc r)(hf:f∈cyc r)(g:e.a=f.a):e=f:=
 Jk (f:=S.a) (by rw[rn];exact h) he hf g
def BA{r:List V}(h:CX r){i j:V}(hm:(⟨i,j⟩:S)∈cyc r):∃k l A,r=k++l/\l++k=i::j::A:=by
 have hi:=oJ hm;obtain⟨k,l,rfl⟩:=H3 hi;have h2:=h.swap;have hp:=(lh k (i::l)).mem_iff (a:=(⟨i,j⟩:S));have hm2:=hp.2 hm;have h3:=h2.three;rw[j7]at h2 hm2 h3;match e:l++k with
 |[] =>grind
 |j'::A=>
  rw[e]at hm2 h2;have:=An h2.nodup hm2 (show(⟨i,j'⟩:S)∈cyc (i::j'::A)from cE) rfl;grind
structure Faces(nx:S->V)(H:S->Prop)(F:List (List V)):Prop where
 cx:∀r∈F,CX r
 once:(F.flatMap cyc).Nodup
 all:∀e,e∈F.flatMap cyc↔H e
 next:∀r∈F,∀e∈cyc r,∀f∈cyc r,e.b=f.a->nx e=f.b
def Faces.perm{nx:S->V}{H:S->Prop}{F G:List (List V)}(h:Faces nx H F)(p:F.Perm G):Faces nx H G where
 cx:=λr hr=>h.cx r (p.mem_iff.2 hr)
 once:=(p.flatMap_right cyc).nodup_iff.1 h.once
 all:=λe=>by rw[<-(p.flatMap_right cyc).mem_iff];exact h.all e
 next:=λr hr=>h.next r (p.mem_iff.2 hr)
def Faces.rotF{nx:S->V}{H:S->Prop}{k l:List V}{F:List (List V)}(h:Faces nx H ((k++l)::F)):Faces nx H ((l++k)::F):=by
 have p:(((k++l)::F).flatMap cyc).Perm (((l++k)::F).flatMap cyc):=by rw[fX,fX];exact(lh l k).append_right _
 refine⟨λr hr=> ?_,p.nodup_iff.1 h.once,λe=>by rw[<-p.mem_iff];exact h.all e,λr hr e he f hf=> ?_⟩
 .rcases bO.1 hr with e|hr
  .subst e;exact(h.cx _ (by grind)).swap
  .exact h.cx r (by grind)
 .rcases bO.1 hr with g|hr
  .subst g;exact h.next _ (by grind) e ((lh k l).mem_iff.1 he) f ((lh k l).mem_iff.1 hf)
  .exact h.next r (by grind) e he f hf
def Faces.drop{W:List V}{side:V->V->Prop}(N:Net W side){nx nx':S->V}{H:S->Prop}{F:List (List V)}(Fc:Faces nx H F)(hs:∀e,H e->side e.a e.b){i j:V}(hij:H ⟨i,j⟩)(hji:H ⟨j,i⟩)
  (h1:∀e,H e->e.b=i->nx e=j->nx' e=nx ⟨j,i⟩) (h2:∀e,H e->e.b=j->nx e=i->nx' e=nx ⟨i,j⟩)
  (h3:∀e,H e->e≠⟨i,j⟩->e≠⟨j,i⟩->¬(e.b=i/\nx e=j)->¬(e.b=j/\nx e=i)->nx' e=nx e)
  (t1:∀y,H ⟨y,i⟩->nx ⟨y,i⟩=j->y≠nx ⟨j,i⟩/\0<=ev (lin y i) (pt (nx ⟨j,i⟩))) (t2:∀z,H ⟨z,j⟩->nx ⟨z,j⟩=i->z≠nx ⟨i,j⟩/\0<=ev (lin z j) (pt (nx ⟨i,j⟩))):
  ∃F',Faces nx' (λe=>H e/\e≠⟨i,j⟩/\e≠⟨j,i⟩) F':=by
 obtain⟨A,F1,G1⟩:∃A F1,Faces nx H ((i::j::A)::F1):=by obtain⟨r,hr,hm⟩:=dI.1 ((Fc.all _).2 hij);obtain⟨k,l,A,e1,e2⟩:=BA (Fc.cx r hr) hm;have g:=Fc.perm (SD hr);rw[e1]at g;have g2:=g.rotF;grind
 have c1:=G1.cx _ cE;have ij1:(⟨i,j⟩:S)∈cyc (i::j::A):=cE;have n1:=c1.nodup;rw[lP,lP]at n1;obtain⟨n3,n4,n5⟩:=n1;obtain⟨x,A',eA⟩:∃x A',A=x::A':=by
  match A,c1.three with
  |x::A',_=>grind
 obtain⟨y,A2,eA2⟩:∃y A2,A=A2++[y] :=by
  rcases SF A with e|⟨A2,y,e⟩
  .grind
  grind
 have jx1:(⟨j,x⟩:S)∈ct j (A++[i]):=by rw[eA];exact cE
 have yi1:(⟨y,i⟩:S)∈ct j (A++[i]):=by rw[eA2,kO,CT,tK];exact fY _ cE
 have up1:∀{e},e∈ct j (A++[i])->e∈cyc (i::j::A):=λh=>cB _ h;obtain⟨B,F2,G2⟩:∃B F2,Faces nx H ((i::j::A)::(j::i::B)::F2):=by
  obtain⟨r,hr,hm⟩:=dI.1 ((G1.all _).2 hji);rcases bO.1 hr with e|hr
  .rw[e]at hm;have:=An c1.nodup hm (up1 jx1) rfl;grind
  .obtain⟨k,l,B,e1,e2⟩:=BA (G1.cx r (by grind)) hm;have g:=(G1.perm ((SD hr).cons _)).perm (List.Perm.swap _ _ _);rw[e1]at g;have g2:=g.rotF;rw[e2]at g2;exact⟨B,_,g2.perm (List.Perm.swap _ _ _)⟩
 clear G1;have m1:(i::j::A)∈(i::j::A)::(j::i::B)::F2:=by grind
 have m2:(j::i::B)∈(i::j::A)::(j::i::B)::F2:=by grind
 have m3:∀{r},r∈F2->r∈(i::j::A)::(j::i::B)::F2:=by grind
 have c2:=G2.cx _ m2;have ji2:(⟨j,i⟩:S)∈cyc (j::i::B):=cE;have n1:=c2.nodup;rw[lP,lP]at n1;obtain⟨k3,k4,k5⟩:=n1;obtain⟨w,B',eB⟩:∃w B',B=w::B':=by
  match B,c2.three with
  |w::B',_=>grind
 obtain⟨z,B2,eB2⟩:∃z B2,B=B2++[z] :=by
  rcases SF B with e|⟨B2,z,e⟩
  .grind
  grind
 have iw2:(⟨i,w⟩:S)∈ct i (B++[j]):=by rw[eB];exact cE
 have zj2:(⟨z,j⟩:S)∈ct i (B++[j]):=by rw[eB2,kO,CT,tK];exact fY _ cE
 have up2:∀{e},e∈ct i (B++[j])->e∈cyc (j::i::B):=λh=>cB _ h;have hm:∀{r e},r∈(i::j::A)::(j::i::B)::F2->e∈cyc r->H e:=λhr he=>(G2.all _).1 (by grind);have xA:x∈A:=by rw[eA];grind
 have yA:y∈A:=by rw[eA2];grind
 have wB:w∈B:=by rw[eB];grind
 have zB:z∈B:=by rw[eB2];grind
 have nij:nx ⟨i,j⟩=x:=G2.next _ m1 _ ij1 _ (up1 jx1) rfl;have nji:nx ⟨j,i⟩=w:=G2.next _ m2 _ ji2 _ (up2 iw2) rfl;have nyi:nx ⟨y,i⟩=j:=G2.next _ m1 _ (up1 yi1) _ ij1 rfl;have nzj:nx ⟨z,j⟩=i:=G2.next _ m2 _ (up2 zj2) _ ji2 rfl;have T1:=t1 y (hm m1 (up1 yi1)) nyi;have T2:=t2 z (hm m2 (up2 zj2)) nzj;rw[nji]at T1;rw[nij]at T2;have J:Jn W side (i::j::A) (j::i::B) i j x y z w:=⟨N,c1,c2,by grind,by grind,ij1,up1 jx1,up1 yi1,ji2,up2 iw2,up2 zj2,T1.2,T2.2,T1.1,T2.1,
  by grind,by grind,by grind,by grind⟩
 have cj:=CX.join J;have nj:=cj.nodup;rw[lP,bq,nC]at nj;have P:(((i::j::A)::(j::i::B)::F2).flatMap cyc).Perm (⟨i,j⟩::⟨j,i⟩::(((i::(B++j::A))::F2).flatMap cyc)):=by rw[fX,fX,fX,Ey];show(⟨i,j⟩::(ct j (A++[i])++(⟨j,i⟩::(ct i (B++[j])++F2.flatMap cyc)))).Perm _;refine List.Perm.cons _ (List.perm_middle.trans (List.Perm.cons _ ?_));rw[<-kO];exact vK.append_right _
 have nd:=P.nodup_iff.1 G2.once;rw[lP,lP,bO]at nd;obtain⟨d1,d2,d3⟩:=nd;have d4:(⟨i,j⟩:S)∉((i::(B++j::A))::F2).flatMap cyc:=by grind
 have keep:∀r∈(i::j::A)::(j::i::B)::F2,∀e∈cyc r,∀f∈cyc r,e.b=f.a->e≠⟨i,j⟩->e≠⟨j,i⟩->f≠⟨i,j⟩->f≠⟨j,i⟩->nx' e=f.b:=λr hr e he f hf g e1 e2 f1 f2=>by
  have hn:=G2.next r hr e he f hf g;rw[<-hn];refine h3 e (hm hr he) e1 e2 ?_ ?_
  .rintro⟨p1,p2⟩;cases f;grind
  .rintro⟨p1,p2⟩;cases f;grind
 refine⟨(i::(B++j::A))::F2,⟨λr hr=> ?_,d3,λe=> ?_,λr hr e he f hf g=> ?_⟩⟩
 .rcases bO.1 hr with e|hr
  .grind
  .exact G2.cx r (m3 hr)
 .rw[<-G2.all,P.mem_iff,bO,bO];constructor
  .intro h;exact⟨.inr (.inr h),by grind,by grind⟩
  grind
 .have ne:∀{e},e∈cyc r->e≠⟨i,j⟩/\e≠⟨j,i⟩:=λh=>⟨λg=>d4 (g▸dI.2 ⟨_,hr,h⟩),λg=>d2 (g▸dI.2 ⟨_,hr,h⟩)⟩;obtain⟨e1,e2⟩:=ne he;obtain⟨f1,f2⟩:=ne hf;rcases bO.1 hr with hr|hr
  .subst hr;rw[Ey]at he hf;have sB:∀{f},f∈ct i (B++[j])->f.a=i\/f.a∈B:=λ{f} h=>by
    have:f.a∈(ct i (B++[j])).map S.a:=by grind
    rw[zb]at this;grind
   have sA:∀{f},f∈ct j (A++[i])->f.a=j\/f.a∈A:=λ{f} h=>by
    have:f.a∈(ct j (A++[i])).map S.a:=by grind
    rw[zb]at this;grind
   have tB:∀{f},f∈ct i (B++[j])->f.b∈B\/f.b=j:=λ{f} h=>by
    have:f.b∈(ct i (B++[j])).map S.b:=by grind
    rw[zc]at this;grind
   have tA:∀{f},f∈ct j (A++[i])->f.b∈A\/f.b=i:=λ{f} h=>by
    have:f.b∈(ct j (A++[i])).map S.b:=by grind
    rw[zc]at this;grind
   have AB:∀v,v∈A->v∈B->False:=λv ha hb=>nj.2.2.2 v hb v (by grind) rfl;rcases bq.1 he with he|he<;>rcases bq.1 hf with hf|hf
   .grind
   .have ej:e.b=j:=by
     rcases tB he with h|h
     .grind
     .exact h
    rw[h2 e (hm m2 (up2 he)) ej (G2.next _ m2 e (up2 he) _ ji2 ej)];exact G2.next _ m1 _ ij1 f (up1 hf) (ej.symm.trans g)
   .have ei:e.b=i:=by
     rcases tA he with h|h
     .grind
     .exact h
    rw[h1 e (hm m1 (up1 he)) ei (G2.next _ m1 e (up1 he) _ ij1 ei)];exact G2.next _ m2 _ ji2 f (up2 hf) (ei.symm.trans g)
   grind
  grind
end Geo
section
namespace Geo
def Iv{u v t:V}(hu:nz u)(hv:nz v)(ht:nz t)(h1:iG u t)(h2:iG v t)(hc:0<cross v u)(hs:¬(0<cross v t/\0<cross t u)):pg u t v=true/\pg u v t≠true:=by have t1:=wh hv ht hu;have t2:=zH hv ht hu;have l2:=pD hv ht;have c1:=iO v u;have c2:=iO t u;have c3:=iO v t;unfold iG at h1 h2;unfold eV at t1 t2;unfold pg ul;grind
section
variable {W:List V} {side:V->V->Prop} {ins:P3->Bool}
def Tri.next(N:Net W side){a b c:V}(T:Tri W side ins a b c){l:List V}(hl:∀x,x∈l↔side b x):fJ l b a true=c:=by
 have ba:=N.symm T.ab;have bc:=T.bc;have hc:c≠a:=N.ne T.ca;have hcr:0<cross (sub c b) (sub a b):=by rw[<-eM,gk];exact T.left
 refine mW (S:=λx=>side b x) hc ?_ ?_ l a (by grind) (.inl rfl) (by grind)
 .intro x hx e1 e2;exact(Iv (kD (N.ne ba).symm) (kD (N.ne bc).symm) (kD (N.ne hx).symm) (N.fanApart ba hx e1.symm) (N.fanApart bc hx e2.symm) hcr (by have:=T.rot.sector N hx;unfold Ccw at this;rw[eM,eM]at this;exact this)).2
 .intro x hx e1 e2;have:=(Iv (kD (N.ne ba).symm) (kD (N.ne bc).symm) (kD (N.ne hx).symm) (N.fanApart ba hx e1.symm) (N.fanApart bc hx e2.symm) hcr (by have:=T.rot.sector N hx;unfold Ccw at this;rw[eM,eM]at this;exact this)).1
  grind
def Tri.cx(N:Net W side){a b c:V}(T:Tri W side ins a b c):CX [a,b,c] where
 three:=by simp
 nodup:=by have h1:=N.ne T.ab;have h2:=N.ne T.bc;have h3:=N.ne T.ca;grind
 left:=by intro e he v hv;have l:=T.left;have l2:=T.rot.left;have l3:=T.rot.rot.left;have he:e∈([⟨a,b⟩,⟨b,c⟩,⟨c,a⟩] :List S):=he;simp only[bO,cl,or_false]at he hv;rcases he with rfl|rfl|rfl<;>rcases hv with rfl|rfl|rfl<;>first|(rw[cG];exact iz _)|(rw[cZ];exact iz _)|grind
def aAJ(H:Filled W side ins){TL:List T3}(A:All3 W side ins TL){DS:List S}(hn:DS.Nodup)(hm:∀e:S,e∈DS↔side e.a e.b/\Lft ins e.a e.b){nx:S->V}(hx:∀a b c,Tri W side ins a b c->nx ⟨a,b⟩=c):
  Faces nx (λe=>e∈DS) (TL.map λt=>[t.a,t.b,t.c]):=by
 have N:=H.net;have P:=A.perm H hn hm;have e:(TL.map λt=>[t.a,t.b,t.c]).flatMap cyc=TL.flatMap T3.sides:=by rw[List.flatMap_map];rfl
 refine⟨λr hr=> ?_,by grind,λf=>by grind,λr hr f hf g hg h=> ?_⟩
 .obtain⟨t,ht,rfl⟩:=bM.1 hr;exact(A.tri t ht).cx N
 .obtain⟨t,ht,rfl⟩:=bM.1 hr;have T:=A.tri t ht;have h1:=N.ne T.ab;have h2:=N.ne T.bc;have h3:=N.ne T.ca;have hf:f∈([⟨t.a,t.b⟩,⟨t.b,t.c⟩,⟨t.c,t.a⟩] :List S):=hf;have hg:g∈([⟨t.a,t.b⟩,⟨t.b,t.c⟩,⟨t.c,t.a⟩] :List S):=hg;simp only[bO,cl,or_false]at hf hg;rcases hf with rfl|rfl|rfl<;>rcases hg with rfl|rfl|rfl<;>dsimp only at h|-
  .grind
  .grind
  .grind
  .grind
  .grind
  .exact hx _ _ _ T.rot
  .exact hx _ _ _ T.rot.rot
  .grind
  grind
end
end Geo
end
section
namespace Geo
section
variable {p:V} {L l l':List V}
def Y0{n a m:Nat}(ha:a<n)(h:m=(a+n-1) % n):(1<=a/\m+1=a)\/(a=0/\m+1=n):=by
 by_cases h0:a=0
 .rw[h,dj (by omega)];omega
 .rw[h,show a+n-1=(a-1)+n by omega,od,dj (by omega)];omega
def ZF{n a m:Nat}(ha:a<n)(h:m=(a+1) % n):(a+1<n/\m=a+1)\/(a+1=n/\m=0):=by
 by_cases h0:a+1<n
 .rw[h,dj h0];omega
 .have:a+1=n:=by omega
  simp_all
def Fan.inj(F:Fan p L){i j:Nat}(hi:i<L.length)(hj:j<L.length)(h:L[i] =L[j]):i=j:=by
 by_cases e:i=j
 .exact e
 .exact absurd h (F.ne hi hj e)
def Fan.prevAt(F:Fan p L)(hl:∀x,x∈l↔x∈L){a:Nat}(ha:a<L.length):∃m,∃hm:m<L.length,fJ l p L[a] true=L[m]/\((1<=a/\m+1=a)\/(a=0/\m+1=L.length)):=
 ⟨(a+L.length-1) % L.length,bk _ (by omega),F.prev hl ha (bk _ (by omega)) rfl,Y0 ha rfl⟩
def Fan.nextAt(F:Fan p L)(hl:∀x,x∈l↔x∈L){a:Nat}(ha:a<L.length):∃m,∃hm:m<L.length,fJ l p L[a] false=L[m]/\((a+1<L.length/\m=a+1)\/(a+1=L.length/\m=0)):=
 ⟨(a+1) % L.length,bk _ (by omega),F.next hl ha (bk _ (by omega)) rfl,ZF ha rfl⟩
def Fan.Vm(F:Fan p L)(hl:∀x,x∈l↔x∈L)(hl':∀x,x∈l'↔x∈L){q:V}(hq:q∈L):fJ l' p q true=fJ l p q true:=by obtain⟨a,ha,rfl⟩:=ib.1 hq;rw[F.prev hl ha (bk _ (by omega)) rfl,F.prev hl' ha (bk _ (by omega)) rfl]
def Fan.NQ(F:Fan p L)(hl:∀x,x∈l↔x∈L){q:V}(hq:q∈L)(h:2<=L.length):fJ l p q true≠q:=by obtain⟨a,ha,rfl⟩:=ib.1 hq;obtain⟨m,hm,e,h2⟩:=F.prevAt hl ha;rw[e];exact F.ne hm ha (by omega)
def Fan.KM(F:Fan p L)(hl:∀x,x∈l↔x∈L){q j:V}(hq:q∈L)(h:fJ l p q true=j):fJ l p j false=q:=by obtain⟨a,ha,rfl⟩:=ib.1 hq;obtain⟨m,hm,e,h2⟩:=F.prevAt hl ha;obtain⟨k,hk,e3,h3⟩:=F.nextAt hl hm;grind
def Fan.OQ(F:Fan p L)(hl:∀x,x∈l↔x∈L){j:V}(hj:j∈L)(h:3<=L.length):fJ l p j false≠fJ l p j true:=by obtain⟨a,ha,rfl⟩:=ib.1 hj;obtain⟨m,hm,e,h2⟩:=F.prevAt hl ha;obtain⟨k,hk,e3,h3⟩:=F.nextAt hl ha;rw[e,e3];exact F.ne hk hm (by omega)
def Fan.dropNext(F:Fan p L){j q:V}(hl:∀x,x∈l↔x∈L)(hl':∀x,x∈l'↔x∈L/\x≠j)(hq:q∈L)(hj:j∈L)(hne:q≠j):fJ l' p q true=if fJ l p q true=j then fJ l p j true else fJ l p q true:=by
 obtain⟨a,ha,rfl⟩:=ib.1 hq;obtain⟨b,hb,rfl⟩:=ib.1 hj;obtain⟨m,hm,e,h2⟩:=F.prevAt hl ha;obtain⟨c,hc,e3,h3⟩:=F.prevAt hl hb;rw[e,e3];have key:∀g (hg:g<L.length),g≠a->g≠b->(∀d,d<L.length->d≠a->d≠b->d≠g->((a<d/\d<g)\/(d<g/\g<a)\/(g<a/\a<d)))->fJ l' p L[a] true=L[g] :=λg hg h1 h2 h3=>by
  refine mW (S:=λx=>x∈L/\x≠L[b]) (F.ne hg ha h1) ?_ ?_ l' _ (by grind) (.inl rfl) (.inr ((hl' _).2 ⟨by grind,F.ne hg hb h2⟩))
  .rintro x ⟨hx,hxb⟩ e1 e2;obtain⟨d,hd,rfl⟩:=ib.1 hx;have k1:d≠a:=by grind
   have k2:d≠g:=by grind
   have k3:d≠b:=by grind
   have:=h3 d hd k1 k3 k2;exact mt (F.soon ha hg hd (oh h1) (oh k2) k1).1 (by omega)
  .rintro x ⟨hx,hxb⟩ e1 e2;obtain⟨d,hd,rfl⟩:=ib.1 hx;have k1:d≠a:=by grind
   have k2:d≠g:=by grind
   have k3:d≠b:=by grind
   have:=h3 d hd k1 k3 k2;rw[(F.soon ha hd hg (oh k1) k2 h1).2 (by omega)];simp
 by_cases hmb:m=b
 .subst hmb;rw[if_pos rfl];by_cases hca:c=a
  .subst hca;refine zG l' λx hx=> ?_;obtain⟨hx,hxb⟩:=(hl' x).1 hx;obtain⟨d,hd,rfl⟩:=ib.1 hx;grind
  grind
 .rw[if_neg (F.ne hm hb hmb)];grind
end
def Mr{a b c:V}(h:0<=turn a b c):0<=ev (lin a b) (pt c):=by rw[eM];unfold turn sgn at h;omega
def Faces.dropR{W:List V}{side:V->V->Prop}(N:Net W side){l l' L:V->List V}{H:S->Prop}{F:List (List V)}{i j:V}
  (Fc:Faces (λe=>fJ (l e.b) e.b e.a true) H F) (fan:∀p,Fan p (L p)) (hl:∀p x,x∈l p↔x∈L p) (hs:∀e,H e->side e.a e.b) (hH:∀e,H e->e.a∈L e.b)
  (hl':∀p x,x∈l' p↔x∈L p/\¬((p=i/\x=j)\/(p=j/\x=i))) (hij:H ⟨i,j⟩) (hji:H ⟨j,i⟩) (hi:3<=(L i).length) (hj:3<=(L j).length)
  (n1:0<=turn i (fJ (l i) i j true) (fJ (l i) i j false)) (n2:0<=turn j (fJ (l j) j i true) (fJ (l j) j i false)):
  ∃F',Faces (λe=>fJ (l' e.b) e.b e.a true) (λe=>H e/\e≠⟨i,j⟩/\e≠⟨j,i⟩) F':=by
 have ji:j∈L i:=hH _ hji;have ij:i∈L j:=hH _ hij;have li':∀x,x∈l' i↔x∈L i/\x≠j:=by grind
 have lj':∀x,x∈l' j↔x∈L j/\x≠i:=by grind
 refine Fc.drop N hs hij hji ?_ ?_ ?_ ?_ ?_
 .rintro⟨q,p⟩ he hb hn;dsimp only at hb hn|-;subst hb;have hq:q∈L p:=hH _ he;have hqj:q≠j:=λe=>by subst e;exact(fan p).NQ (hl p) hq (by omega) hn
  rw[(fan p).dropNext (hl p) li' hq ji hqj,if_pos hn]
 .rintro⟨q,p⟩ he hb hn;dsimp only at hb hn|-;subst hb;have hq:q∈L p:=hH _ he;have hqj:q≠i:=λe=>by subst e;exact(fan p).NQ (hl p) hq (by omega) hn
  rw[(fan p).dropNext (hl p) lj' hq ij hqj,if_pos hn]
 .rintro⟨q,p⟩ he e1 e2 g1 g2;have hq:q∈L p:=hH _ he;by_cases hp:p=i
  .subst hp;rw[(fan p).dropNext (hl p) li' hq ji (by grind),if_neg (by grind)]
  .by_cases hp2:p=j
   .subst hp2;rw[(fan p).dropNext (hl p) lj' hq ij (by grind),if_neg (by grind)]
   .exact(fan p).Vm (hl p) (by grind) hq
 .intro y hy hn;have e:=(fan i).KM (hl i) (hH _ hy) hn;refine⟨λh=>(fan i).OQ (hl i) ji hi (e.trans h),?_⟩;rw[e]at n1;rw[<-gk];exact Mr n1
 .intro z hz hn;have e:=(fan j).KM (hl j) (hH _ hz) hn;refine⟨λh=>(fan j).OQ (hl j) ij hj (e.trans h),?_⟩;rw[e]at n2;rw[<-gk];exact Mr n2
end Geo
end
namespace Geo
def tr(nx:S->V):Nat->List S->S->List V->List S×List V
 |0,U,_,r=>(U,r)
 |f+1,U,e,r=>if e∈U then(U,r)else tr nx f (U++[e]) ⟨e.b,nx e⟩ (r++[e.a])
def BW{nx:S->V}{f:Nat}{U:List S}{e:S}{r:List V}(h:e∈U):tr nx f U e r=(U,r):=by
 cases f with
 |zero=>rfl
 |succ f=>exact if_pos h
def F4{nx:S->V}{f:Nat}{U:List S}{e:S}{r:List V}(h:e∉U):tr nx (f+1) U e r=tr nx f (U++[e]) ⟨e.b,nx e⟩ (r++[e.a]):=if_neg h
def Mt{nx:S->V}:∀(l:List V) (a x:V) (m:List V) (z:V) (f:Nat) (U:List S) (r:List V),l++[z] =x::m->(∀e∈ct a (l++[z]),e∉U)->(ct a (l++[z])).Nodup->
  (∀e∈ct a (l++[z]),∀g∈ct a (l++[z]),e.b=g.a->e.b≠z->nx e=g.b)->(a::l).Nodup->z∉l->
  ∃y,(⟨y,z⟩:S)∈ct a (l++[z])/\tr nx (f+(l.length+1)) U ⟨a,x⟩ r=tr nx f (U++ct a (l++[z])) ⟨z,nx ⟨y,z⟩⟩ (r++a::l)
 |[],a,x,m,z,f,U,r,e,hU,hn,hx,_,_=>by
  obtain⟨rfl,_⟩:=List.cons.inj e;exact⟨a,cE,F4 (hU ⟨a,z⟩ cE)⟩
 |b::l,a,x,m,z,f,U,r,e,hU,hn,hx,hd,hz=>by
  obtain⟨rfl,em⟩:=List.cons.inj e;have hzb:b≠z:=by grind
  have hn2:(⟨a,b⟩:S)∉ct b (l++[z])/\(ct b (l++[z])).Nodup:=lP.1 hn;obtain⟨x2,m2,e2⟩:∃x2 m2,l++[z] =x2::m2:=by
   cases l with
   |nil=>grind
   |cons x2 l=>grind
  have hd2:=(lP.1 hd).2;obtain⟨y,hy,h⟩:=Mt l b x2 m2 z f (U++[⟨a,b⟩]) (r++[a]) e2 (λe he h=>by
    rcases bq.1 h with h|h
    .exact hU e (cB _ he) h
    grind) hn2.2
   (λe he g hg=>hx e (cB _ he) g (cB _ hg)) hd2 (by grind)
  refine⟨y,cB _ hy,?_⟩;have h0:=hU ⟨a,b⟩ cE;have hnx:nx ⟨a,b⟩=x2:=hx ⟨a,b⟩ cE ⟨b,x2⟩ (cB _ (show(⟨b,x2⟩:S)∈ct b (l++[z]) by rw[e2];exact cE)) rfl hzb;have st:tr nx (f+((b::l).length+1)) U ⟨a,b⟩ r=tr nx (f+(l.length+1)) (U++[⟨a,b⟩]) ⟨b,nx ⟨a,b⟩⟩ (r++[a]):=by rw[show f+((b::l).length+1)=f+(l.length+1)+1 by grind];exact F4 h0
  rw[st,hnx,h,kO,kO];rfl
def Faces.trace{nx:S->V}{H:S->Prop}{F:List (List V)}(Fc:Faces nx H F){r:List V}(hr:r∈F){e:S}(he:e∈cyc r){U:List S}(hU:∀g∈cyc r,g∉U){f:Nat}(hf:r.length<=f):
  ∃k l,r=k++l/\tr nx f U e [] =(U++cyc (l++k),l++k):=by
 obtain⟨i,j⟩:=e;obtain⟨k,l,A,e1,e2⟩:=BA (Fc.cx r hr) he;refine⟨k,l,e1,?_⟩;have c:=Fc.cx r hr;have hp:(cyc (l++k)).Perm (cyc r):=by rw[e1];exact lh k l
 have c2:CX (l++k):=by rw[e1]at c;exact c.swap
 have hl:(l++k).length=r.length:=by rw[e1,fw,fw];omega
 rw[e2]at hp c2 hl|-;have hn:=c2.nodup;obtain⟨y,hy,h⟩:=Mt (nx:=nx) (j::A) i j (A++[i]) i (f-(A.length+2)) U [] rfl (λg hg=>hU g (hp.mem_iff.1 hg)) (EG hn)
  (λe he g hg h _=>Fc.next r hr e (hp.mem_iff.1 he) g (hp.mem_iff.1 hg) h) hn (by grind)
 have ef:f-(A.length+2)+((j::A).length+1)=f:=by simp only[gY]at hl|-;omega
 rw[ef]at h;have first:(⟨i,j⟩:S)∈cyc (i::j::A):=by grind
 have hnx:nx ⟨y,i⟩=j:=Fc.next r hr ⟨y,i⟩ (hp.mem_iff.1 hy) ⟨i,j⟩ (by grind) rfl;rw[h,hnx];exact BW (fY _ first)
def m7(nx:S->V)(f:Nat)(g:List V->List V):List S->List S×List (List V)->List S×List (List V)
 |[],x=>x
 |e::l,x=>m7 nx f g l ((tr nx f x.1 e []).1,if 0<(tr nx f x.1 e []).2.length then x.2++[g (tr nx f x.1 e []).2]else x.2)
def Dp{nx:S->V}{H:S->Prop}{F:List (List V)}(Fc:Faces nx H F){f:Nat}(hf:∀r∈F,r.length<=f){g:List V->List V}(hg:∀r∈F,∀k l,r=k++l->g (l++k)=g r):
  ∀(l:List S) (x:List S×List (List V)) (F1 F2:List (List V)),(∀e∈l,H e)->F.Perm (F1++F2)->(∀e,e∈x.1↔e∈F1.flatMap cyc)->x.2.Perm (F1.map g)->
   (∀r∈F2,∀e∈cyc r,e∈l)->(m7 nx f g l x).2.Perm (F.map g)
 |[],x,F1,F2,_,hP,_,hx2,hl=>by
  have:F2=[] :=by
   cases F2 with
   |nil=>rfl
   |cons r F2=>
    have c:=Fc.cx r (by grind);match r,c.three with
    |a::b::r,_=>exact absurd (hl _ cE ⟨a,b⟩ cE) (by simp)
  subst this;rw[CU]at hP;exact hx2.trans (hP.symm.map g)
 |e::l,x,F1,F2,hH,hP,hx1,hx2,hl=>by
  unfold m7;have he:e∈F.flatMap cyc:=(Fc.all e).2 (by grind);by_cases h1:e∈x.1
  .have t:tr nx f x.1 e [] =(x.1,[]):=BW h1;rw[t];refine Dp Fc hf hg l _ F1 F2 (by grind) hP hx1 hx2 λr hr g hg=> ?_;rcases bO.1 (hl r hr g hg)with h|h
   .have nd:=(hP.flatMap_right cyc).nodup_iff.1 Fc.once;grind
   .exact h
  .have h2:e∈F2.flatMap cyc:=by
    have:=(hP.flatMap_right cyc).mem_iff.1 he;rw[vP]at this;rcases bq.1 this with h|h
    .grind
    .exact h
   obtain⟨r,hr,her⟩:=dI.1 h2;have hP2:=SD hr;have hP3:F.Perm ((r::F1)++F2.erase r):=by grind
   have hrF:r∈F:=by grind
   have nd:=(hP3.flatMap_right cyc).nodup_iff.1 Fc.once;rw[j7,fX,vP,nC]at nd;have dis:∀g∈cyc r,g∉x.1:=by grind
   obtain⟨k,m,e1,t⟩:=Fc.trace hrF her dis (hf r hrF);have hp:(cyc (m++k)).Perm (cyc r):=by rw[e1];exact lh k m
   have hlen:0<(m++k).length:=by have:=(Fc.cx r hrF).three;rw[e1,fw]at this;rw[fw];omega
   rw[t];rw[if_pos hlen,hg r hrF k m e1];refine Dp Fc hf hg l _ (r::F1) (F2.erase r) (by grind) hP3 (λq=> ?_) ?_ λr2 hr2 q hq=> ?_
   .rw[bq,hx1,hp.mem_iff,fX,bq,or_comm]
   .grind
   grind
end Geo
namespace Geo
def AU{x y:List V}{u:V}(h:∀v∈x++u::y,leV u v)(hx:u∉x):co (x++u::y)=u::(y++x):=by
 have hn:nth (x++u::y) x.length=u:=by unfold nth;rw[de,kM (bQ _),Nat.sub_self];rfl
 have e:x.length=dN (x++u::y):=Sn (by grind) (λi hi=>by rw[hn];exact h _ (dD hi)) λi hi g=>by rw[hn]at g;apply hx;rw[<-g];unfold nth;grind
 unfold co;grind
def Eo{r:List V}(h:r≠[]):∃u∈r,∀v∈r,leV u v:=by
 have hp:0<r.length:=by grind
 refine⟨_,dD (qJ hp),λv hv=> ?_⟩;obtain⟨i,hi,rfl⟩:=fO.1 hv;exact tR r r.length i hi
def U8{k l:List V}(hn:(k++l).Nodup):co (l++k)=co (k++l):=by
 by_cases h0:k++l=[]
 .simp_all
 .obtain⟨u,hu,hle⟩:=Eo h0;have hle2:∀v∈l++k,leV u v:=by grind
  have hn2:(l++k).Nodup:=by grind
  rcases bq.1 hu with h|h
  .obtain⟨x,y,rfl⟩:=H3 h;have e1:(x++u::y)++l=x++u::(y++l):=by simp
   have e2:l++(x++u::y)=(l++x)++u::y:=by simp
   rw[e1]at hn hle|-;rw[e2]at hn2 hle2|-;rw[AU hle (by grind),AU hle2 (by grind)];simp
  .obtain⟨x,y,rfl⟩:=H3 h;have e1:(x++u::y)++k=x++u::(y++k):=by simp
   have e2:k++(x++u::y)=(k++x)++u::y:=by simp
   rw[e1]at hn2 hle2|-;rw[e2]at hn hle|-;rw[AU hle (by grind),AU hle2 (by grind)];simp
noncomputable def iI(r:List V)(u:V):Bool:= @decide (∃a b,(⟨a,u⟩:S)∈cyc r/\(⟨u,b⟩:S)∈cyc r/\turn a u b≠0) (Classical.propDecidable _)
def uD{r:List V}{u:V}:iI r u=true↔∃a b,(⟨a,u⟩:S)∈cyc r/\(⟨u,b⟩:S)∈cyc r/\turn a u b≠0:=by unfold iI;grind
def WW(k l:List V):iI (l++k)=iI (k++l):=by
 funext u
 rw[eY,uD,uD];simp only[(lh k l).mem_iff]
noncomputable def sk(r:List V):List V:=co (r.filter (iI r))
def WV{k l:List V}(hn:(k++l).Nodup):sk (l++k)=sk (k++l):=by unfold sk;rw[WW,vQ,vQ];refine U8 ?_;grind
def CX.noBack{r:List V}(c:CX r){a b:V}(h:(⟨a,b⟩:S)∈cyc r):(⟨b,a⟩:S)∉cyc r:=λg=>by
 obtain⟨k,l,A,e1,e2⟩:=BA c h;have hp:(cyc (l++k)).Perm (cyc r):=by rw[e1];exact lh k l
 have c2:CX (l++k):=by rw[e1]at c;exact c.swap
 rw[e2]at hp c2;have hn:=c2.nodup;match A,c2.three with
 |x::A,_=>
  have hx:(⟨b,x⟩:S)∈cyc (a::b::x::A):=cB _ cE;have:=An hn (hp.mem_iff.2 g) hx rfl;grind
def CX.around{r:List V}(c:CX r){u:V}(h:u∈r):∃a b,(⟨a,u⟩:S)∈cyc r/\(⟨u,b⟩:S)∈cyc r:=by
 have h1:u∈(cyc r).map S.a:=by rw[rn];exact h
 obtain⟨⟨x,b⟩,hb,rfl⟩:=bM.1 h1;obtain⟨k,l,rfl⟩:=H3 h;have hp:=lh k (x::l);have hm:(⟨x,b⟩:S)∈cyc (k++x::l):=hb;rcases SF (l++k)with e|⟨m,y,e⟩
 .have:=c.three;simp_all
 .rw[List.concat_eq_append]at e;refine⟨y,b,hp.mem_iff.1 ?_,hm⟩;rw[j7,e];show(⟨y,x⟩:S)∈ct x (m++[y] ++[x]);rw[kO,CT,tK];exact fY _ cE
def BD{u v:V}(h:leV u v)(hne:v≠u):gK (sub v u):=by unfold leV at h;unfold gK sub;obtain⟨ux,uy⟩:=u;obtain⟨vx,vy⟩:=v;grind
def CX.corner{W:List V}{side:V->V->Prop}(N:Net W side){r:List V}(c:CX r)(hs:∀e∈cyc r,side e.a e.b):r.filter (iI r)≠[] :=by
 obtain⟨u,hu,hle⟩:=Eo (r:=r) (λe=>by have:=c.three;grind);obtain⟨a,b,ha,hb⟩:=c.around hu;have ua:=N.symm (hs _ ha);have ub:=hs _ hb;have hab:a≠b:=λe=>by subst e;exact c.noBack ha hb
 have pa:=BD (hle a (oJ ha)) (N.ne ua).symm;have pb:=BD (hle b (oI hb)) (N.ne ub).symm;have:u∈r.filter (iI r):=fB.2 ⟨hu,uD.2 ⟨a,b,ha,hb,λh0=> ?_⟩⟩
 .grind
 .have hcr:cross (sub a u) (sub b u)=0:=by
   have e:cross (sub u a) (sub b a)= -cross (sub a u) (sub b u):=by unfold cross sub;grind
   unfold turn sgn at h0;split at h0
   .cases h0
   .omega
  have:=pD (kD (N.ne ua).symm) (kD (N.ne ub).symm) hcr;have ap:=N.fanApart ua ub hab;unfold iG at ap;grind
end Geo
namespace Geo
def sr(F:List (List V))(U:List S):Prop:=∃F1 F2,F.Perm (F1++F2)/\∀e,e∈U↔e∈F1.flatMap cyc
def Mu{nx:S->V}{H:S->Prop}{F:List (List V)}(Fc:Faces nx H F){f:Nat}(hf:∀r∈F,r.length<=f){U:List S}(I:sr F U){e:S}(he:H e):
  (tr nx f U e [] =(U,[]))\/∃r∈F,∃k l,r=k++l/\tr nx f U e [] =(U++cyc (l++k),l++k)/\sr F (U++cyc (l++k)):=by
 obtain⟨F1,F2,hP,hU⟩:=I;by_cases h1:e∈U
 .exact .inl (BW h1)
 .right;have h2:e∈F2.flatMap cyc:=by
   have:=(hP.flatMap_right cyc).mem_iff.1 ((Fc.all e).2 he);rw[vP]at this;rcases bq.1 this with h|h
   .grind
   .exact h
  obtain⟨r,hr,her⟩:=dI.1 h2;have hP3:F.Perm ((r::F1)++F2.erase r):=by grind
  have hrF:r∈F:=by grind
  have nd:=(hP3.flatMap_right cyc).nodup_iff.1 Fc.once;rw[j7,fX,vP,nC]at nd;have dis:∀g∈cyc r,g∉U:=by grind
  obtain⟨k,m,e1,t⟩:=Fc.trace hrF her dis (hf r hrF);have hp:(cyc (m++k)).Perm (cyc r):=by rw[e1];exact lh k m
  refine⟨r,hrF,k,m,e1,t,r::F1,F2.erase r,hP3,λq=> ?_⟩;grind
def I0(nx:S->V)(f:Nat)(g:List V->List V):∀(l:List S) (e:S) (x:List S×List (List V)),m7 nx f g (l++[e]) x=
  ((tr nx f (m7 nx f g l x).1 e []).1,if 0<(tr nx f (m7 nx f g l x).1 e []).2.length then(m7 nx f g l x).2++[g (tr nx f (m7 nx f g l x).1 e []).2]else(m7 nx f g l x).2)
 |[],_,_=>rfl
 |_::l,e,_=>I0 nx f g l e _
def Ls{nx:S->V}{H:S->Prop}{F:List (List V)}(Fc:Faces nx H F){f:Nat}(hf:∀r∈F,r.length<=f){g:List V->List V}:
  ∀(l:List S) (x:List S×List (List V)),sr F x.1->(∀e∈l,H e)->sr F (m7 nx f g l x).1
 |[],x,I,_=>I
 |e::l,x,I,h=>by
  refine Ls Fc hf l _ ?_ (by grind);rcases Mu Fc hf I (h e cE)with t|⟨r,_,k,m,_,t,J⟩
  .grind
  grind
def sr.nil(F:List (List V)):sr F [] :=⟨[],F,.refl _,λe=>by simp⟩
end Geo
section
namespace Geo
def Ow{α:Type}(f:α->Int):∀l:List α,l≠[]->∃x∈l,∀y∈l,f x<=f y
 |[],h=>absurd rfl h
 |[x],_=>⟨x,cE,λy hy=>by simp_all⟩
 |x::z::l,_=>by
  obtain⟨m,hm,h⟩:=Ow f (z::l) (by simp);by_cases c:f x<=f m
  .exact⟨x,cE,λy hy=>by rcases bO.1 hy with rfl|hy;omega;have:=h y hy;omega⟩
  .exact⟨m,cB _ hm,λy hy=>by rcases bO.1 hy with rfl|hy;omega;exact h y hy⟩
section
variable {W:List V} {side:V->V->Prop}
def CX.hull(N:Net W side){r:List V}(c:CX r)(hs:∀e∈cyc r,side e.a e.b)(f:P3)(h:∀v∈r.filter (iI r),0<=ev f (pt v)):∀v∈r,0<=ev f (pt v):=by
 have h0:r≠[] :=λe=>by have:=c.three;simp_all
 obtain⟨m,hm,hmin⟩:=Ow (λv=>ev f (pt v)) r h0;obtain⟨u,hu,hle⟩:=Eo (r:=r.filter λv=>decide (ev f (pt v)=ev f (pt m))) (λe=>by have:m∈r.filter λv=>decide (ev f (pt v)=ev f (pt m)):=fB.2 ⟨hm,decide_eq_true rfl⟩;rw[e]at this;cases this)
 obtain⟨hur,hum⟩:=fB.1 hu;have hum:=of_decide_eq_true hum;obtain⟨a,b,ha,hb⟩:=c.around hur;have ua:=N.symm (hs _ ha);have ub:=hs _ hb;have hab:a≠b:=λe=>by subst e;exact c.noBack ha hb
 have fa:=hmin a (oJ ha);have fb:=hmin b (oI hb);have hc:u∈r.filter (iI r):=by
  refine fB.2 ⟨hur,uD.2 ⟨a,b,ha,hb,λh0=> ?_⟩⟩;have hcr:cross (sub a u) (sub b u)=0:=by
   have e:cross (sub u a) (sub b a)= -cross (sub a u) (sub b u):=by unfold cross sub;grind
   unfold turn sgn at h0;split at h0
   .cases h0
   .omega
  have ap:=N.fanApart ua ub hab;have hd:dot (sub a u) (sub b u)<0:=by unfold iG at ap;grind
  have na:=kD (N.ne ua).symm;have nb:=kD (N.ne ub).symm;have ld:=pD na nb hcr;have key:dot (sub a u) (sub a u)*(ev f (pt b)-ev f (pt u))=dot (sub a u) (sub b u)*(ev f (pt a)-ev f (pt u)):=by unfold ev pt dot sub cross at*;grind
  have pos:0<dot (sub a u) (sub a u):=by
   unfold nz at na;unfold dot;rcases vM (sub a u).x 0 with g|g|g
   .have:=vG g g;have:=qL (sub a u).y;omega
   .have:(sub a u).y≠0:=λe=>na ⟨g,e⟩;rcases lK this with k|k
    .have:=vG k k;rw[g];omega
    .have:=bV k k;rw[g];omega
   .have:=bV g g;have:=qL (sub a u).y;omega
  have fa':0<=ev f (pt a)-ev f (pt u):=by omega
  have fb':0<=ev f (pt b)-ev f (pt u):=by omega
  have p1:=cM (yU pos) fb';have p2:dot (sub a u) (sub b u)*(ev f (pt a)-ev f (pt u))<=0:=Hw (yU hd) fa';have eb:ev f (pt b)=ev f (pt u):=by
   have:dot (sub a u) (sub a u)*(ev f (pt b)-ev f (pt u))=0:=by omega
   rcases dd.1 this with g|g<;>omega
  have ea:ev f (pt a)=ev f (pt u):=by
   have:dot (sub a u) (sub b u)*(ev f (pt a)-ev f (pt u))=0:=by rw[<-key,eb];simp
   rcases dd.1 this with g|g<;>omega
  have pa:=BD (hle a (fB.2 ⟨oJ ha,decide_eq_true (by omega)⟩)) (N.ne ua).symm;have pb:=BD (hle b (fB.2 ⟨oI hb,decide_eq_true (by omega)⟩)) (N.ne ub).symm;grind
 intro v hv;have:=h u hc;have:=hmin v hv;omega
def CX.common(N:Net W side){r q:List V}(c:CX r)(d:CX q)(hr:∀e∈cyc r,side e.a e.b)(hq:∀e∈cyc q,side e.a e.b)(h:∀v,v∈r.filter (iI r)↔v∈q.filter (iI q)):∃e,e∈cyc r/\e∈cyc q:=by
 obtain⟨a,ha⟩:=List.exists_mem_of_ne_nil _ (c.corner N hr);have ha2:=(h a).1 ha;obtain⟨har,hac⟩:=fB.1 ha;obtain⟨p,x,hp,hx,ht⟩:=uD.1 hac;obtain⟨_,y,_,hy⟩:=d.around (fB.1 ha2).1;have cr:∀v∈r.filter (iI r),0<=ev (lin a x) (pt v):=λv hv=>c.left _ hx v (fB.1 hv).1;have cq:∀v∈q.filter (iI q),0<=ev (lin a y) (pt v):=λv hv=>d.left _ hy v (fB.1 hv).1;have h1:=d.hull N hq (lin a x) (λv hv=>cr v ((h v).2 hv)) y (oI hy);have h2:=c.hull N hr (lin a y) (λv hv=>cq v ((h v).1 hv)) x (oI hx);have sx:=hr _ hx;have sy:=hq _ hy;by_cases e:x=y
 .subst e;exact⟨_,hx,hy⟩
 .exfalso;have ap:=N.fanApart sx sy e;rw[eM]at h1 h2;have h0:cross (sub x a) (sub y a)=0:=by
   have:cross (sub y a) (sub x a)= -cross (sub x a) (sub y a):=by unfold cross;grind
   omega
  have hd:dot (sub x a) (sub y a)<0:=by unfold iG at ap;grind
  have z:∀v∈r.filter (iI r),0<=ev (lin x a) (pt v):=λv hv=>by
   have g1:=cr v hv;have g2:=cq v ((h v).1 hv);rw[eM]at g1 g2;rw[jl,eM];have key:dot (sub x a) (sub x a)*cross (sub y a) (sub v a)=dot (sub x a) (sub y a)*cross (sub x a) (sub v a):=by unfold dot cross sub at*;grind
   have pos:0<=dot (sub x a) (sub x a):=by unfold dot;have:=qL (sub x a).x;have:=qL (sub x a).y;omega
   have k1:=cM pos g2;have k2:¬0<cross (sub x a) (sub v a):=λg=>by have:=lL hd g;omega
   omega
  have zp:=c.hull N hr (lin x a) z p (oJ hp);have wp:=c.left _ hx p (oJ hp);rw[jl]at zp;have w0:ev (lin a x) (pt p)=0:=by have wp:0<=ev (lin a x) (pt p):=wp;omega
  rw[eM]at w0;apply ht;have:cross (sub a p) (sub x p)=0:=by unfold cross sub at*;grind
  unfold turn;rw[this];rfl
end
def Faces.corners{W:List V}{side:V->V->Prop}(N:Net W side){nx:S->V}{H:S->Prop}{F:List (List V)}(h:Faces nx H F)(hs:∀e,H e->side e.a e.b):(F.map sk).Nodup:=by
 have hr:∀r∈F,∀e∈cyc r,side e.a e.b:=λr hr e he=>hs e ((h.all e).1 (dI.2 ⟨r,hr,he⟩));have o:=h.once;rw[List.flatMap_def,oi,List.pairwise_flatten]at o;rw[oi,ia];have o2:=ia.1 o.2;refine(List.Pairwise.and_mem.1 o2).imp λ{a b} ⟨ha,hb,hab⟩ he=> ?_;have hm:∀v,v∈a.filter (iI a)↔v∈b.filter (iI b):=λv=>by rw[<-(tV (a.filter (iI a))).mem_iff,<-(tV (b.filter (iI b))).mem_iff];show v∈sk a↔v∈sk b;rw[he]
 obtain⟨e,e1,e2⟩:=(h.cx a ha).common N (h.cx b hb) (hr a ha) (hr b hb) hm;exact hab e e1 e e2 rfl
end Geo
end
section
inductive PV where
 |int (k:IntKind) (n:Int)
 |bool (b:Bool)
 |str (s:ByteArray)
 |agg (l:List PV)
 |tup (l:List PV)
 |sl (n:Nat) (cells:List PV)
 |pro (cells:List PV) (off:Nat)
 |fn (f:Fn) (first caps:List PV)
 |junk
deriving Inhabited
abbrev bF:=Nat->Nat->Value->Prop
def gP(vs:List Value):Prop:=∀u∈vs,u.oneCell'=true
mutual
def aU(C:bF):PV->Value->Prop
 | .int k n,v=>v= .int k n
 | .bool b,v=>v= .bool b
 | .str s,v=>v= .string s
 | .agg l,v=>∃vs:List Value,v= .agg vs.toArray/\af C l vs/\gP vs
 | .tup l,v=>∃vs:List Value,v= .tuple vs.toArray/\af C l vs
 | .sl n cs,v=>∃a c,v= .slice a n c/\n<=c/\(a=none->c=0/\cs=[])/\∀ad,a=some ad->(0<n->ad.spot=none)/\cK C cs ad.block ad.off
 | .pro cs off,v=>∃b o,v= .pointer (some ⟨b,o+off,none⟩)/\cK C cs b o
 | .fn f l1 l2,v=>∃vs1 vs2:List Value,v= .func f vs1.toArray vs2.toArray/\af C l1 vs1/\af C l2 vs2
 | .junk,_=>True
def af(C:bF):List PV->List Value->Prop
 |[],vs=>vs=[]
 |x::l,vs=>∃v r,vs=v::r/\aU C x v/\af C l r
def cK(C:bF):List PV->Nat->Nat->Prop
 |[],_,_=>True
 |x::l,b,o=>(∃v,C b o v/\v.oneCell'=true/\aU C x v)/\cK C l b (o+1)
end
section
variable {C C':bF}
mutual
theorem aU.mono(h:∀b o v,C b o v->C' b o v):∀(x:PV) (v:Value),aU C x v->aU C' x v
 | .int ..,v,hx=>by unfold aU at*;exact hx
 | .bool ..,v,hx=>by unfold aU at*;exact hx
 | .str ..,v,hx=>by unfold aU at*;exact hx
 | .agg l,v,hx=>by unfold aU at*;obtain⟨vs,h1,h2,h3⟩:=hx;exact⟨vs,h1,af.mono h l vs h2,h3⟩
 | .tup l,v,hx=>by unfold aU at*;obtain⟨vs,h1,h2⟩:=hx;exact⟨vs,h1,af.mono h l vs h2⟩
 | .sl n cs,v,hx=>by
   unfold aU at*;obtain⟨a,c,h1,h2,h3,h4⟩:=hx;exact⟨a,c,h1,h2,h3,λad e=>⟨(h4 ad e).1,cK.mono h cs _ _ (h4 ad e).2⟩⟩
 | .pro cs off,v,hx=>by unfold aU at*;obtain⟨b,o,h1,h2⟩:=hx;exact⟨b,o,h1,cK.mono h cs _ _ h2⟩
 | .fn f l1 l2,v,hx=>by unfold aU at*;obtain⟨a,b,h1,h2,h3⟩:=hx;exact⟨a,b,h1,af.mono h l1 a h2,af.mono h l2 b h3⟩
 | .junk,v,hx=>by unfold aU;trivial
theorem af.mono(h:∀b o v,C b o v->C' b o v):∀(l:List PV) (vs:List Value),af C l vs->af C' l vs
 |[],vs,hx=>by unfold af at*;exact hx
 |x::l,vs,hx=>by unfold af at*;obtain⟨v,r,h1,h2,h3⟩:=hx;exact⟨v,r,h1,aU.mono h x v h2,af.mono h l r h3⟩
theorem cK.mono(h:∀b o v,C b o v->C' b o v):∀(l:List PV) (b o:Nat),cK C l b o->cK C' l b o
 |[],b,o,hx=>by unfold cK;trivial
 |x::l,b,o,hx=>by
  unfold cK at*;obtain⟨⟨v,h1,h2,h3⟩,h4⟩:=hx;exact⟨⟨v,h _ _ _ h1,h2,aU.mono h x v h3⟩,cK.mono h l b (o+1) h4⟩
end
def af.length:∀(l:List PV) (vs:List Value),af C l vs->vs.length=l.length
 |[],vs,h=>by unfold af at h;subst h;rfl
 |x::l,vs,h=>by unfold af at h;obtain⟨v,r,rfl,_,h3⟩:=h;simp[af.length l r h3]
def af.get:∀(l:List PV) (vs:List Value),af C l vs->∀(i:Nat) x,l[i]? =some x->∃v,vs[i]? =some v/\aU C x v
 |[],vs,h,i,x,hi=>by simp at hi
 |y::l,vs,h,0,x,hi=>by unfold af at h;grind
 |y::l,vs,h,i+1,x,hi=>by
  unfold af at h;obtain⟨v,r,rfl,h2,h3⟩:=h;exact af.get l r h3 i x (by grind)
def af.of:∀(l:List PV) (vs:List Value),vs.length=l.length->(∀(i:Nat) x,l[i]? =some x->∃v,vs[i]? =some v/\aU C x v)->af C l vs
 |[],vs,hl,h=>by unfold af;grind
 |y::l,[],hl,h=>by simp at hl
 |y::l,v::r,hl,h=>by
  unfold af;obtain⟨v',h1,h2⟩:=h 0 y rfl;simp at h1;subst h1;exact⟨v,r,rfl,h2,af.of l r (by grind) (λi x hi=>h (i+1) x (by grind))⟩
def cK.get:∀(l:List PV) (b o:Nat),cK C l b o->∀(i:Nat) x,l[i]? =some x->∃v,C b (o+i) v/\v.oneCell'=true/\aU C x v
 |[],b,o,h,i,x,hi=>by simp at hi
 |y::l,b,o,h,0,x,hi=>by unfold cK at h;grind
 |y::l,b,o,h,i+1,x,hi=>by
  unfold cK at h;have:=cK.get l b (o+1) h.2 i x (by grind);grind
def cK.of:∀(l:List PV) (b o:Nat),(∀(i:Nat) x,l[i]? =some x->∃v,C b (o+i) v/\v.oneCell'=true/\aU C x v)->cK C l b o
 |[],b,o,h=>by unfold cK;trivial
 |y::l,b,o,h=>by
  unfold cK;refine⟨h 0 y rfl,cK.of l b (o+1) (λi x hi=> ?_)⟩;have:=h (i+1) x (by grind);grind
def cK.drop{l:List PV}{b o:Nat}(h:cK C l b o)(k:Nat):cK C (l.drop k) b (o+k):=
 cK.of _ _ _ λi x hi=>by rw[vL]at hi;have:=cK.get l b o h (k+i) x hi;grind
def cK.take{l:List PV}{b o:Nat}(h:cK C l b o)(k:Nat):cK C (l.take k) b o:=
 cK.of _ _ _ λi x hi=>by
  rw[og]at hi;split at hi
  .exact cK.get l b o h i x hi
  .cases hi
end
inductive AV where
 |any
 |undef
 |nil
 |p (x:PV)
 |ptr (s off:Nat)
 |own (s o n:Nat)
 |agg (l:List AV)
 |tup (l:List AV)
 |fn (f:Fn) (first caps:List AV)
 |mp (s:Nat)
deriving Inhabited
abbrev Ren:=Nat->Option (Option Nat×Nat)
mutual
def aR(ρ:Ren)(C:bF):AV->Value->Prop
 | .any,_=>True
 | .undef,v=>v=Go.undef
 | .nil,v=>v= .slice none 0 0
 | .p x,v=>aU C x v
 | .ptr s off,v=>∃b c,ρ s=some (some b,c)/\v= .pointer (some ⟨b,off,none⟩)
 | .own s o n,v=>∃q c,ρ s=some (q,c)/\((q=none/\v= .slice none 0 0/\n=0/\o=0)\/∃b o' c',q=some b/\v= .slice (some ⟨b,o',none⟩) n c'/\n<=c'/\(n≠0->o'=o)/\(o=0->o'=0/\c'=c))
 | .agg l,v=>∃vs:List Value,v= .agg vs.toArray/\ak ρ C l vs/\gP vs
 | .tup l,v=>∃vs:List Value,v= .tuple vs.toArray/\ak ρ C l vs
 | .fn f l1 l2,v=>∃vs1 vs2:List Value,v= .func f vs1.toArray vs2.toArray/\ak ρ C l1 vs1/\ak ρ C l2 vs2
 | .mp s,v=>∃c,ρ s=some (none,c)/\v= .map (some c)
def ak(ρ:Ren)(C:bF):List AV->List Value->Prop
 |[],vs=>vs=[]
 |x::l,vs=>∃v r,vs=v::r/\aR ρ C x v/\ak ρ C l r
end
section
variable {C C':bF} {ρ ρ':Ren}
mutual
theorem aR.mono(hr:∀s q,ρ s=some q->ρ' s=some q)(h:∀b o v,C b o v->C' b o v):∀(x:AV) (v:Value),aR ρ C x v->aR ρ' C' x v
 | .any,v,hx=>by unfold aR;trivial
 | .undef,v,hx=>by unfold aR at*;exact hx
 | .nil,v,hx=>by unfold aR at*;exact hx
 | .p x,v,hx=>by unfold aR at*;exact aU.mono h x v hx
 | .ptr ..,v,hx=>by unfold aR at*;grind
 | .own ..,v,hx=>by unfold aR at*;grind
 | .agg l,v,hx=>by unfold aR at*;obtain⟨vs,h1,h2,h3⟩:=hx;exact⟨vs,h1,ak.mono hr h l vs h2,h3⟩
 | .tup l,v,hx=>by unfold aR at*;obtain⟨vs,h1,h2⟩:=hx;exact⟨vs,h1,ak.mono hr h l vs h2⟩
 | .fn f l1 l2,v,hx=>by unfold aR at*;obtain⟨a,b,h1,h2,h3⟩:=hx;exact⟨a,b,h1,ak.mono hr h l1 a h2,ak.mono hr h l2 b h3⟩
 | .mp s,v,hx=>by unfold aR at*;grind
theorem ak.mono(hr:∀s q,ρ s=some q->ρ' s=some q)(h:∀b o v,C b o v->C' b o v):∀(l:List AV) (vs:List Value),ak ρ C l vs->ak ρ' C' l vs
 |[],vs,hx=>by unfold ak at*;exact hx
 |x::l,vs,hx=>by unfold ak at*;obtain⟨v,r,h1,h2,h3⟩:=hx;exact⟨v,r,h1,aR.mono hr h x v h2,ak.mono hr h l r h3⟩
end
def ak.length:∀(l:List AV) (vs:List Value),ak ρ C l vs->vs.length=l.length
 |[],vs,h=>by unfold ak at h;subst h;rfl
 |x::l,vs,h=>by unfold ak at h;obtain⟨v,r,rfl,_,h3⟩:=h;simp[ak.length l r h3]
def ak.get:∀(l:List AV) (vs:List Value),ak ρ C l vs->∀(i:Nat) x,l[i]? =some x->∃v,vs[i]? =some v/\aR ρ C x v
 |[],vs,h,i,x,hi=>by simp at hi
 |y::l,vs,h,0,x,hi=>by unfold ak at h;grind
 |y::l,vs,h,i+1,x,hi=>by
  unfold ak at h;obtain⟨v,r,rfl,h2,h3⟩:=h;exact ak.get l r h3 i x (by grind)
def ak.of:∀(l:List AV) (vs:List Value),vs.length=l.length->(∀(i:Nat) x,l[i]? =some x->∃v,vs[i]? =some v/\aR ρ C x v)->ak ρ C l vs
 |[],vs,hl,h=>by unfold ak;grind
 |y::l,[],hl,h=>by simp at hl
 |y::l,v::r,hl,h=>by
  unfold ak;obtain⟨v',h1,h2⟩:=h 0 y rfl;simp at h1;subst h1;exact⟨v,r,rfl,h2,ak.of l r (by grind) (λi x hi=>h (i+1) x (by grind))⟩
end
structure Ob where
 ty:TypeId
 esz:Nat
 cells:List AV
deriving Inhabited
def bE(C0:bF)(B:Nat)(w:World)(ρ:Ren)(g:Nat->Option Ob):bF:=λb o v=>w.cell? ⟨b,o,none⟩=some v/\(∀s c,ρ s=some (some b,c)->g s=none)/\(B<=b\/C0 b o v)
structure ObRep(ρ:Ren)(C:bF)(w:World)(b c:Nat)(ob:Ob)(arr:Array Value):Prop where
 blk:w.heap[b]? =some (.cells arr ob.ty (0,0))
 box:ob.esz=0->arr.size=ob.cells.length
 row:ob.esz≠0->arr.size=c*ob.esz/\ob.cells.length<=arr.size/\c<=maxLen
 cells:∀(i:Nat) x,ob.cells[i]? =some x->∃v,arr[i]? =some v/\v.oneCell'=true/\aR ρ C x v
def xX(C0:bF)(B:Nat)(ρ:Ren)(C:bF)(w:World)(c:Nat)(o:Ob):Prop:=
 (o.ty=0/\(∀(i:Nat) x,o.cells[i]? =some x->∀v,C0 B i v->aR ρ C x v)/\∀i v,C0 B i v->i<o.cells.length)\/
 (o.ty=1/\B<=c/\∃es clock,w.heap[c]? =some (.map es clock)/\ak ρ C o.cells (es.toList.flatMap λe=>[e.key,e.val]))
def rC(o:Ob)(c:Nat)(o':Ob)(c':Nat):Prop:=(o.ty=1/\o'.ty=1/\c=c')\/(o.ty=0/\o'.ty=0)
def rC.symm{o:Ob}{c:Nat}{o':Ob}{c':Nat}(h:rC o c o' c'):rC o' c' o c:=by
 rcases h with⟨h1,h2,h3⟩|⟨h1,h2⟩
 .exact .inl ⟨h2,h1,h3.symm⟩
 .exact .inr ⟨h2,h1⟩
structure StR(C0:bF)(ρ:Ren)(g:Nat->Option Ob)(w:World)(B:Nat):Prop where
 ob:∀s o,g s=some o->∃q c,ρ s=some (q,c)/\((q=none/\((o.esz≠0/\o.cells=[]/\c=0)\/(o.esz=0/\xX C0 B ρ (bE C0 B w ρ g) w c o)))\/∃b arr,q=some b/\B<=b/\ObRep ρ (bE C0 B w ρ g) w b c o arr)
 inj:∀s s' o o' b c c',g s=some o->g s'=some o'->ρ s=some (some b,c)->ρ s'=some (some b,c')->s=s'
 mpi:∀s s' o o' c c',g s=some o->g s'=some o'->o.esz=0->o'.esz=0->ρ s=some (none,c)->ρ s'=some (none,c')->rC o c o' c'->s=s'
def ObRep.lt{ρ:Ren}{C:bF}{w:World}{b c:Nat}{ob:Ob}{arr:Array Value}(h:ObRep ρ C w b c ob arr):b<w.heap.size:=by
 rcases nF b w.heap.size with hlt|hge
 .exact hlt
 .have:=h.blk;grind
def ObRep.cell{ρ:Ren}{C:bF}{w:World}{b c:Nat}{ob:Ob}{arr:Array Value}(h:ObRep ρ C w b c ob arr)(i:Nat):w.cell? ⟨b,i,none⟩=arr[i]? :=cell_of_row w b i arr ob.ty (0,0) h.blk
def ObRep.frozen{ρ:Ren}{C:bF}{w:World}{b c:Nat}{ob:Ob}{arr:Array Value}(h:ObRep ρ C w b c ob arr)(i:Nat):w.frozen? ⟨b,i,none⟩=false:=by simp[H4,h.blk]
def StR.at{C0:bF}{ρ:Ren}{g:Nat->Option Ob}{w:World}{B s b c:Nat}{o:Ob}(h:StR C0 ρ g w B)(hg:g s=some o)(hr:ρ s=some (some b,c)):B<=b/\∃arr,ObRep ρ (bE C0 B w ρ g) w b c o arr:=by obtain⟨q,c',h1,h2⟩:=h.ob s o hg;grind
end
section
structure GrD where
 n:Nat
 os:Array Obj
instance:Nonempty GrD:=⟨⟨0, #[]⟩⟩
def grD(w:World)(n:Nat)(os:Array Obj):World:={w with heap:=w.heap++os,drawn:=n}
def Kk(w:World)(n:Nat)(os:Array Obj):Below w.heap.size w (grD w n os):=
 ⟨rfl,rfl,rfl,by simp[grD],λk hk=>by simp[grD,Array.getElem?_append_left hk]⟩
def Il{w w':World}(h:Below w.heap.size w w'):∃p:GrD,w'=grD w p.n p.os:=by
 refine⟨⟨w'.drawn,w'.heap.extract w.heap.size w'.heap.size⟩,?_⟩;obtain⟨h1,h2,h3,h4,h5⟩:=h;have hh:w'.heap=w.heap++w'.heap.extract w.heap.size w'.heap.size:=by
  apply Array.ext_getElem?;intro i;by_cases hi:i<w.heap.size
  .grind
  .grind
 unfold grD;cases w';grind
def Calls.qb{P:Program}{f:FuncId}{args:Array Value}{w:World}{n:Nat}{os:Array Obj}{v:Value}
  (h:Calls P f args (grD w n os) λe w'=>e= .returned v/\Below (grD w n os).heap.size (grD w n os) w'):Calls P f args (grD w n os) λe w''=>e= .returned v/\∃p:GrD,w''=grD w p.n p.os:=
 h.mono λ_ _ ⟨he,hb⟩=>⟨he,Il ((Kk w n os).trans (hb.mono (Kk w n os).size))⟩
def Below.then_{W w1 w2:World}(h1:Below W.heap.size W w1)(h2:Below w1.heap.size w1 w2):Below W.heap.size W w2:=h1.trans (h2.mono h1.size)
def Blk(w:World)(g:Nat)(t:TypeId)(cs:Array Value):Prop:=w.heap[g]? =some (.cells cs t (0,0))
section
variable {w w':World} {g:Nat} {t:TypeId} {cs:Array Value}
def Blk.lt(h:Blk w g t cs):g<w.heap.size:=by
 rcases nF g w.heap.size with hlt|hge
 .exact hlt
 .unfold Blk at h;grind
def Blk.cell(h:Blk w g t cs)(i:Nat):w.cell? ⟨g,i,none⟩=cs[i]? :=cell_of_row w g i cs t (0,0) h
def Blk.frozen(h:Blk w g t cs)(i:Nat):w.frozen? ⟨g,i,none⟩=false:=by unfold Blk at h;simp[H4,h]
def Blk.new(w:World)(t:TypeId)(cs:Array Value):Blk (w.alloc (.cells cs t)) w.heap.size t cs:=heap_alloc_new w _
def Blk.drew(h:Blk w g t cs):Blk w.drew g t cs:=h
def Blk.alloc(h:Blk w g t cs)(o:Obj):Blk (w.alloc o) g t cs:=(Below.heap_alloc w o g h.lt).trans h
def Blk.iV(h:Blk w g t cs)(i:Nat)(u:Value):Blk (w.setCell ⟨g,i,none⟩ u) g t (cs.setIfInBounds i u):=by unfold Blk at h|-;simp[World.setCell,H5,h]
def Blk.far(h:Blk w g t cs){p:Addr}(hp:g≠p.block)(u:Value):Blk (w.setCell p u) g t cs:=(Below.heap_setCell w p u g hp).trans h
def Blk.below{B:Nat}(h:Blk w g t cs)(hb:Below B w w')(hg:g<B):Blk w' g t cs:=(hb.block g hg).trans h
def Blk.then_(h:Blk w g t cs)(hb:Below w.heap.size w w'):Blk w' g t cs:=h.below hb h.lt
end
end
def J3{P:Program}{ops:Array Oper}{Q:Exit->Act->World->Prop}
  (hac:∀(i:Nat) (o:Oper),ops[i]? =some o->∀e∈o.after.toList,gg .any e=true->e.on<i)
  (Inv:(Nat->Bool)->Act->World->Prop)
  (hstep:∀(i:Nat) (o:Oper) (D:Nat->Bool) (a:Act) (w:World),ops[i]? =some o->Inv D a w->D i=false->(∀e∈o.after.toList,gg .any e=true->D e.on=true)->
    wpOp P ops Q i (λa' w'=>Inv (λj=>if j=i then true else D j) a' w') a w)
  (hend:∀(D:Nat->Bool) (a:Act) (w:World),Inv D a w->(∀i,i<ops.size->D i=true)->Q .normal a w):
  ∀(fuel:Nat) (L:Array Bool) (a:Act) (w:World),L.size=ops.size->L.toList.count false<=fuel->Inv (λj=>L.getD j false) a w->wpAny P .any ops Q fuel L a w:=by
 have key:∀(L:Array Bool),L.size=ops.size->CW .any ops L=[]->∀i,i<ops.size->L.getD i false=true:=by
  intro L hL hr i;induction i using Hr with
  |ind i ih=>
   intro hi;rcases SH (L.getD i false)with h|h
   .exact h
   .have hmem:i∈CW .any ops L:=by
     unfold CW;rw[fB];refine⟨bz.2 hi,?_⟩;have h1:L.getD i true=false:=by rw[fx,vR (by omega)]at h|-;exact h
     obtain⟨o,ho⟩:∃o,ops[i]? =some o:=⟨_,vR hi⟩;rw[h1,ho];simp only[Bool.not_false,oc,eI,kj];rw[Array.all_eq_true'];intro e he;rcases SH (gg .any e)with hb|hb
     .grind
     .rw[hb];rfl
    grind
 intro fuel;induction fuel with
 |zero=>
  intro L a w hL hc hI;have hall:∀i,i<ops.size->L.getD i false=true:=by
   intro i hi;rcases SH (L.getD i false)with h|h
   .exact h
   .exfalso;have h0:L.toList.count false=0:=by omega
    rw[List.count_eq_zero]at h0;rw[fx,vR (by omega)]at h;grind
  refine⟨?_,by grind⟩;unfold CW;simp_all
 |succ fuel ih=>
  intro L a w hL hc hI;refine⟨by grind,?_⟩;intro i hi;unfold CW at hi;rw[fB]at hi;obtain⟨hi1,hi2⟩:=hi;have hlt:=bz.1 hi1;obtain⟨o,ho⟩:∃o,ops[i]? =some o:=by grind
  rw[ho]at hi2;simp only[eI,kj,bm,CN]at hi2;obtain⟨hf,hall⟩:=hi2;have hLi:L[i]? =some false:=by rw[fx,vR (by omega)]at hf;rw[vR (by omega)];simpa using hf
  have hD:L.getD i false=false:=by rw[fx,hLi];rfl
  have hpre:∀e∈o.after.toList,gg .any e=true->L.getD e.on false=true:=by intro e he hb;rw[Array.all_eq_true']at hall;have:=hall e (Array.mem_toList_iff.1 he);rw[hb]at this;simpa using this
  refine wpOp_mono ?_ (hstep i o _ a w ho hI hD hpre);intro a' w' hI';refine ih (L.setIfInBounds i true) a' w' (by grind) ?_ ?_
  .grind
  .have e:(λj=>(L.setIfInBounds i true).getD j false)=(λj=>if j=i then true else L.getD j false):=by
    funext j
    rw[fx,fx,vS];by_cases h:i=j
    .grind
    .grind
   grind
def Sp{P:Program}{id:Nat}{ops:Array Oper}{Q:Exit->Act->World->Prop}{a0:Act}{w0:World}(hm:P.follows .mixedOrders=true)
  (hac:∀(i:Nat) (o:Oper),ops[i]? =some o->∀e∈o.after.toList,gg .any e=true->e.on<i)
  (Inv:(Nat->Bool)->Act->World->Prop) (h0:Inv (λ_=>false) a0 w0.drew)
  (hstep:∀(i:Nat) (o:Oper) (D:Nat->Bool) (a:Act) (w:World),ops[i]? =some o->Inv D a w->D i=false->(∀e∈o.after.toList,gg .any e=true->D e.on=true)->
    wpOp P ops Q i (λa' w'=>Inv (λj=>if j=i then true else D j) a' w') a w)
  (hend:∀(D:Nat->Bool) (a:Act) (w:World),Inv D a w->(∀i,i<ops.size->D i=true)->Q .normal a w):
  (yX id ops true).wp P Q a0 w0:=by
 refine wp_region_any hm (J3 hac Inv hstep hend _ _ _ _ (by simp) ?_ ?_)
 .simp
 .have e:(λj=>(Array.replicate ops.size false).getD j false)=(λ_=>false):=by
   funext j
   rw[fx,Array.getElem?_replicate];split<;>rfl
  simp_all
def bI(V:Nat->Value):Operand->Value
 | .tmp t=>V t
 | .const v=>v
 | .global g=> .pointer (some ⟨g,0,none⟩)
 | .func f=> .func (.func f) #[] #[]
def cI(P:Program)(o:Oper)(V:Nat->Value)(w:World)(K:Value->World->Prop):Prop:=
 match(execOp (bI V) o).run P w with
 | .ok (.value v) w'=>K v w'
 | .ok .skip w'=>K undef w'
 | .ok (.enter f args) w'=>Calls P f args w' λe w''=>∃v,e= .returned v/\K v w''
 |_=>False
def gq(a0:Act)(dsts:List Nat)(V:Nat->Value):Act:=dsts.foldl (λa s=>a.put (some s) (V s)) a0
def yz(V:Nat->Value):∀(dsts:List Nat) (a0:Act),(∀s∈dsts,s<a0.tmps.size)->
  (gq a0 dsts V).defers=a0.defers/\(gq a0 dsts V).tmps.size=a0.tmps.size/\∀s,s<a0.tmps.size->(gq a0 dsts V).tmps.getD s undef=if s∈dsts then V s else a0.tmps.getD s undef
 |[],a0,_=>⟨rfl,rfl,λs _=>by simp[gq]⟩
 |d::dsts,a0,h=>by
  have hs:(a0.put (some d) (V d)).tmps.size=a0.tmps.size:=by simp[mL]
  obtain⟨h1,h2,h3⟩:=yz V dsts (a0.put (some d) (V d)) (by grind);refine⟨h1,h2.trans hs,?_⟩;intro s hlt;have:=h3 s (by omega);show(gq (a0.put (some d) (V d)) dsts V).tmps.getD s undef=_;rw[this];by_cases hm:s∈dsts
  .grind
  .by_cases e:s=d
   .subst e;simp[mL,hlt]
   .simp only[mL,fx,vS];grind
def Act.eval_evalV(a:Act):a.eval=bI (λs=>a.tmps.getD s undef):=by
 funext x
 cases x<;>rfl
def gdV(ops:Array Oper)(V:Nat->Value)(j:Nat):Option Bool:=
 match(ops[j]?).bind (·.dst)with
 |some d=>(match V d with| .bool b=>some b|_=>none)
 |none=>none
def C6(ops:Array Oper)(t:Array Value):yielded ops t=gdV ops (λs=>t.getD s undef):=by
 funext j
 unfold yielded gdV;cases h:(ops[j]?).bind (·.dst)with
 |none=>rfl
 |some d=>
  simp only[qD,fx];cases ht:t[d]? with
  |none=>rfl
  |some v=>grind
def TT{P:Program}{id:Nat}{ops:Array Oper}{Q:Exit->Act->World->Prop}{a0:Act}{w0:World}(hm:P.follows .mixedOrders=true)
  (dsts:List Nat)
  (hok:((bP ops.size).all λi=>((ops[i]?).map λo=>(o.after.toList.all λe=> !gg .any e||decide (e.on<i))&&(match o.dst with|some d=>dsts.contains d|none=>true)).getD true)=true)
  (hds:∀s∈dsts,s<a0.tmps.size)
  (F:(Nat->Bool)->(Nat->Value)->World->Prop) (h0:F (λ_=>false) (λs=>a0.tmps.getD s undef) w0.drew)
  (hstep:∀(i:Nat) (o:Oper) (D:Nat->Bool) (V:Nat->Value) (w:World),ops[i]? =some o->F D V w->D i=false->(∀e∈o.after.toList,gg .any e=true->D e.on=true)->
    (∀s,s∉dsts->V s=a0.tmps.getD s undef)->
    if iK o (gdV ops V)=true then
     cI P o V w (λv w'=>F (λj=>if j=i then true else D j) (match o.dst with|some d=>λs=>if s=d then v else V s|none=>V) w')
    else F (λj=>if j=i then true else D j) (match o.dst with|some d=>λs=>if s=d then undef else V s|none=>V) w)
  (hend:∀(D:Nat->Bool) (V:Nat->Value) (w:World),F D V w->(∀i,i<ops.size->D i=true)->Q .normal (gq a0 dsts V) w):
  (yX id ops true).wp P Q a0 w0:=by
 have hops:∀(i:Nat) (o:Oper),ops[i]? =some o->(∀e∈o.after.toList,gg .any e=true->e.on<i)/\(∀d,o.dst=some d->d∈dsts):=by
  intro i o ho;have hi:i<ops.size:=by grind
  rw[bZ]at hok;have:=hok i (bz.2 hi);rw[ho]at this;simp only[eI,kj,bm]at this;obtain⟨g2,g3⟩:=this;refine⟨?_,?_⟩
  .grind
  .grind
 refine Sp hm (by grind) (λD a w=>a.defers=a0.defers/\a.tmps.size=a0.tmps.size/\(∀s,s∉dsts->a.tmps.getD s undef=a0.tmps.getD s undef)/\F D (λs=>a.tmps.getD s undef) w) (by grind) ?_ ?_
 .intro i o D a w ho ⟨i1,i2,i3,i4⟩ hD hpre;obtain⟨_,hdst⟩:=hops i o ho;have hrun:=hstep i o D (λs=>a.tmps.getD s undef) w ho i4 hD hpre i3;have hput:∀(v:Value) (w':World),F (λj=>if j=i then true else D j) (match o.dst with|some d=>λs=>if s=d then v else a.tmps.getD s undef|none=>λs=>a.tmps.getD s undef) w'->
    (a.put o.dst v).defers=a0.defers/\(a.put o.dst v).tmps.size=a0.tmps.size/\(∀s,s∉dsts->(a.put o.dst v).tmps.getD s undef=a0.tmps.getD s undef)/\F (λj=>if j=i then true else D j) (λs=>(a.put o.dst v).tmps.getD s undef) w':=by
   intro v w' hF;cases hd:o.dst with
   |none=>rw[hd]at hF;exact⟨i1,i2,i3,hF⟩
   |some d=>
    have hdm:=hdst d hd;have hget:∀s,(a.put (some d) v).tmps.getD s undef=if s=d then v else a.tmps.getD s undef:=by
     intro s;simp only[mL,fx,vS];by_cases e:d=s
     .grind
     .grind
    refine⟨i1,by simpa[mL]using i2,?_,?_⟩
    .intro s hs;rw[hget,if_neg (by grind)];exact i3 s hs
    .have e:(λs=>(a.put (some d) v).tmps.getD s undef)=(λs=>if s=d then v else a.tmps.getD s undef):=funext hget;grind
  unfold wpOp;rw[ho];simp only[];rw[C6];by_cases hw:iK o (gdV ops λs=>a.tmps.getD s undef)=true
  .rw[if_pos hw]at hrun|-;refine .inl ?_;unfold Oper.wp;rw[Act.eval_evalV];unfold cI at hrun;cases hr:(execOp (bI λs=>a.tmps.getD s undef) o).run P w with
   |halt x w'=>grind
   |ok n w'=>
    rw[hr]at hrun;cases n<;>simp only[]at hrun<;>first|exact hrun.elim|skip
    .exact hput _ _ hrun
    .exact hput _ _ hrun
    .rename_i f args;refine hrun.mono ?_;rintro e w'' ⟨v,rfl,hK⟩;exact hput _ _ hK
  .rw[if_neg hw]at hrun|-;exact hput _ _ hrun
 .intro D a w ⟨i1,i2,i3,i4⟩ hall;obtain⟨p1,p2,p3⟩:=yz (λs=>a.tmps.getD s undef) dsts a0 hds;have e:gq a0 dsts (λs=>a.tmps.getD s undef)=a:=by
   obtain⟨t,df⟩:=a;have ht:(gq a0 dsts (λs=>t.getD s undef)).tmps=t:=by
    apply Array.ext
    .rw[p2];exact i2.symm
    .intro s h1 h2;have h3:=p3 s (by grind);rw[fx,vR h1,kj]at h3;rw[h3];by_cases hm:s∈dsts
     .rw[if_pos hm];simp[fx,h2]
     .rw[if_neg hm,<-i3 s hm];simp[fx,h2]
   have hdf:(gq a0 dsts (λs=>t.getD s undef)).defers=df:=p1.trans i1.symm;show gq a0 dsts (λs=>t.getD s undef)={tmps:=t,defers:=df};cases hp:gq a0 dsts (λs=>t.getD s undef)with
   |mk t' df'=>
    grind
  grind
def ao(g:Nat->Option Ob)(W:List (Nat×Option Ob)):Nat->Option Ob:=λs=>match W.lookup s with|some x=>x|none=>g s
def kE:Value->AV
 | .int k n=> .p (.int k n)
 | .bool b=> .p (.bool b)
 | .string s=> .p (.str s)
 | .slice none 0 0=> .nil
 |_=> .any
def Jy{ρ:Ren}{C:bF}(v:Value):aR ρ C (kE v) v:=by unfold kE;split<;>(unfold aR;try unfold aU)<;>first|rfl|trivial
def tQ{ρ:Ren}{C:bF}:∀(vs:List Value),ak ρ C (vs.map kE) vs
 |[] =>by rfl
 |v::vs=>by exact⟨v,vs,rfl,Jy v,tQ vs⟩
def bG:List AV->Option (List PV)
 |[] =>some []
 | .p x::l=>(bG l).map (x:: ·)
 |_::_=>none
def eK(l:List AV):AV:=match bG l with|some q=> .p (.agg q)|none=> .agg l
def qX{ρ:Ren}{C:bF}:∀{l:List AV} {q:List PV} {vs:List Value},bG l=some q->ak ρ C l vs->af C q vs
 |[],q,vs,h,hr=>by simp[bG]at h;subst h;exact hr
 |x::l,q,vs,h,hr=>by
  unfold bG at h;split at h
  .grind
  .rename_i y l' e;cases e;simp only[lQ]at h;obtain⟨r,h1,rfl⟩:=h;obtain⟨v,vs',rfl,h2,h3⟩:=hr;exact⟨v,vs',rfl,h2,qX h1 h3⟩
  .cases h
def zh{ρ:Ren}{C:bF}{l:List AV}{vs:List Value}(h:ak ρ C l vs)(h1:gP vs):aR ρ C (eK l) (.agg vs.toArray):=by
 unfold eK;split
 .rename_i q hq;exact⟨vs,rfl,qX hq h,h1⟩
 .unfold aR;grind
def af.toA{ρ:Ren}{C:bF}:∀{l:List PV} {vs:List Value},af C l vs->ak ρ C (l.map .p) vs
 |[],vs,h=>by exact h
 |x::l,vs,h=>by
  obtain⟨v,r,rfl,h2,h3⟩:=h;exact⟨v,r,rfl,by exact h2,af.toA h3⟩
def rr:Value->AV
 | .agg cs=>if cs.toList.all (·.oneCell')=true then eK (cs.toList.map kE)else .any
 | .tuple vs=>if vs.toList=[]then .undef else .any
 |v=>kE v
def Ti{ρ:Ren}{C:bF}(v:Value):aR ρ C (rr v) v:=by
 unfold rr;split
 .split
  .rename_i cs h;have:=zh (tQ (ρ:=ρ) (C:=C) cs.toList) (λu hu=>by grind);omega
  .trivial
 .split
  .unfold aR Go.undef;simp_all
  .trivial
 .exact Jy v
def jt(F:List AV):Operand->AV
 | .tmp t=>F.getD t .any
 | .const v=>rr v
 | .func f=> .p (.fn (.func f) [] [])
 | .global _=> .any
def aZ(P:Program)(t:TypeId):Nat:=((P.info? t).map (·.size)).getD 0
def iH(P:Program)(t:TypeId):Bool:=match P.underlying t with|some (.struct _)|some (.array _ _)=>true|_=>false
def tok(P:Program)(t:TypeId):Bool:=(P.info? t).isSome&&(P.underlying t).isSome
def pZ(P:Program)(t:TypeId):Option (List AV):=(P.info? t).bind λi=>i.zero.map λz=>z.cells.toList.map kE
def pY(P:Program)(t:TypeId):Bool:=((P.info? t).bind λi=>i.zero.map λz=>z.cells.toList.all (·.oneCell')&&z.cells.size==i.size).getD false
def dG(P:Program)(t:TypeId):Option TypeId:=match P.underlying t with|some (.slice e)=>some e|_=>none
def q7(P:Program)(t:TypeId):Option (Nat×TypeId):=match P.underlying t with|some (.array n e)=>some (n,e)|_=>none
def G6(P:Program)(t:TypeId):Option IntKind:=match P.underlying t with|some (.int k)=>some k|_=>none
def sh(P:Program)(t:TypeId)(f:Nat):Option (Nat×TypeId):=match P.underlying t with
 |some (.struct fs)=>(fs[f]?).bind λx=>if aZ P x.type=0 then none else some (x.offset,x.type)
 |_=>none
def yK:Nat->Nat->Nat
 |0,_=>0
 |f+1,s=>if s % 2=0 then yK f (s/2)+1 else 0
def cls(s:Nat):Nat:=yK s s
def sit(n i:Nat):Nat:=2^n*(2*i+1)
def Me(i:Nat):∀(n f:Nat),n<f->yK f (sit n i)=n
 |0,f+1,_=>by unfold yK sit;grind
 |n+1,f+1,h=>by
  have e:sit (n+1) i=2*sit n i:=by unfold sit;rw[Nat.pow_succ,Nat.mul_comm (2^n) 2,Nat.mul_assoc]
  unfold yK;rw[e,if_pos (by omega),Nat.mul_div_cancel_left _ (by decide),Me i n f (by omega)]
def gm(n i:Nat):cls (sit n i)=n:=Me i n _ (by unfold sit;have h1:n<2^n:=Nat.lt_two_pow_self;grind)
abbrev Res:=AV->List Nat->List (Nat×Option Ob)->Prop
def bR(P:Program)(o:Oper)(E:Operand->AV)(σ:Nat->Option Ob)(n:Nat)(r:AV)(R:List Nat)(W:List (Nat×Option Ob)):Prop:=
 ∀(C0:bF) (ρ:Ren) (g:Nat->Option Ob) (V:Nat->Value) (w:World) (B:Nat),StR C0 ρ g w B->B<=w.heap.size->(∀s∈R,g s=σ s)->(∀s,cls s=n->ρ s=none)->(∀s,cls s=n->g s=none)->
  (∀x∈o.op.operands.toList,aR ρ (bE C0 B w ρ g) (E x) (bI V x))->
  cI P o V w λv w'=>∃ρ':Ren,(∀s,cls s≠n->ρ' s=ρ s)/\(∀b o' x,bE C0 B w ρ g b o' x->bE C0 B w' ρ' (ao g W) b o' x)/\
   StR C0 ρ' (ao g W) w' B/\aR ρ' (bE C0 B w' ρ' (ao g W)) r v/\Below B w w'
def bR.pure{P:Program}{o:Oper}{E:Operand->AV}{σ:Nat->Option Ob}{n:Nat}{r:AV}{R:List Nat}
  (h:∀(C0:bF) (ρ:Ren) (g:Nat->Option Ob) (V:Nat->Value) (w:World) (B:Nat),StR C0 ρ g w B->(∀s∈R,g s=σ s)->(∀x∈o.op.operands.toList,aR ρ (bE C0 B w ρ g) (E x) (bI V x))->
    cI P o V w λv w'=>w'=w/\aR ρ (bE C0 B w ρ g) r v):bR P o E σ n r R [] :=by
 intro C0 ρ g V w B hs hB hR hn hg hE;have:=h C0 ρ g V w B hs hR hE;have hmono':∀(K K':Value->World->Prop),(∀v w,K v w->K' v w)->cI P o V w K->cI P o V w K':=by
  intro K K' hk h;unfold cI at h|-;split at h
  .grind
  .grind
  .exact h.mono (by grind)
  .exact h.elim
 refine hmono' _ _ ?_ this;rintro v w' ⟨rfl,hr⟩;exact⟨ρ,λ_ _=>rfl,λ_ _ _ h=>h,hs,hr,Below.refl _ _⟩
def Gt(P:Program)(t:TypeId)(cs:List PV)(off:Nat)(K:PV->Prop):Prop:=
 tok P t=true/\if iH P t=true then∃l,(cs.drop off).take (aZ P t)=l/\l.length=aZ P t/\K (.agg l)else∃x,cs[off]? =some x/\K x
def qu(P:Program)(t:TypeId)(cs:List AV)(off:Nat)(K:AV->Prop):Prop:=
 tok P t=true/\if iH P t=true then∃l,(cs.drop off).take (aZ P t)=l/\l.length=aZ P t/\K (eK l)else∃x,cs[off]? =some x/\K x
def IX{P:Program}(w:World)(b o:Nat)(t:TypeId)(ht:tok P t=true)(vs:List Value)(v:Value)
  (h:if iH P t=true then vs.length=aZ P t/\w.rangeAt b o vs/\v= .agg vs.toArray else w.cell? ⟨b,o,none⟩=some v):
  (CZ t (.pointer (some ⟨b,o,none⟩))).run P w= .ok v w:=by
 unfold tok at ht;simp only[bm,oj]at ht;obtain⟨⟨i,hi⟩,d,hd⟩:=ht;cases hg:iH P t with
 |true=>
  rw[hg,if_pos rfl]at h;obtain⟨h1,h2,rfl⟩:=h;refine run_loadAt_mid w b o t vs d h2 hd ?_ ?_
  .unfold iH at hg;grind
  .rw[h1];unfold aZ;rw[hi];rfl
 |false=>
  rw[hg]at h;simp only[qB,if_false]at h;have:(isAgg t).run P w= .ok false w:=by unfold isAgg;rw[cn,run_underlying hd w];unfold iH at hg;rw[hd]at hg;cases d<;>simp_all
  simp[CZ,Ca,loadVar,this,h,load,Sem.run]
def V3{P:Program}{o:Oper}{E:Operand->AV}{σ:Nat->Option Ob}{n:Nat}{t:TypeId}{x:Operand}(ho:o.op= .load t x){cs:List PV}{off:Nat}(hx:E x= .p (.pro cs off)){K:PV->Prop}
  (h:Gt P t cs off K):∃r,bR P o E σ n (.p r) [] []/\K r:=by
 obtain⟨ht,h⟩:=h;have key:∀(r:PV),(∀(C:bF) (w:World) (b oo:Nat),(∀b o v,C b o v->w.cell? ⟨b,o,none⟩=some v)->cK C cs b oo->∃v vs,(if iH P t=true then vs.length=aZ P t/\w.rangeAt b (oo+off) vs/\v= .agg vs.toArray else w.cell? ⟨b,oo+off,none⟩=some v)/\aU C r v)->
   bR P o E σ n (.p r) [] [] :=by
  intro r hr;refine bR.pure ?_;intro C0 ρ g V w B hs _ hE;have h1:=hE x (by rw[ho];simp[cU]);rw[hx]at h1;unfold aR aU at h1;obtain⟨b,oo,he,hc⟩:=h1;obtain⟨v,vs,h2,h3⟩:=hr _ w b oo (λb o v hh=>hh.1) hc;have:=IX (P:=P) w b (oo+off) t ht vs v h2;unfold cI execOp;simp only[ho,he,cn,this,cp,dZ];exact⟨trivial,by exact h3⟩
 split at h
 .rename_i hg;obtain⟨l,hl,hlen,hK⟩:=h;refine⟨_,key _ ?_,hK⟩;intro C w b oo hC hc;have hc2:=(hc.drop off).take (aZ P t);rw[hl]at hc2;have:∀m,∀l':List PV,l'.length=m->∀o',cK C l' b o'->∃vs:List Value,vs.length=m/\w.rangeAt b o' vs/\af C l' vs/\gP vs:=by
   intro m;induction m with
   |zero=>intro l' h0 o' _;refine⟨[],rfl,(λj v hj=>by simp at hj),?_⟩;rw[nJ.1 h0];exact⟨by rfl,λu hu=>by cases hu⟩
   |succ m ih=>
    intro l' h1 o' h2;cases l' with
    |nil=>simp at h1
    |cons y l'=>
     obtain⟨⟨v,h3,h6,h4⟩,h5⟩:=h2;obtain⟨vs,g1,g2,g3,g4⟩:=ih l' (by grind) (o'+1) h5;refine⟨v::vs,by simp[g1],?_,?_,λu hu=>by rcases bO.1 hu with rfl|hu;exact h6;exact g4 u hu⟩
     .intro j u hj;cases j with
      |zero=>grind
      |succ j=>have:=g2 j u (by grind);grind
     .unfold af;grind
  obtain⟨vs,g1,g2,g3,g4⟩:=this _ l rfl _ hc2;refine⟨_,vs,?_,by exact⟨vs,rfl,g3,g4⟩⟩;grind
 .obtain⟨y,hy,hK⟩:=h;refine⟨y,key _ ?_,hK⟩;intro C w b oo hC hc;obtain⟨v,h1,_,h2⟩:=cK.get cs b oo hc off y hy;refine⟨v,[],?_,h2⟩;grind
def KZ{P:Program}{t:TypeId}{ob:Ob}{off:Nat}{K:AV->Prop}(h:qu P t ob.cells off K):∃r,K r/\∀(ρ:Ren) (C:bF) (w:World) (b c:Nat) (arr:Array Value),ObRep ρ C w b c ob arr->
  ∃v,(CZ t (.pointer (some ⟨b,off,none⟩))).run P w= .ok v w/\aR ρ C r v:=by
 obtain⟨ht,h⟩:=h;have key:∀(r:AV),(∀(ρ:Ren) (C:bF) (w:World) (b c:Nat) (arr:Array Value),ObRep ρ C w b c ob arr->∃v vs,(if iH P t=true then vs.length=aZ P t/\w.rangeAt b off vs/\v= .agg vs.toArray else w.cell? ⟨b,off,none⟩=some v)/\aR ρ C r v)->
   ∀(ρ:Ren) (C:bF) (w:World) (b c:Nat) (arr:Array Value),ObRep ρ C w b c ob arr->∃v,(CZ t (.pointer (some ⟨b,off,none⟩))).run P w= .ok v w/\aR ρ C r v:=by
  intro r hr ρ C w b c arr h3;obtain⟨v,vs,h4,h5⟩:=hr _ _ w b c arr h3;exact⟨v,IX (P:=P) w b off t ht vs v h4,h5⟩
 split at h
 .rename_i hg;obtain⟨l,hl,hlen,hK⟩:=h;refine⟨_,hK,key _ ?_⟩;intro ρ C w b c arr hc;have:∀m,∀l':List AV,l'.length=m->∀o',(∀(i:Nat) x,l'[i]? =some x->∃v,arr[o'+i]? =some v/\v.oneCell'=true/\aR ρ C x v)->∃vs:List Value,vs.length=m/\w.rangeAt b o' vs/\ak ρ C l' vs/\gP vs:=by
   intro m;induction m with
   |zero=>intro l' h0 o' _;refine⟨[],rfl,(λj v hj=>by simp at hj),?_⟩;rw[nJ.1 h0];exact⟨by rfl,λu hu=>by cases hu⟩
   |succ m ih=>
    intro l' h1 o' h2;cases l' with
    |nil=>simp at h1
    |cons y l'=>
     obtain⟨v,h3,h6,h4⟩:=h2 0 y rfl;obtain⟨vs,g1,g2,g3,g4⟩:=ih l' (by grind) (o'+1) (λi x hi=>by have:=h2 (i+1) x (by grind);grind)
     refine⟨v::vs,by simp[g1],?_,?_,λu hu=>by rcases bO.1 hu with rfl|hu;exact h6;exact g4 u hu⟩
     .intro j u hj;cases j with
      |zero=>simp at hj;subst hj;rw[hc.cell];exact h3
      |succ j=>have:=g2 j u (by grind);grind
     .unfold ak;grind
  obtain⟨vs,g1,g2,g3,g4⟩:=this _ l rfl off (λi x hi=>hc.cells _ x (by grind))
  refine⟨_,vs,?_,zh g3 g4⟩;grind
 .rename_i hg;obtain⟨y,hy,hK⟩:=h;refine⟨y,hK,key _ ?_⟩;intro ρ C w b c arr hc;obtain⟨v,h1,_,h2⟩:=hc.cells off y hy;refine⟨v,[],?_,h2⟩;rw[if_neg hg,hc.cell];exact h1
def V4{P:Program}{o:Oper}{E:Operand->AV}{σ:Nat->Option Ob}{n:Nat}{t:TypeId}{x:Operand}(ho:o.op= .load t x){s off:Nat}(hx:E x= .ptr s off){ob:Ob}(hob:σ s=some ob){K:AV->Prop}
  (h:qu P t ob.cells off K):∃r,bR P o E σ n r [s] []/\K r:=by
 obtain⟨r,hK,hr⟩:=KZ h;refine⟨r,bR.pure ?_,hK⟩;intro C0 ρ g V w B hs hR hE;have h1:=hE x (by rw[ho];simp[cU]);rw[hx]at h1;obtain⟨b,c,he,hv⟩:=h1;obtain⟨_,arr,h3⟩:=hs.at ((hR s (by simp)).trans hob) he;obtain⟨v,h4,h5⟩:=hr _ _ w b c arr h3;unfold cI execOp;simp_all
section
section
variable {P:Program} {o:Oper} {E:Operand->AV} {σ:Nat->Option Ob} {n:Nat}
def bR.val{r:AV}(h:∀(ρ:Ren) (C:bF) (V:Nat->Value) (w:World),(∀x∈o.op.operands.toList,aR ρ C (E x) (bI V x))->
  ∃v,(execOp (bI V) o).run P w= .ok (.value v) w/\aR ρ C r v):bR P o E σ n r [] [] :=by
 refine bR.pure ?_;intro C0 ρ g V w B _ _ hE;obtain⟨v,h1,h2⟩:=h ρ _ V w hE;unfold cI;grind
def L7{x:Operand}(ho:o.op= .move x\/o.op= .assign x):bR P o E σ n (E x) [] [] :=by refine bR.val ?_;intro ρ C V w hE;have h1:=hE x (by rcases ho with ho|ho<;>rw[ho] <;>simp[cU]);refine⟨bI V x,?_,h1⟩;rcases ho with ho|ho<;>(unfold execOp;rw[ho];rfl)
def WI{x:Operand}(ho:o.op= .move x\/o.op= .assign x)(hx:E x= .nil):bR P o E σ n (.p (.sl 0 [])) [] [] :=by
 refine bR.val ?_;intro ρ C V w hE;have h1:=hE x (by rcases ho with ho|ho<;>rw[ho] <;>simp[cU]);rw[hx]at h1;refine⟨bI V x,?_,?_⟩
 .rcases ho with ho|ho<;>(unfold execOp;rw[ho];rfl)
 .rw[h1];unfold aR aU;grind
def uh(c a b:AV)(K:AV->Prop):Prop:=match c with
 | .p (.bool t)=>K (if t=true then a else b)
 |_=>False
def XW{c a b:Operand}(ho:o.op= .pick c a b){K:AV->Prop}(h:uh (E c) (E a) (E b) K):∃r,bR P o E σ n r [] []/\K r:=by
 unfold uh at h;have key:∀t:Bool,E c= .p (.bool t)->bR P o E σ n (if t=true then E a else E b) [] [] :=by
  intro t ht;refine bR.val ?_;intro ρ C V w hE;have h1:=hE c (by rw[ho];simp[cU]);have h2:=hE a (by rw[ho];simp[cU]);have h3:=hE b (by rw[ho];simp[cU]);rw[ht]at h1;unfold aR aU at h1;refine⟨if t then bI V a else bI V b,?_,?_⟩
  .unfold execOp;rw[ho];simp[h1,asBool]
  .grind
 grind
def CA(x:AV):Bool:=match x with
 | .ptr .. =>true
 | .p (.pro ..)=>true
 | .fn (.func _) .. =>true
 | .p (.fn (.func _) ..)=>true
 |_=>false
def ZE{x:Operand}(ho:o.op= .nilCheck x)(h:CA (E x)=true):bR P o E σ n (E x) [] [] :=by
 refine bR.val ?_;intro ρ C V w hE;have h1:=hE x (by rw[ho];simp[cU]);refine⟨bI V x,?_,h1⟩;unfold execOp;rw[ho];unfold CA at h;split at h
 .rename_i e;rw[e]at h1;obtain⟨b,c,_,h1⟩:=h1;simp[h1]
 .rename_i e;rw[e]at h1;obtain⟨b,c,h1,_⟩:=h1;simp[h1]
 .rename_i e;rw[e]at h1;obtain⟨b,c,h1,_⟩:=h1;simp[h1]
 .rename_i e;rw[e]at h1;obtain⟨b,c,h1,_⟩:=h1;simp[h1]
 .cases h
def kf(l:List Int):List PV:=l.map (.int .i64)
def xv(P:Program)(t:TypeId)(m:Nat):Prop:=∀(xs ys:List Int) (x y:Operand) (w:World),xs.length=m->ys.length=m->
 (do eqGuard .eql t x y (.agg (xs.map (cV .i64)).toArray) (.agg (ys.map (cV .i64)).toArray);binOp .eql t (.agg (xs.map (cV .i64)).toArray) (.agg (ys.map (cV .i64)).toArray):Sem Value).run P w= .ok (.bool (xs==ys)) w/\
 (do eqGuard .neq t x y (.agg (xs.map (cV .i64)).toArray) (.agg (ys.map (cV .i64)).toArray);binOp .neq t (.agg (xs.map (cV .i64)).toArray) (.agg (ys.map (cV .i64)).toArray):Sem Value).run P w= .ok (.bool (xs !=ys)) w
def GZ(P:Program)(t:TypeId):Bool:=match P.underlying t with|some .bool=>true|_=>false
def ny:List PV->Option (List Int)
 |[] =>some []
 | .int .i64 k::l=>(ny l).map (k:: ·)
 |_=>none
def DQ{C:bF}:∀{l:List PV} {xs:List Int} {vs:List Value},ny l=some xs->af C l vs->vs=xs.map (cV .i64)
 |[],xs,vs,h,hr=>by simp[ny]at h;subst h;subst hr;rfl
 |x::l,xs,vs,h,hr=>by
  unfold ny at h;split at h
  .grind
  .rename_i k l' e;cases e;simp only[lQ]at h;obtain⟨r,h1,rfl⟩:=h;obtain⟨v,vs',rfl,h2,h3⟩:=hr;rw[h2,DQ h1 h3];rfl
  .cases h
def IY{t:TypeId}(hu:P.underlying t=some .bool)(a b:Bool)(w:World):(Op.equal t (.bool a) (.bool b)).run P w= .ok (a==b) w:=by unfold Op.equal;rw[show Op.maxDepth=9999+1 from rfl];unfold ss;simp[run_underlying hu]
def ud(op:BinOp)(k:IntKind)(a b:Int)(K:AV->Prop):Prop:=match op with
 | .add=>K (.p (.int k (k.wrap (a+b))))
 | .sub=>K (.p (.int k (k.wrap (a-b))))
 | .mul=>K (.p (.int k (k.wrap (a*b))))
 | .quo=>b≠0/\K (.p (.int k (k.wrap (a.tdiv b))))
 | .rem=>b≠0/\K (.p (.int k (a.tmod b)))
 | .eql=>K (.p (.bool (a==b)))
 | .neq=>K (.p (.bool (a !=b)))
 | .lss=>K (.p (.bool (decide (a<b))))
 | .leq=>K (.p (.bool (decide (a<=b))))
 | .gtr=>K (.p (.bool (decide (b<a))))
 | .geq=>K (.p (.bool (decide (b<=a))))
 |_=>False
def vC(P:Program)(op:BinOp)(t:TypeId)(x y:AV)(K:AV->Prop):Prop:=match x,y with
 | .p (.int k a),.p (.int k' b)=>k'=k/\ud op k a b K
 | .p (.bool a),.p (.bool b)=>GZ P t=true/\(match op with| .eql=>K (.p (.bool (a==b)))| .neq=>K (.p (.bool (a !=b)))|_=>False)
 | .p (.agg l),.p (.agg m)=>∃xs ys,ny l=some xs/\ny m=some ys/\xs.length=ys.length/\xv P t xs.length/\(match op with| .eql=>K (.p (.bool (xs==ys)))| .neq=>K (.p (.bool (xs !=ys)))|_=>False)
 | .p (.sl _ cs),.nil=>(dG P t).isSome=true/\cs≠[]/\op= .eql/\K (.p (.bool false))
 |_,_=>False
def Zs{op:BinOp}{t t':TypeId}{x y:Operand}(ho:o.op= .binOp op t x y t'){K:AV->Prop}(h:vC P op t (E x) (E y) K):∃r,bR P o E σ n r [] []/\K r:=by
 have hx:x∈o.op.operands.toList:=by rw[ho];simp[cU]
 have hy:y∈o.op.operands.toList:=by rw[ho];simp[cU]
 unfold vC at h;split at h
 .rename_i k a k' b ea eb;obtain⟨rfl,h⟩:=h;have key:∀r:AV,(∀ρ C,∃v,(∀w:World,(do eqGuard op t x y (.int k' a) (.int k' b);binOp op t (.int k' a) (.int k' b):Sem Value).run P w= .ok v w)/\aR ρ C r v)->bR P o E σ n r [] [] :=by intro r hr;refine bR.val ?_;intro ρ C V w hE;have h1:=hE x hx;have h2:=hE y hy;rw[ea]at h1;rw[eb]at h2;unfold aR aU at h1 h2;obtain⟨v,h3,h4⟩:=hr ρ C;refine⟨v,?_,h4⟩;unfold execOp;rw[ho];simp only[h1,h2,cn (x:=(do eqGuard op t x y (.int k' a) (.int k' b);binOp op t (.int k' a) (.int k' b):Sem Value)),h3,cp,dZ]
  unfold ud at h;split at h
  .exact⟨_,key _ λρ C=>⟨.int k' _,λw=>by simp[eqGuard,binOp,H6];rfl,by rfl⟩,h⟩
  .exact⟨_,key _ λρ C=>⟨.int k' _,λw=>by simp[eqGuard,binOp,H6];rfl,by rfl⟩,h⟩
  .exact⟨_,key _ λρ C=>⟨.int k' _,λw=>by simp[eqGuard,binOp,H6];rfl,by rfl⟩,h⟩
  .exact⟨_,key _ λρ C=>⟨.int k' _,λw=>by simp[eqGuard,binOp,Op.intDiv,h.1];rfl,by rfl⟩,h.2⟩
  .exact⟨_,key _ λρ C=>⟨.int k' _,λw=>by simp[eqGuard,binOp,Op.intDiv,h.1];rfl,by rfl⟩,h.2⟩
  .exact⟨_,key _ λρ C=>⟨.bool _,λw=>by simp[eqGuard,binOp,yY];rfl,by rfl⟩,h⟩
  .exact⟨_,key _ λρ C=>⟨.bool _,λw=>by simp[eqGuard,binOp,yY];rfl,by rfl⟩,h⟩
  .exact⟨_,key _ λρ C=>⟨.bool _,λw=>by simp[eqGuard,binOp,yY];rfl,by rfl⟩,h⟩
  .exact⟨_,key _ λρ C=>⟨.bool _,λw=>by simp[eqGuard,binOp,yY];rfl,by rfl⟩,h⟩
  .exact⟨_,key _ λρ C=>⟨.bool _,λw=>by simp[eqGuard,binOp,yY];rfl,by rfl⟩,h⟩
  .exact⟨_,key _ λρ C=>⟨.bool _,λw=>by simp[eqGuard,binOp,yY];rfl,by rfl⟩,h⟩
  grind
 .rename_i a b ea eb;obtain⟨ht,h⟩:=h;unfold GZ at ht;have hu:P.underlying t=some .bool:=by
   split at ht
   .assumption
   .cases ht
  have key:∀r:AV,(∀ρ C,∃v,(∀w:World,(do eqGuard op t x y (.bool a) (.bool b);binOp op t (.bool a) (.bool b):Sem Value).run P w= .ok v w)/\aR ρ C r v)->bR P o E σ n r [] [] :=by intro r hr;refine bR.val ?_;intro ρ C V w hE;have h1:=hE x hx;have h2:=hE y hy;rw[ea]at h1;rw[eb]at h2;unfold aR aU at h1 h2;obtain⟨v,h3,h4⟩:=hr ρ C;refine⟨v,?_,h4⟩;unfold execOp;rw[ho];simp only[h1,h2,cn (x:=(do eqGuard op t x y (.bool a) (.bool b);binOp op t (.bool a) (.bool b):Sem Value)),h3,cp,dZ]
  split at h
  .exact⟨_,key _ λρ C=>⟨.bool _,λw=>by simp only[eqGuard,binOp,IY hu,cn,cp,dZ];rfl,by rfl⟩,h⟩
  .exact⟨_,key _ λρ C=>⟨.bool _,λw=>by simp only[eqGuard,binOp,IY hu,cn,cp,dZ];rfl,by rfl⟩,h⟩
  grind
 .rename_i l m ea eb;obtain⟨xs,ys,hxs,hys,hlen,hEq,h⟩:=h;have key:∀r:AV,(∀ρ C,∃v,(∀w:World,(do eqGuard op t x y (.agg (xs.map (cV .i64)).toArray) (.agg (ys.map (cV .i64)).toArray);binOp op t (.agg (xs.map (cV .i64)).toArray) (.agg (ys.map (cV .i64)).toArray):Sem Value).run P w= .ok v w)/\aR ρ C r v)->bR P o E σ n r [] [] :=by intro r hr;refine bR.val ?_;intro ρ C V w hE;have h1:=hE x hx;have h2:=hE y hy;rw[ea]at h1;rw[eb]at h2;unfold aR aU at h1 h2;obtain⟨vs1,h1,r1,_⟩:=h1;obtain⟨vs2,h2,r2,_⟩:=h2;rw[DQ hxs r1]at h1;rw[DQ hys r2]at h2;obtain⟨v,h3,h4⟩:=hr ρ C;refine⟨v,?_,h4⟩;unfold execOp;rw[ho];simp only[h1,h2,cn (x:=(do eqGuard op t x y (.agg (xs.map (cV .i64)).toArray) (.agg (ys.map (cV .i64)).toArray);binOp op t (.agg (xs.map (cV .i64)).toArray) (.agg (ys.map (cV .i64)).toArray):Sem Value)),h3,cp,dZ]
  split at h
  .exact⟨_,key _ λρ C=>⟨.bool _,λw=>(hEq xs ys x y w rfl hlen.symm).1,by rfl⟩,h⟩
  .exact⟨_,key _ λρ C=>⟨.bool _,λw=>(hEq xs ys x y w rfl hlen.symm).2,by rfl⟩,h⟩
  grind
 .rename_i m cs ea eb;obtain⟨ht,hcs,rfl,h⟩:=h;obtain⟨e,hu⟩:∃e,P.underlying t=some (.slice e):=by unfold dG at ht;grind
  refine⟨_,bR.val ?_,h⟩;intro ρ C V w hE;have h1:=hE x hx;have h2:=hE y hy;rw[ea]at h1;rw[eb]at h2;unfold aR at h1 h2;obtain⟨a,c,h1,_,h3,_⟩:=h1;obtain⟨ad,rfl⟩:∃ad,a=some ad:=by
   cases a with
   |none=>grind
   |some ad=>grind
  refine⟨.bool false,?_,by rfl⟩;unfold execOp;rw[ho];have h4:∀w:World,(ss (9999+1) t (.slice (some ad) m c) (.slice none 0 0)).run P w= .ok false w:=λw=>by generalize 9999=D;simp only[ss,cn,run_underlying hu,cp,dZ]
  have h5:∀w:World,(binOp .eql t (.slice (some ad) m c) (.slice none 0 0)).run P w= .ok (.bool false) w:=λw=>by have:=h4 w;simp only[binOp,Op.equal,Op.maxDepth,cn,this,cp];rfl
  simp only[h1,h2,eqGuard,cn,h5,cp,dZ];try rfl
 grind
def unA(op:UnOp)(x:AV)(K:AV->Prop):Prop:=match op,x with
 | .not,.p (.bool b)=>K (.p (.bool !b))
 | .neg,.p (.int k a)=>K (.p (.int k (k.wrap (0-a))))
 |_,_=>False
def Z0{op:UnOp}{t:TypeId}{x:Operand}(ho:o.op= .unOp op t x){K:AV->Prop}(h:unA op (E x) K):∃r,bR P o E σ n r [] []/\K r:=by
 have hx:x∈o.op.operands.toList:=by rw[ho];simp[cU]
 unfold unA at h;split at h
 .rename_i b e;refine⟨_,bR.val ?_,h⟩;intro ρ C V w hE;have h1:=hE x hx;rw[e]at h1;unfold aR aU at h1;exact⟨.bool !b,by unfold execOp;rw[ho];simp[h1,Op.unary],by rfl⟩
 .rename_i k a e;refine⟨_,bR.val ?_,h⟩;intro ρ C V w hE;have h1:=hE x hx;rw[e]at h1;unfold aR aU at h1;exact⟨_,by unfold execOp;rw[ho];simp only[h1,Op.unary,H6];rfl,by rfl⟩
 grind
def Bo(P:Program)(src dst:TypeId)(x:AV)(K:AV->Prop):Prop:=match x with
 | .p (.int _ a)=>(P.underlying src).isSome=true/\∃k,G6 P dst=some k/\K (.p (.int k (k.wrap a)))
 |_=>False
def YL{src dst:TypeId}{x:Operand}(ho:o.op= .convert src dst x){K:AV->Prop}(h:Bo P src dst (E x) K):∃r,bR P o E σ n r [] []/\K r:=by
 have hx:x∈o.op.operands.toList:=by rw[ho];simp[cU]
 unfold Bo at h;split at h
 .rename_i k0 a e;obtain⟨hs,k,hk,h⟩:=h;obtain⟨d,hs⟩:=oj.1 hs;have hd:P.underlying dst=some (.int k):=by
   unfold G6 at hk;split at hk
   .grind
   .cases hk
  refine⟨_,bR.val ?_,h⟩;intro ρ C V w hE;have h1:=hE x hx;rw[e]at h1;unfold aR aU at h1;refine⟨_,?_,by rfl⟩;unfold execOp;rw[ho];simp only[h1,convert,cn,run_underlying hs,run_underlying hd,cp,Conv.intToInt,dZ]
 grind
def Xj{f:Fn}{first caps:Array Operand}(ho:o.op= .makeFunc f first caps):bR P o E σ n (.fn f (first.toList.map E) (caps.toList.map E)) [] [] :=by
 refine bR.val ?_;intro ρ C V w hE;refine⟨.func f (first.map (bI V)) (caps.map (bI V)),?_,?_⟩
 .unfold execOp;rw[ho];rfl
 .have key:∀l:List Operand,(∀x∈l,aR ρ C (E x) (bI V x))->ak ρ C (l.map E) (l.map (bI V)):=by
   intro l;induction l with
   |nil=>intro _;rfl
   |cons x l ih=>
    unfold ak;grind
  refine⟨first.toList.map (bI V),caps.toList.map (bI V),?_,key _ λx hx=>hE x ?_,key _ λx hx=>hE x ?_⟩
  .congr 1<;>(apply ol.1;simp)
  .rw[ho];simp only[cU,Array.toList_append,bq];exact .inl hx
  .rw[ho];simp only[cU,Array.toList_append,bq];exact .inr hx
def GQ(P:Program)(t:TypeId)(f:Nat)(x:AV)(K:AV->Prop):Prop:=∃q,sh P t f=some q/\match x with
 | .ptr s off=>K (.ptr s (off+q.1))
 | .p (.pro cs off)=>K (.p (.pro cs (off+q.1)))
 |_=>False
def ML{t:TypeId}{f:Nat}{q:Nat×TypeId}(h:sh P t f=some q)(w:World)(b off:Nat):
  (Instr.fieldAt t (.pointer (some ⟨b,off,none⟩)) f).run P w= .ok (.pointer (some ⟨b,off+q.1,none⟩)) w:=by
 unfold sh at h;split at h
 .rename_i fs hu;simp only[qE]at h;obtain⟨x,hx,h⟩:=h;split at h
  .cases h
  .rename_i hz;cases h;cases hi:P.info? x.type with
   |none=>simp[aZ,hi]at hz
   |some i=>
    have hne:i.size≠0:=by simpa[aZ,hi]using hz
    simp[Instr.fieldAt,run_underlying hu,hx,Ca,fieldPlace,sizeOf,typeInfo,hi,hne,vT]
 .cases h
def WF{t:TypeId}{f:Nat}{x:Operand}(ho:o.op= .fieldAddr t x f){K:AV->Prop}(h:GQ P t f (E x) K):∃r,bR P o E σ n r [] []/\K r:=by
 have hx:x∈o.op.operands.toList:=by rw[ho];simp[cU]
 obtain⟨q,hq,h⟩:=h;split at h
 .rename_i s off e;refine⟨_,bR.val ?_,h⟩;intro ρ C V w hE;have h1:=hE x hx;rw[e]at h1;obtain⟨b,c,h1,h2⟩:=h1;refine⟨.pointer (some ⟨b,off+q.1,none⟩),?_,by unfold aR;grind⟩;unfold execOp;rw[ho];simp only[h2,cn,ML hq,cp,dZ]
 .rename_i cs off e;refine⟨_,bR.val ?_,h⟩;intro ρ C V w hE;have h1:=hE x hx;rw[e]at h1;obtain⟨b,oo,h1,h2⟩:=h1;refine⟨.pointer (some ⟨b,oo+off+q.1,none⟩),?_,by unfold aR aU;grind⟩;unfold execOp;rw[ho];simp only[h1,cn,ML hq,cp,dZ]
 grind
def sQ(P:Program)(t:TypeId)(l:List AV)(off:Nat)(K:AV->Prop):Prop:=
 tok P t=true/\if iH P t=true then∃m,(l.drop off).take (aZ P t)=m/\K (eK m)else∃x,l[off]? =some x/\K x
def GO(P:Program)(t:TypeId)(f:Nat)(x:AV)(K:AV->Prop):Prop:=∃q,sh P t f=some q/\match x with
 | .agg l=>sQ P q.2 l q.1 K
 | .p (.agg l)=>sQ P q.2 (l.map .p) q.1 K
 |_=>False
def ak.take{ρ:Ren}{C:bF}{l:List AV}{vs:List Value}(h:ak ρ C l vs)(k:Nat):ak ρ C (l.take k) (vs.take k):=
 ak.of _ _ (by simp[h.length]) λi x hi=>by
  rw[og]at hi|-;split at hi
  .rw[if_pos ‹_›];exact h.get _ _ i x hi
  .cases hi
def ak.drop{ρ:Ren}{C:bF}{l:List AV}{vs:List Value}(h:ak ρ C l vs)(k:Nat):ak ρ C (l.drop k) (vs.drop k):=
 ak.of _ _ (by simp[h.length]) λi x hi=>by rw[vL]at hi|-;exact h.get _ _ _ x hi
def XX{t:TypeId}{l:List AV}{off:Nat}{K:AV->Prop}(h:sQ P t l off K):∃r,K r/\∀(ρ:Ren) (C:bF) (vs:List Value) (w:World),ak ρ C l vs->gP vs->∃v,(part t vs.toArray off).run P w= .ok v w/\aR ρ C r v:=by
 obtain⟨ht,h⟩:=h;unfold tok at ht;simp only[bm,oj]at ht;obtain⟨⟨i,hi⟩,d,hd⟩:=ht;have hag:∀w:World,(isAgg t).run P w= .ok (iH P t) w:=by intro w;unfold isAgg iH;rw[cn,run_underlying hd w,hd];cases d<;>rfl
 split at h
 .rename_i hg;obtain⟨m,hm,hK⟩:=h;refine⟨_,hK,?_⟩;intro ρ C vs w hr h1s;have h2:=(hr.drop off).take (aZ P t);rw[hm]at h2;refine⟨_,?_,zh h2 λu hu=>h1s u (by grind)⟩;have hsz:aZ P t=i.size:=by simp[aZ,hi]
  simp only[part,cn,hag,hg,cp,if_true,sizeOf,typeInfo,run_program,hi,dZ];grind
 .rename_i hg;obtain⟨x,hx,hK⟩:=h;refine⟨x,hK,?_⟩;intro ρ C vs w hr _;obtain⟨v,h1,h2⟩:=hr.get _ _ off x hx;refine⟨v,?_,h2⟩;have hg':iH P t=false:=by simpa using hg
  simp[part,hag,hg',h1]
def WE{t:TypeId}{f:Nat}{x:Operand}(ho:o.op= .field t x f){K:AV->Prop}(h:GO P t f (E x) K):∃r,bR P o E σ n r [] []/\K r:=by
 have hx:x∈o.op.operands.toList:=by rw[ho];simp[cU]
 obtain⟨q,hq,h⟩:=h;have key:∀l,sQ P q.2 l q.1 K->(∀ρ C v,aR ρ C (E x) v->∃vs:List Value,v= .agg vs.toArray/\ak ρ C l vs/\gP vs)->∃r,bR P o E σ n r [] []/\K r:=by
  intro l hl hv;obtain⟨r,hK,hr⟩:=XX hl;refine⟨r,bR.val ?_,hK⟩;intro ρ C V w hE;obtain⟨vs,h1,h2,h2s⟩:=hv ρ C _ (hE x hx);obtain⟨v,h3,h4⟩:=hr ρ C vs w h2 h2s;refine⟨v,?_,h4⟩;unfold sh at hq;split at hq
  .rename_i fs hu;simp only[qE]at hq;obtain⟨y,hy,hq⟩:=hq;split at hq
   .cases hq
   .cases hq;unfold execOp;rw[ho];simp[h1,Instr.field,run_underlying hu,hy,asAgg,h3]
  .cases hq
 split at h
 .rename_i l e;refine key l h λρ C v hv=> ?_;rw[e]at hv;exact hv
 .rename_i l e;refine key _ h λρ C v hv=> ?_;rw[e]at hv;obtain⟨vs,h1,h2,h3⟩:=hv;exact⟨vs,h1,h2.toA,h3⟩
 grind
def BL(P:Program)(t:TypeId)(x i:AV)(K:AV->Prop):Prop:=match x,i with
 | .p (.sl n cs),.p (.int _ a)=>∃e,dG P t=some e/\(P.info? e).isSome=true/\0<=a/\a<n/\K (.p (.pro cs (a.toNat*aZ P e)))
 | .own s o n,.p (.int _ a)=>∃e,dG P t=some e/\(P.info? e).isSome=true/\0<=a/\a<n/\K (.ptr s (o+a.toNat*aZ P e))
 | .ptr s off,.p (.int _ a)=>∃q,q7 P t=some q/\(P.info? q.2).isSome=true/\0<=a/\a<q.1/\K (.ptr s (off+a.toNat*aZ P q.2))
 | .p (.pro cs off),.p (.int _ a)=>∃q,q7 P t=some q/\(P.info? q.2).isSome=true/\0<=a/\a<q.1/\K (.p (.pro cs (off+a.toNat*aZ P q.2)))
 |_,_=>False
def Kf{t e:TypeId}(ht:P.underlying t=some (.slice e))(he:(P.info? e).isSome=true){k:IntKind}{a:Int}{n c b off:Nat}(h0:0<=a)(h1:a<n)(w:World):
  (H7 t (.slice (some ⟨b,off,none⟩) n c) (.int k a)).run P w= .ok (.pointer (some ⟨b,off+a.toNat*aZ P e,none⟩)) w:=by
 obtain⟨i,hi⟩:=oj.1 he;simp[H7,asIntOf,run_underlying ht,h0,h1,sizeOf,typeInfo,hi,aZ,vT]
def Jm{t e:TypeId}{m:Nat}(ht:P.underlying t=some (.array m e))(he:(P.info? e).isSome=true){k:IntKind}{a:Int}{b off:Nat}(h0:0<=a)(h1:a<m)(w:World):
  (H7 t (.pointer (some ⟨b,off,none⟩)) (.int k a)).run P w= .ok (.pointer (some ⟨b,off+a.toNat*aZ P e,none⟩)) w:=by
 obtain⟨i,hi⟩:=oj.1 he;simp[H7,Ca,asIntOf,run_underlying ht,h0,h1,sizeOf,typeInfo,hi,aZ,vT]
def kq{t e:TypeId}(h:dG P t=some e):P.underlying t=some (.slice e):=by unfold dG at h;grind
def OT{t:TypeId}{q:Nat×TypeId}(h:q7 P t=some q):P.underlying t=some (.array q.1 q.2):=by unfold q7 at h;grind
def V9{t:TypeId}{x i:Operand}(ho:o.op= .indexAddr t x i){K:AV->Prop}(h:BL P t (E x) (E i) K):∃r,bR P o E σ n r [] []/\K r:=by
 have hx:x∈o.op.operands.toList:=by rw[ho];simp[cU]
 have hi:i∈o.op.operands.toList:=by rw[ho];simp[cU]
 unfold BL at h;split at h
 .rename_i m cs k a ex ei;obtain⟨e,he,he2,h0,h1,hK⟩:=h;refine⟨_,bR.val ?_,hK⟩;intro ρ C V w hE;have g1:=hE x hx;have g2:=hE i hi;rw[ex]at g1;rw[ei]at g2;unfold aR aU at g1 g2;obtain⟨ad,c,g1,g3,g4,g5⟩:=g1;cases ad with
  |none=>grind
  |some ad=>
   obtain⟨b,off,sp⟩:=ad;obtain⟨g5,g6⟩:=g5 _ rfl;have g5:sp=none:=g5 (by omega);subst g5;refine⟨.pointer (some ⟨b,off+a.toNat*aZ P e,none⟩),?_,by unfold aR aU;grind⟩;unfold execOp;rw[ho];simp only[g1,g2,cn,Kf (kq he) he2 h0 h1,cp,dZ]
 .rename_i s oo m k a ex ei;obtain⟨e,he,he2,h0,h1,hK⟩:=h;refine⟨_,bR.val ?_,hK⟩;intro ρ C V w hE;have g1:=hE x hx;have g2:=hE i hi;rw[ex]at g1;rw[ei]at g2;unfold aR at g1 g2;unfold aU at g2;obtain⟨q,c,g1,g3|⟨b,o',c',rfl,g4,g5,g6,g7⟩⟩:=g1
  .omega
  .have:=g6 (by omega);refine⟨.pointer (some ⟨b,o'+a.toNat*aZ P e,none⟩),?_,by unfold aR;grind⟩;unfold execOp;rw[ho];simp only[g4,g2,cn,Kf (kq he) he2 h0 h1,cp,dZ]
 .rename_i s off k a ex ei;obtain⟨q,he,he2,h0,h1,hK⟩:=h;refine⟨_,bR.val ?_,hK⟩;intro ρ C V w hE;have g1:=hE x hx;have g2:=hE i hi;rw[ex]at g1;rw[ei]at g2;unfold aR at g1 g2;unfold aU at g2;obtain⟨b,c,g1,g3⟩:=g1;refine⟨.pointer (some ⟨b,off+a.toNat*aZ P q.2,none⟩),?_,by unfold aR;grind⟩;unfold execOp;rw[ho];simp only[g3,g2,cn,Jm (OT he) he2 h0 h1,cp,dZ]
 .rename_i cs off k a ex ei;obtain⟨q,he,he2,h0,h1,hK⟩:=h;refine⟨_,bR.val ?_,hK⟩;intro ρ C V w hE;have g1:=hE x hx;have g2:=hE i hi;rw[ex]at g1;rw[ei]at g2;unfold aR aU at g1 g2;obtain⟨b,oo,g1,g3⟩:=g1;refine⟨.pointer (some ⟨b,oo+off+a.toNat*aZ P q.2,none⟩),?_,by unfold aR aU;grind⟩;unfold execOp;rw[ho];simp only[g1,g2,cn,Jm (OT he) he2 h0 h1,cp,dZ]
 grind
def x8(x:AV)(i:Nat)(K:AV->Prop):Prop:=match x with
 | .tup l=>∃y,l[i]? =some y/\K y
 | .p (.tup l)=>∃y,l[i]? =some y/\K (.p y)
 |_=>False
def YB{x:Operand}{i:Nat}(ho:o.op= .extract x i){K:AV->Prop}(h:x8 (E x) i K):∃r,bR P o E σ n r [] []/\K r:=by
 have hx:x∈o.op.operands.toList:=by rw[ho];simp[cU]
 unfold x8 at h;split at h
 .rename_i l e;obtain⟨y,hy,h⟩:=h;refine⟨_,bR.val ?_,h⟩;intro ρ C V w hE;have h1:=hE x hx;rw[e]at h1;obtain⟨vs,h1,h2⟩:=h1;obtain⟨v,h3,h4⟩:=h2.get _ _ i y hy;refine⟨v,?_,h4⟩;unfold execOp;rw[ho];simp[h1,Instr.extract,h3]
 .rename_i l e;obtain⟨y,hy,h⟩:=h;refine⟨_,bR.val ?_,h⟩;intro ρ C V w hE;have h1:=hE x hx;rw[e]at h1;obtain⟨vs,h1,h2⟩:=h1;obtain⟨v,h3,h4⟩:=h2.get _ _ i y hy;refine⟨v,?_,by exact h4⟩;unfold execOp;rw[ho];simp[h1,Instr.extract,h3]
 grind
end
end
section
def dc(l:List Oper)(j:Nat):Nat:=((l[j]?).bind (·.dst)).getD 1000000
def fk(anc:List (List Nat))(i:Nat):List Nat:=anc.getD i []
def lC(l:List Oper)(V:Nat->Value)(j:Nat):Value:=if dc l j=1000000 then undef else V (dc l j)
def O2(l:List Oper)(anc:List (List Nat))(i s:Nat):Bool:=(bP l.length).all λj=>dc l j !=s||(fk anc j).contains i||j==i
def okF(l:List Oper)(anc:List (List Nat)):Bool:=
 (bP l.length).all λi=>
  (((l[i]?).map λo=>(o.after.toList.all λe=> !gg .any e||(decide (e.on<i)&&(fk anc i).contains e.on))&&o.guard.isNone&&o.dst !=some 1000000).getD false)&&
  ((fk anc i).all λj=>decide (j<i)&&(((l[i]?).map λo=>o.after.toList.any λe=>gg .any e&&(e.on==j||(fk anc e.on).contains j)).getD false))&&
  ((bP l.length).all λj=>j==i||dc l j !=dc l i||dc l i==1000000)
def AY(S:Nat->Oper->Prop):List Oper->Nat->Prop
 |[],_=>True
 |o::r,k=>S k o/\AY S r (k+1)
def Iq{S:Nat->Oper->Prop}:∀(l:List Oper) (k:Nat),AY S l k->∀i o,l[i]? =some o->S (k+i) o
 |[],_,_,i,o,h=>by simp at h
 |o'::r,k,h,0,o,ho=>by simp at ho;subst ho;exact h.1
 |o'::r,k,h,i+1,o,ho=>by
  have:=Iq r (k+1) h.2 i o (by grind);grind
def gF(D:Nat->Bool)(i:Nat):Nat->Bool:=λj=>if j=i then true else D j
def PY(P:Program)(l:List Oper)(anc:List (List Nat))(a0:Act)(WR:(Nat->Bool)->World->Prop)(fact:Nat->Value->World->Prop)(i:Nat)(o:Oper):Prop:=
 ∀(D:Nat->Bool) (V:Nat->Value) (w:World),D i=false->(∀j,(fk anc i).contains j=true->D j=true/\fact j (lC l V j) w)->(∀j,(fk anc j).contains i=true->D j=false)->
  (∀s,O2 l anc i s=true->V s=a0.tmps.getD s undef)->WR D w->
  cI P o V w λv w'=>fact i (if dc l i=1000000 then undef else v) w'/\WR (gF D i) w'/\(w'=w\/Below w.heap.size w w'\/∀j,D j=true->fact j (lC l V j) w->fact j (lC l V j) w')
def opK{P:Program}{o:Oper}{V:Nat->Value}{w:World}{K:Value->World->Prop}(h:∀K':Value->World->Prop,(∀v w',K v w'->K' v w')->cI P o V w K'):cI P o V w K:=by grind
def Rd(w:World)(a:Option Addr)(cs:List Value):Prop:=∀i u,cs[i]? =some u->∃b off,a=some ⟨b,off,none⟩/\b<w.heap.size/\w.cell? ⟨b,off+i,none⟩=some u
def Rd.below{w w':World}{a:Option Addr}{cs:List Value}(h:Rd w a cs)(hb:Below w.heap.size w w'):Rd w' a cs:=by intro i u hi;obtain⟨b,off,ha,hlt,h1⟩:=h i u hi;exact⟨b,off,ha,Nat.lt_of_lt_of_le hlt hb.size,(hb.cell (p:=⟨b,_,none⟩) hlt).trans h1⟩
def jG(base:Nat)(a:Option Addr):Prop:=∀b,a=some b->base<=b.block
def jG.mono{m n:Nat}{a:Option Addr}(h:jG n a)(hm:m<=n):jG m a:=λb hb=>cR hm (h b hb)
def Rd.GI{w:World}{base:Nat}{e:TypeId}{size:Nat}{v:Value}{n:Nat}{cs:List Value}(h:w.ownsRow base e size v n cs):∃a c,v= .slice a n c/\Rd w a cs/\jG base a/\(a=none->c=0):=by
 rcases h.2 with⟨h1,h2⟩|⟨g,cap,cur,h1,h2,h3,h4,h5,h6,h7⟩
 .have:cs=[] :=nJ.1 (by rw[h.1,h2];simp);exact⟨none,0,by rw[h1,h2],by rw[this];intro i u hi;simp at hi,(λb hb=>by cases hb),λ_=>rfl⟩
 .refine⟨some ⟨g,0,none⟩,cap,h1,?_,(λb hb=>by grind),(by grind)⟩;intro i u hi;refine⟨g,0,rfl,Blk.lt h3,?_⟩;rw[jg,cell_of_row w g i cur e (0,0) h3];grind
def tI{w w':World}{base:Nat}{e:TypeId}{size:Nat}{v:Value}{n:Nat}{xs:List Value}(h:w.ownsRow base e size v n xs)(hb:Below w.heap.size w w'):w'.ownsRow base e size v n xs:=by
 refine⟨h.1,?_⟩;rcases h.2 with h1|⟨g,cap,cur,h1,h2,h3,h4⟩
 .exact .inl h1
 .exact .inr ⟨g,cap,cur,h1,h2,Blk.then_ h3 hb,h4⟩
def qF{w:World}{base:Nat}{e:TypeId}{size:Nat}{v:Value}{n:Nat}{xs:List Value}(h:w.ownsRow base e size v n xs):∀k,v.ownBlock=some k->base<=k/\k<w.heap.size:=by
 intro k hk;rcases h.2 with⟨rfl,_⟩|⟨g,cap,cur,rfl,h2,h3,_⟩
 .simp[Cb]at hk
 .simp[Cb]at hk;grind
def Dq{P:Program}{o:Oper}{V:Nat->Value}{w:World}{K:Value->World->Prop}(s x:Operand)(t:TypeId)
  (ho:o.op= .call {callee:= .builtin .append,args:= #[s,x],argTypes:= #[t,t]})
  (base:Nat) (e:TypeId) (z:Value) (size bytes:Nat) (ht:P.underlying t=some (.slice e)) (hi:(P.info? e).map (λi=>(i.zero,i.size,i.bytes))=some (some z,size,bytes)) (hzs:z.cells.size=size) (hsz:0<size)
  (v:Value) (n:Nat) (xs:List Value) (hs:bI V s=v) (hown:w.ownsRow base e size v n xs)
  (a:Option Addr) (m c:Nat) (cs:List Value) (hx:bI V x= .slice a m c) (hl:cs.length=m*size) (hg:Rd w a cs) (hn:a=none->c=0) (h1:∀u∈cs,u.oneCell'=true)
  (h63:n+m<=1000000) (hbytes:bytes<=1000000) (hbase:base<=w.heap.size)
  (h:∀v' w',w'.ownsRow base e size v' (n+m) (xs++cs)->Below base w w'->w.grownBy w' v.ownBlock->(∀k,v'.ownBlock=some k->v.ownBlock=some k\/w.heap.size<=k)->K v' w'):cI P o V w K:=by
 obtain⟨i,hi1,hi2⟩:=lQ.1 hi;simp only[Prod.mk.injEq]at hi2;obtain⟨i1,i2,i3⟩:=hi2;have hb:∀k,v.ownBlock=some k->base<=k:=λk hk=>(qF hown k hk).1;by_cases hm:m=0
 .subst hm;have hcs:cs=[] :=by grind
  subst hcs;by_cases ha:a=none
  .subst ha;have hc:=hn rfl;subst hc;have hr:=run_append_owned_none (P:=P) (w:=w) base t o.type e i size ht hi1 v n xs hown;unfold cI execOp;simp only[ho,resolve,invoke,builtin,cn,dZ,cp,H8,cT,j6,hs,hx,hr];exact h v w (by grind) (Below.refl _ _) ⟨rfl,rfl,rfl,bQ _,λ_ _ _=>rfl⟩ (by grind)
  .obtain⟨a',rfl⟩:=Option.ne_none_iff_exists'.1 ha;obtain⟨v',w',hr,h2,h3,_,h5⟩:=run_append_own_at (P:=P) (w:=w) base t o.type e i z size bytes ht hi1 i1 i2 i3 hzs hsz v n xs hown a' 0 c [] (by simp) (by simp) (by simp) (by simp only[maxLen];omega) (cR (vV h63 hbytes) (by decide)) hbase;unfold cI execOp;simp only[ho,resolve,invoke,builtin,cn,dZ,cp,H8,cT,j6,hs,hx,hr];exact h v' w' h2 ((Below.refl base w).grown h3 hbase hb) h3 (by grind)
 .obtain⟨u0,hu0⟩:∃u,cs[0]? =some u:=by
   have:0<cs.length:=by rw[hl];exact Nat.mul_pos (by omega) hsz
   grind
  obtain⟨b,off,rfl,hbl,_⟩:=hg 0 u0 hu0;have hnews:∀j u,cs[j]? =some u->w.cell? ((⟨b,off,none⟩:Addr).add j)=some u:=by
   intro j u hj;obtain⟨b',off',he,_,hc⟩:=hg j u hj;simp only[fZ,Addr.mk.injEq,and_true]at he;obtain⟨rfl,rfl⟩:=he;unfold Addr.add;by_cases hj0:j=0
   .grind
   .grind
  obtain⟨v',w',hr,h2,h3,_,h5⟩:=run_append_own_at (P:=P) (w:=w) base t o.type e i z size bytes ht hi1 i1 i2 i3 hzs hsz v n xs hown ⟨b,off,none⟩ m c cs hl hnews h1 (by simp only[maxLen];omega) (cR (vV h63 hbytes) (by decide)) hbase;unfold cI execOp;simp only[ho,resolve,invoke,builtin,cn,dZ,cp,H8,cT,j6,hs,hx,hr];exact h v' w' h2 ((Below.refl base w).grown h3 hbase hb) h3 (by grind)
def Rd.aAo{w:World}{g:Nat}{t:TypeId}{cs:Array Value}(h:Blk w g t cs):Rd w (some ⟨g,0,none⟩) cs.toList:=by intro i u hi;refine⟨g,0,rfl,h.lt,?_⟩;rw[jg,h.cell i];grind
def WR2(m:Nat)(A B:World->Prop)(D:Nat->Bool)(wx:World):Prop:=if D m=true then B wx else A wx
section
variable {m i:Nat} {A B:World->Prop} {D:Nat->Bool} {wx:World}
def WR2.start(h:A wx):WR2 m A B (λ_=>false) wx:=h
def WR2.lo(h:WR2 m A B D wx)(hD:D m=false):A wx:=by unfold WR2 at h;grind
def WR2.hi(h:WR2 m A B D wx)(hD:D m=true):B wx:=by unfold WR2 at h;grind
def WR2.mkLo(hD:D m=false)(hi:m≠i)(h:A wx):WR2 m A B (gF D i) wx:=by unfold WR2 gF;grind
def WR2.mkHi(h:B wx):WR2 m A B (gF D m) wx:=by unfold WR2 gF;grind
def WR2.keep(hi:m≠i)(h:WR2 m A B D wx):WR2 m A B (gF D i) wx:=by unfold WR2 gF at*;grind
end
def WR3(m n:Nat)(A B C:World->Prop)(D:Nat->Bool)(wx:World):Prop:=if D n=true then C wx else if D m=true then B wx else A wx
section
variable {m n i:Nat} {A B C:World->Prop} {D:Nat->Bool} {wx:World}
def WR3.start(h:A wx):WR3 m n A B C (λ_=>false) wx:=h
def WR3.lo(h:WR3 m n A B C D wx)(hD:D m=false)(hn:D n=false):A wx:=by unfold WR3 at h;grind
def WR3.mid(h:WR3 m n A B C D wx)(hD:D m=true)(hn:D n=false):B wx:=by unfold WR3 at h;grind
def WR3.hi(h:WR3 m n A B C D wx)(hn:D n=true):C wx:=by unfold WR3 at h;grind
def WR3.mkLo(hD:D m=false)(hn:D n=false)(hi:m≠i)(hi2:n≠i)(h:A wx):WR3 m n A B C (gF D i) wx:=by unfold WR3 gF;grind
def WR3.mkMid(hn:D n=false)(hmn:n≠m)(h:B wx):WR3 m n A B C (gF D m) wx:=by unfold WR3 gF;grind
def WR3.mkHi(h:C wx):WR3 m n A B C (gF D n) wx:=by unfold WR3 gF;grind
def WR3.keep(hi:m≠i)(hi2:n≠i)(h:WR3 m n A B C D wx):WR3 m n A B C (gF D i) wx:=by unfold WR3 gF at*;grind
end
def wL{w w':World}{row:Option Nat}{g:Nat}{t:TypeId}{cs:Array Value}(h:w.grownBy w' row)(hb:Blk w g t cs)(hne:row≠some g):Blk w' g t cs:=(h.block g hb.lt (by grind)).trans hb
def AC{w:World}{base:Nat}{e:TypeId}{size:Nat}{v:Value}{n:Nat}{xs:List Value}(h:w.ownsRow base e size v n xs){g:Nat}(hg:g<base):v.ownBlock≠some g:=λhx=>by have:=(qF h g hx).1;omega
end
section
section
variable {P:Program} {o:Oper} {E:Operand->AV} {σ:Nat->Option Ob} {n:Nat}
def CD:AV->Option Int
 | .p (.int _ a)=>some a
 |_=>none
def MG{ρ:Ren}{C:bF}{x:AV}{a:Int}{v:Value}(h:CD x=some a)(hr:aR ρ C x v):∃k,v= .int k a:=by
 unfold CD at h;split at h
 .unfold aR aU at hr;grind
 .cases h
def loA(E:Operand->AV)(lo:Option Operand)(d:Int):Option Int:=match lo with|none=>some d|some x=>CD (E x)
def uQ(P:Program)(t:TypeId)(x:AV)(lo hi:Option Int)(K:AV->Prop):Prop:=∃e l h,dG P t=some e/\(P.info? e).isSome=true/\aZ P e≠0/\lo=some l/\hi=some h/\0<=l/\l<=h/\match x with
 | .p (.sl m cs)=>h<=m/\K (.p (.sl (h.toNat-l.toNat) ((cs.take (h.toNat*aZ P e)).drop (l.toNat*aZ P e))))
 | .own s oo m=>h<=m/\K (.own s (oo+l.toNat*aZ P e) (h.toNat-l.toNat))
 |_=>False
def BH:AV->Int
 | .p (.sl m _)=>m
 | .own _ _ m=>m
 |_=>0
def Dh{t e:TypeId}(ht:P.underlying t=some (.slice e))(he:(P.info? e).isSome=true)(a:Option Addr)(m c:Nat)(hmc:m<=c)(lo hi:Option Value)(l h:Int)(h0:0<=l)(h1:l<=h)(h2:h<=m)
  (hlo:(lo=none/\l=0)\/∃k,lo=some (.int k l)) (hhi:(hi=none/\h=m)\/∃k,hi=some (.int k h)) (w:World):
  (Instr.sliceAt t (.slice a m c) lo hi none).run P w= .ok (.slice (if c=l.toNat then a else a.map (·.add (l.toNat*aZ P e))) (h.toNat-l.toNat) (c-l.toNat)) w:=by
 obtain⟨i,hi'⟩:=oj.1 he;have hsz:aZ P e=i.size:=by simp[aZ,hi']
 have hb:(Cd true m c lo hi none).run P w= .ok (l.toNat,h.toNat,c) w:=by
  rcases hlo with⟨rfl,rfl⟩|⟨k,rfl⟩<;>rcases hhi with⟨rfl,rfl⟩|⟨k',rfl⟩
  .simp[Cd]
  .simp[Cd,Instr.sliceBound,asIntOf,show 0<=h by omega,show h<=(c:Int) by omega]
  .simp[Cd,Instr.sliceBound,asIntOf,h0,h1]
  .simp[Cd,Instr.sliceBound,asIntOf,h0,show 0<=h by omega,show h<=(c:Int) by omega,show l<=max h 0 by omega]
 simp only[Instr.sliceAt,cn,run_underlying ht,cp,Instr.slice,hb,sizeOf,typeInfo,run_program,hi',dZ,hsz]
def VO{t:TypeId}{x:Operand}{lo hi:Option Operand}(ho:o.op= .slice t x lo hi none){K:AV->Prop}(h:uQ P t (E x) (loA E lo 0) (loA E hi (BH (E x))) K):∃r,bR P o E σ n r [] []/\K r:=by
 have hx:x∈o.op.operands.toList:=by rw[ho];simp[cU]
 have hl:∀y,lo=some y->y∈o.op.operands.toList:=by intro y hy;rw[ho];simp[cU,hy]
 have hh:∀y,hi=some y->y∈o.op.operands.toList:=by intro y hy;rw[ho];simp[cU,hy]
 obtain⟨e,l,hv,he,he2,hez,hlo,hhi,h0,h1,h⟩:=h;have klo:∀(ρ:Ren) (C:bF) (V:Nat->Value),(∀x∈o.op.operands.toList,aR ρ C (E x) (bI V x))->(lo.map (bI V)=none/\l=0)\/∃k,lo.map (bI V)=some (.int k l):=by
  intro ρ C V hE;unfold loA at hlo;cases lo with
  |none=>grind
  |some y=>obtain⟨k,hk⟩:=MG hlo (hE y (hl y rfl));grind
 have khi:∀(m:Nat),BH (E x)=m->∀(ρ:Ren) (C:bF) (V:Nat->Value),(∀x∈o.op.operands.toList,aR ρ C (E x) (bI V x))->(hi.map (bI V)=none/\hv=m)\/∃k,hi.map (bI V)=some (.int k hv):=by
  intro m hm ρ C V hE;unfold loA at hhi;cases hi with
  |none=>grind
  |some y=>obtain⟨k,hk⟩:=MG hhi (hE y (hh y rfl));grind
 split at h
 .rename_i m cs ex;obtain⟨h2,hK⟩:=h;refine⟨_,bR.val ?_,hK⟩;intro ρ C V w hE;have g1:=hE x hx;rw[ex]at g1;obtain⟨a,c,g1,g2,g3,g4⟩:=g1;have hrun:=Dh (kq he) he2 a m c g2 _ _ l hv h0 h1 h2 (klo ρ C V hE) (khi m (by rw[ex];rfl) ρ C V hE) w;refine⟨.slice (if c=l.toNat then a else a.map (·.add (l.toNat*aZ P e))) (hv.toNat-l.toNat) (c-l.toNat),?_,?_⟩
  .unfold execOp;simp_all
  .refine⟨_,_,rfl,by omega,?_,?_⟩
   .intro hn;have:a=none:=by
     split at hn
     .exact hn
     .simp_all
    grind
   .intro ad had;split at had
    .subst had;refine⟨by grind,?_⟩;have:((cs.take (hv.toNat*aZ P e)).drop (l.toNat*aZ P e))=[] :=by
      apply List.drop_eq_nil_of_le;rw[kP];have:hv.toNat=l.toNat:=by omega
      rw[this];omega
     rw[this];trivial
    .cases a with
     |none=>simp at had
     |some ad'=>
      simp at had;subst had;obtain⟨g5,g6⟩:=g4 ad' rfl;rcases rF m with hm0|hm0
      .have e0:hv.toNat=0:=by omega
       rw[e0];simp;trivial
      .have g5:=g5 hm0;obtain⟨b,off,sp⟩:=ad';subst g5;rw[vT];exact⟨λ_=>rfl,(g6.take _).drop _⟩
 .rename_i s oo m ex;obtain⟨h2,hK⟩:=h;refine⟨_,bR.val ?_,hK⟩;intro ρ C V w hE;have g1:=hE x hx;rw[ex]at g1;obtain⟨q,c,g1,⟨rfl,g2,g3,g4⟩|⟨b,o',c',rfl,g2,g3,g4,g5⟩⟩:=g1
  .have hrun:=Dh (kq he) he2 none m 0 (by omega) _ _ l hv h0 h1 h2 (klo ρ C V hE) (khi m (by rw[ex];rfl) ρ C V hE) w;have e1:l=0:=by omega
   have e2:hv=0:=by omega
   refine⟨.slice none 0 0,?_,?_⟩
   .unfold execOp;simp_all
   grind
  .have hrun:=Dh (kq he) he2 (some ⟨b,o',none⟩) m c' g3 _ _ l hv h0 h1 h2 (klo ρ C V hE) (khi m (by rw[ex];rfl) ρ C V hE) w;refine⟨.slice (if c'=l.toNat then some ⟨b,o',none⟩else(some (⟨b,o',none⟩:Addr)).map (·.add (l.toNat*aZ P e))) (hv.toNat-l.toNat) (c'-l.toNat),?_,?_⟩
   .unfold execOp;simp_all
   .refine⟨some b,c,g1,.inr ⟨b,if c'=l.toNat then o' else o'+l.toNat*aZ P e,c'-l.toNat,rfl,?_,by omega,?_,?_⟩⟩
    .split<;>simp[vT]
    .grind
    .intro hz;have h3:oo=0:=by omega
     have h4:l.toNat*aZ P e=0:=by omega
     rcases H9.1 h4 with h5|h5
     .grind
     omega
 grind
def CC(P:Program)(t:TypeId)(x:AV)(K:AV->Prop):Prop:=match x with
 | .p (.sl m _)=>(dG P t).isSome=true/\K (.p (.int .i64 m))
 | .own _ _ m=>(dG P t).isSome=true/\K (.p (.int .i64 m))
 | .nil=>(dG P t).isSome=true/\K (.p (.int .i64 0))
 | .p (.str s)=>(match P.underlying t with|some .string=>true|_=>false)=true/\K (.p (.int .i64 s.size))
 |_=>False
def ZP{x:Operand}{t:TypeId}(ho:o.op= .call {callee:= .builtin .len,args:= #[x],argTypes:= #[t]}){K:AV->Prop}(h:CC P t (E x) K):∃r,bR P o E σ n r [] []/\K r:=by
 have hx:x∈o.op.operands.toList:=by rw[ho];simp[cU,jI]
 have key:∀(m:Nat),(dG P t).isSome=true->(∀ρ C v,aR ρ C (E x) v->∃a c,v= .slice a m c)->bR P o E σ n (.p (.int .i64 m)) [] [] :=by intro m ht hv;obtain⟨e,he⟩:=oj.1 ht;have hu:=kq he;refine bR.val ?_;intro ρ C V w hE;obtain⟨a,c,h1⟩:=hv ρ C _ (hE x hx);refine⟨.int .i64 m,?_,by rfl⟩;unfold execOp;rw[ho];simp[resolve,invoke,builtin,Builtin.len_,h1,run_underlying hu,goInt]
 unfold CC at h;split at h
 .rename_i m cs e;refine⟨_,key m h.1 λρ C v hv=> ?_,h.2⟩;unfold aR aU at hv;grind
 .rename_i s oo m e;refine⟨_,key m h.1 λρ C v hv=> ?_,h.2⟩;unfold aR at hv;grind
 .rename_i e;refine⟨_,key 0 h.1 λρ C v hv=> ?_,h.2⟩;unfold aR at hv;grind
 .rename_i s e;obtain⟨ht,hK⟩:=h;refine⟨_,bR.val ?_,hK⟩;intro ρ C V w hE;have h1:=hE x hx;rw[e]at h1;unfold aR aU at h1;have hu:P.underlying t=some .string:=by
   split at ht
   .assumption
   .cases ht
  refine⟨.int .i64 s.size,?_,by rfl⟩;unfold execOp;rw[ho];simp[resolve,invoke,builtin,Builtin.len_,h1,run_underlying hu,goInt]
 grind
def k9:AV->Option (List AV)
 | .agg l=>some l
 | .p (.agg l)=>some (l.map .p)
 | .p (.tup _)=>none
 | .p .junk=>none
 | .p x=>some [.p x]
 | .mp s=>some [.mp s]
 | .nil=>some [.nil]
 | .ptr s off=>some [.ptr s off]
 | .own s o n=>some [.own s o n]
 | .fn f a b=>some [.fn f a b]
 |_=>none
def DY{ρ:Ren}{C:bF}{x:AV}{l:List AV}{v:Value}(h:k9 x=some l)(hr:aR ρ C x v):ak ρ C l v.cells.toList/\gP v.cells.toList:=by
 have key:∀(y:AV),l=[y]->aR ρ C y v->v.oneCell'=true->ak ρ C l v.cells.toList/\gP v.cells.toList:=by
  intro y hl hy h1;have hc:v.cells.toList=[v] :=by cases v<;>first|rfl|(simp[Value.oneCell']at h1;done)
  rw[hc,hl];refine⟨?_,λu hu=>by grind⟩;unfold ak;exact⟨v,[],rfl,hy,by rfl⟩
 unfold k9 at h;split at h
 .cases h;obtain⟨vs,rfl,h1,h2⟩:=hr;exact⟨by simpa[IA]using h1,by simpa[IA]using h2⟩
 .cases h;obtain⟨vs,rfl,h1,h2⟩:=hr;exact⟨by simpa[IA]using h1.toA,by simpa[IA]using h2⟩
 .cases h
 .cases h
 .rename_i y hn1 hn2 hn3;cases h;refine key _ rfl hr ?_;unfold aR at hr;cases y<;>unfold aU at hr
  .rw[hr];rfl
  .rw[hr];rfl
  .rw[hr];rfl
  .grind
  .grind
  .obtain⟨a,c,h1,_⟩:=hr;rw[h1];rfl
  .obtain⟨a,c,h1,_⟩:=hr;rw[h1];rfl
  .obtain⟨a,c,h1,_⟩:=hr;rw[h1];rfl
  grind
 .cases h;refine key _ rfl hr ?_;obtain⟨c,_,h2⟩:=hr;rw[h2];rfl
 .cases h;refine key _ rfl hr ?_;rw[hr];rfl
 .cases h;refine key _ rfl hr ?_;obtain⟨b,c,_,h2⟩:=hr;rw[h2];rfl
 .cases h;refine key _ rfl hr ?_;obtain⟨q,c,_,⟨_,h2,_⟩|⟨b,o',c',_,h2,_⟩⟩:=hr<;>(rw[h2];rfl)
 .cases h;refine key _ rfl hr ?_;obtain⟨a,b,h2,_⟩:=hr;rw[h2];rfl
 .cases h
def gJ(cs:List AV)(off:Nat):List AV->List AV
 |[] =>cs
 |x::l=>gJ (cs.set off x) (off+1) l
def y8:∀(l:List AV) (cs:List AV) (off:Nat),(gJ cs off l).length=cs.length
 |[],cs,off=>rfl
 |x::l,cs,off=>by unfold gJ;rw[y8 l];simp
def mz(place:Nat->Option (Nat×Nat))(cells:List AV):List (Nat×AV)->Option (List AV)
 |[] =>some cells
 |(i,v)::rest=>match place i,k9 v with
  |some (off,size),some l=>if l.length=size/\off+size<=cells.length then mz place (gJ cells off l) rest else none
  |_,_=>none
def ak.set{ρ:Ren}{C:bF}{l:List AV}{vs:List Value}(h:ak ρ C l vs)(k:Nat){x:AV}{v:Value}(hx:aR ρ C x v):ak ρ C (l.set k x) (vs.set k v):=
 ak.of _ _ (by simp[h.length]) λi y hi=>by
  have hl:=h.length;rw[yZ]at hi|-;split at hi
  .grind
  .rename_i e;rw[if_neg e];exact h.get _ _ i y hi
def LU{ρ:Ren}{C:bF}:∀(l:List AV) (vs:List Value) (cs:List AV) (us:List Value) (off:Nat) (j:Nat),ak ρ C l vs->ak ρ C cs us->gP vs->gP us->
  ak ρ C (gJ cs (off+j) l) ((vs.zipIdx j).foldl (λ(a:Array Value) (c,j)=>a.setIfInBounds (off+j) c) us.toArray).toList/\gP ((vs.zipIdx j).foldl (λ(a:Array Value) (c,j)=>a.setIfInBounds (off+j) c) us.toArray).toList
 |[],vs,cs,us,off,j,h1,h2,h3,h4=>by subst h1;simpa[gJ]using⟨h2,h4⟩
 |x::l,vs,cs,us,off,j,h1,h2,h3,h4=>by
  obtain⟨v,r,rfl,hv,hr⟩:=h1;have:=LU l r (cs.set (off+j) x) (us.set (off+j) v) off (j+1) hr (h2.set _ hv) (λu hu=>h3 u (by grind)) (λu hu=>by
   rcases List.mem_or_eq_of_mem_set hu with h|h
   .exact h4 u h
   .subst h;exact h3 _ (by grind))
  simpa[gJ,List.zipIdx_cons,Nat.add_assoc]using this
def EC{ρ:Ren}{C:bF}{place:Nat->Option (Nat×Nat)}:∀(parts:List (Nat×AV)) (vparts:List (Nat×Value)) (cs res:List AV) (us:List Value),
  mz place cs parts=some res->vparts.length=parts.length->(∀(j:Nat) q,parts[j]? =some q->∃v,vparts[j]? =some (q.1,v)/\aR ρ C q.2 v)->ak ρ C cs us->gP us->
  ∃vs:List Value,Instr.fill place us.toArray vparts=some vs.toArray/\ak ρ C res vs/\gP vs
 |[],vparts,cs,res,us,h,hl,hp,hc,h1=>by
  simp[mz]at h;subst h;have:vparts=[] :=by grind
  subst this;exact⟨us,rfl,hc,h1⟩
 |(i,x)::rest,vparts,cs,res,us,h,hl,hp,hc,h1=>by
  obtain⟨v,hv0,hv⟩:=hp 0 (i,x) rfl;cases vparts with
  |nil=>simp at hl
  |cons q vparts=>
   simp at hv0;subst hv0;unfold mz at h;split at h
   .rename_i off size l hpl hcl;split at h
    .obtain⟨c1,c2⟩:=DY hcl hv;have hlen:=c1.length;have hcs:=hc.length;obtain⟨s1,s2⟩:=LU l v.cells.toList cs us off 0 c1 hc c2 h1;obtain⟨vs,f1,f2,f3⟩:=EC rest vparts _ res _ h (by grind) (λj q hj=>hp (j+1) q (by grind)) s1 s2;refine⟨vs,?_,f2,f3⟩;unfold Instr.fill;rw[hpl];dsimp only;simp only[yb]at hlen;have e1:¬(v.cells.size≠size||decide (off+v.cells.size>us.toArray.size))=true:=by simp;omega
     rw[if_neg e1];rw[<-f1];have e2:∀(a:Array Value),a.zipIdx.foldl (λ(cs:Array Value) (x:Value×Nat)=>match x with|(c,j)=>cs.setIfInBounds (off+j) c) us.toArray=(a.toList.zipIdx 0).foldl (λ(cs:Array Value) (x:Value×Nat)=>match x with|(c,j)=>cs.setIfInBounds (off+j) c) us.toArray:=by intro a;rw[<-Array.foldl_toList,Array.toList_zipIdx]
     rw[e2]
    .cases h
   .cases h
def GH(P:Program)(t:TypeId):Nat->Option (Nat×Nat):=match P.underlying t with
 |some (.struct fs)=>λi=>(fs[i]?).map λf=>(f.offset,aZ P f.type)
 |some (.array _ e)=>λi=>some (i*aZ P e,aZ P e)
 |_=>λ_=>none
def FW(P:Program)(t:TypeId):Bool:=match P.underlying t with
 |some (.struct fs)=>fs.toList.all λf=>(P.info? f.type).isSome
 |some (.array _ e)=>(P.info? e).isSome
 |_=>false
def mmA(f:Int->Int->Int)(x y:AV)(K:AV->Prop):Prop:=match x,y with
 | .p (.int .i64 a),.p (.int .i64 b)=>K (.p (.int .i64 (f a b)))
 |_,_=>False
def Pj{P:Program}(ts:Array TypeId)(t:TypeId)(x y:Int)(w:World):(Builtin.min_ ts t #[.int .i64 x,.int .i64 y]).run P w= .ok (.int .i64 (min x y)) w/\(Builtin.max_ ts t #[.int .i64 x,.int .i64 y]).run P w= .ok (.int .i64 (max x y)) w:=by have h:= @run_min_int2 P w ts t .i64 .i64 x y;have h2:= @run_max_int2 P w ts t .i64 .i64 x y;grind
def ZK{x y:Operand}{ts:Array TypeId}(ho:o.op= .call {callee:= .builtin .min,args:= #[x,y],argTypes:=ts}){K:AV->Prop}(h:mmA min (E x) (E y) K):∃r,bR P o E σ n r [] []/\K r:=by
 unfold mmA at h;split at h
 .rename_i a b ea eb;refine⟨_,bR.val ?_,h⟩;intro ρ C V w hE;have h1:=hE x (by rw[ho];simp[cU,jI]);have h2:=hE y (by rw[ho];simp[cU,jI]);rw[ea]at h1;rw[eb]at h2;unfold aR aU at h1 h2;refine⟨.int .i64 (min a b),?_,by rfl⟩;unfold execOp;rw[ho];simp[resolve,invoke,builtin,h1,h2,(Pj _ _ _ _ _).1]
 grind
def ZM{x y:Operand}{ts:Array TypeId}(ho:o.op= .call {callee:= .builtin .max,args:= #[x,y],argTypes:=ts}){K:AV->Prop}(h:mmA max (E x) (E y) K):∃r,bR P o E σ n r [] []/\K r:=by
 unfold mmA at h;split at h
 .rename_i a b ea eb;refine⟨_,bR.val ?_,h⟩;intro ρ C V w hE;have h1:=hE x (by rw[ho];simp[cU,jI]);have h2:=hE y (by rw[ho];simp[cU,jI]);rw[ea]at h1;rw[eb]at h2;unfold aR aU at h1 h2;refine⟨.int .i64 (max a b),?_,by rfl⟩;unfold execOp;rw[ho];simp[resolve,invoke,builtin,h1,h2,(Pj _ _ _ _ _).2]
 grind
end
end
section
section
variable {P:Program} {o:Oper} {E:Operand->AV} {σ:Nat->Option Ob} {n:Nat}
def PE(P:Program)(t:TypeId)(parts:List (Nat×AV))(K:AV->Prop):Prop:=∃z,pZ P t=some z/\pY P t=true/\FW P t=true/\∃l,mz (GH P t) z parts=some l/\K (eK l)
def KW:∀(fs:List Field),fs.all (λf=>(P.info? f.type).isSome)=true->fs.mapM (λf=>(P.info? f.type).map λi=>(f.offset,i.size))=some (fs.map λf=>(f.offset,aZ P f.type))
 |[],_=>rfl
 |f::fs,h=>by
  simp only[List.all_cons,bm]at h;obtain⟨i,hi⟩:=oj.1 h.1;simp[List.mapM_cons,hi,KW fs h.2,aZ]
def wg{t:TypeId}{z:List AV}(h:pZ P t=some z)(h1:pY P t=true):∃i zv,P.info? t=some i/\i.zero=some zv/\zv.cells.size=i.size/\gP zv.cells.toList/\z=zv.cells.toList.map kE:=by unfold pZ at h;simp only[qE,lQ]at h;obtain⟨i,hi,zv,hz,rfl⟩:=h;unfold pY at h1;simp only[hi,qD,hz,eI,kj,bm,beq_iff_eq,bZ]at h1;exact⟨i,zv,hi,hz,h1.2,h1.1,rfl⟩
def Wh{t:TypeId}{parts:Array (Nat×Operand)}(ho:o.op= .build t parts){K:AV->Prop}(h:PE P t (parts.toList.map λq=>(q.1,E q.2)) K):∃r,bR P o E σ n r [] []/\K r:=by
 obtain⟨z,hz,hz1,hpo,l,hl,hK⟩:=h;refine⟨_,bR.val ?_,hK⟩;intro ρ C V w hE;obtain⟨i,zv,hi,hiz,hsz,hone,rfl⟩:=wg hz hz1;have hp:∀(j:Nat) q,(parts.toList.map λq=>(q.1,E q.2))[j]? =some q->∃v,(parts.toList.map λq=>(q.1,bI V q.2))[j]? =some (q.1,v)/\aR ρ C q.2 v:=by
  intro j q hj;rw[fy]at hj|-;cases hq:parts.toList[j]? with
  |none=>grind
  |some q'=>
   rw[hq]at hj;simp only[eI,fZ]at hj;subst hj;refine⟨bI V q'.2,rfl,hE q'.2 ?_⟩;simp only[cU];grind
 obtain⟨vs,f1,f2,f3⟩:=EC _ (parts.toList.map λq=>(q.1,bI V q.2)) _ l zv.cells.toList hl (by simp) hp (tQ _) hone;have hb:P.built t (parts.map λq=>(q.1,bI V q.2)).toList=some vs.toArray:=by
  unfold Program.built;rw[hi];unfold FW at hpo;unfold GH at f1;cases hu:P.underlying t with
  |none=>grind
  |some d=>
   rw[hu]at hpo f1;cases d<;>first|(cases hpo;done)|skip
   case struct fs=>
    dsimp only at hpo f1|-;rw[hiz,KW _ hpo];simp_all
   case array m e=>
    dsimp only at hpo f1|-;obtain⟨ie,hie⟩:=oj.1 hpo;rw[hiz,hie];rw[<-f1];simp[aZ,hie]
 refine⟨.agg vs.toArray,?_,zh f2 f3⟩;unfold execOp;rw[ho];simp only[cn,run_build w t _ _ hb,cp,dZ]
def xX.mono{C0:bF}{B:Nat}{ρ ρ':Ren}{C C':bF}{w w':World}{c:Nat}{o:Ob}(h:xX C0 B ρ C w c o)(hext:∀s q,ρ s=some q->ρ' s=some q)(hC:∀b o x,C b o x->C' b o x)
  (hm:∀es clock,o.ty=1->w.heap[c]? =some (vX es clock)->w'.heap[c]? =w.heap[c]?):xX C0 B ρ' C' w' c o:=by
 rcases h with⟨h0,h1,h2⟩|⟨h0,hB,es,clock,h1,h2⟩
 .exact .inl ⟨h0,λi x hi v hv=>aR.mono hext hC x v (h1 i x hi v hv),h2⟩
 .exact .inr ⟨h0,hB,es,clock,by grind,ak.mono hext hC _ _ h2⟩
def StR.stepG{C0:bF}{ρ ρ':Ren}{g:Nat->Option Ob}{w w':World}{B:Nat}{W:List (Nat×Option Ob)}(hs:StR C0 ρ g w B)
  (hρ:∀s o,W.lookup s=none->g s=some o->ρ' s=ρ s) (hext:∀s q,ρ s=some q->ρ' s=some q)
  (hmono:∀b o x,bE C0 B w ρ g b o x->bE C0 B w' ρ' (ao g W) b o x)
  (hold:∀s o b c,W.lookup s=none->g s=some o->ρ s=some (some b,c)->w'.heap[b]? =w.heap[b]?)
  (hmap:∀(s:Nat) (o:Ob) (c:Nat) es clock,W.lookup s=none->g s=some o->o.esz=0->o.ty=1->ρ s=some (none,c)->w.heap[c]? =some (vX es clock)->w'.heap[c]? =w.heap[c]?)
  (hnew:∀s o,W.lookup s=some (some o)->∃q c,ρ' s=some (q,c)/\((q=none/\o.esz≠0/\o.cells=[]/\c=0)\/(q=none/\o.esz=0/\xX C0 B ρ' (bE C0 B w' ρ' (ao g W)) w' c o/\
     (∀s' o' c',s'≠s->ao g W s'=some o'->o'.esz=0->ρ' s'=some (none,c')->¬rC o c o' c'))\/∃b arr,q=some b/\B<=b/\ObRep ρ' (bE C0 B w' ρ' (ao g W)) w' b c o arr/\
    ∀s' o' c',s'≠s->ao g W s'=some o'->ρ' s'≠some (some b,c'))):StR C0 ρ' (ao g W) w' B:=by
 refine⟨?_,?_,?_⟩
 .intro s ob hob;unfold ao at hob;split at hob
  .grind
  .rename_i hx;obtain⟨q,c,h1,⟨h2,h3|⟨h3,h4⟩⟩|⟨b,arr,h2,h3,h4⟩⟩:=hs.ob s ob hob
   .grind
   .refine⟨q,c,by grind,.inl ⟨h2,.inr ⟨h3,h4.mono hext hmono ?_⟩⟩⟩;grind
   .refine⟨q,c,by grind,.inr ⟨b,arr,h2,h3,?_,h4.box,h4.row,?_⟩⟩
    .subst h2;rw[hold s ob b c hx hob h1];exact h4.blk
    .intro i x hi;obtain⟨v,g1,g2,g3⟩:=h4.cells i x hi;exact⟨v,g1,g2,aR.mono hext hmono x v g3⟩
 .intro s s' ob ob' b c c' h1 h2 h3 h4;by_cases hss:s=s'
  .exact hss
  have k1:=h1;have k2:=h2;unfold ao at h1 h2;split at h1
  .grind
  .rename_i hx;split at h2
   .grind
   .rename_i hx2;exact hs.inj s s' ob ob' b c c' h1 h2 (by grind) (by grind)
 .intro s s' ob ob' c c' h1 h2 m1 m2 h3 h4 hT;by_cases hss:s=s'
  .exact hss
  have k1:=h1;have k2:=h2;unfold ao at h1 h2;split at h1
  .grind
  .rename_i hx;split at h2
   .rename_i x hx2;subst h2;obtain⟨q,c2,e1,⟨_,e2,_⟩|⟨e2,_,_,e5⟩|⟨b2,arr,e2,_,_,_⟩⟩:=hnew s' ob' hx2
    .omega
    .rw[h4]at e1;cases e1;exact absurd hT.symm (by grind)
    grind
   .rename_i hx2;exact hs.mpi s s' ob ob' c c' h1 h2 m1 m2 (by grind) (by grind) hT
def StR.step{C0:bF}{ρ ρ':Ren}{g:Nat->Option Ob}{w w':World}{B:Nat}{W:List (Nat×Option Ob)}(hs:StR C0 ρ g w B)
  (hρ:∀s o,W.lookup s=none->g s=some o->ρ' s=ρ s) (hext:∀s q,ρ s=some q->ρ' s=some q)
  (hmono:∀b o x,bE C0 B w ρ g b o x->bE C0 B w' ρ' (ao g W) b o x)
  (hold:∀s o b c,W.lookup s=none->g s=some o->ρ s=some (some b,c)->w'.heap[b]? =w.heap[b]?)
  (hnew:∀s o,W.lookup s=some (some o)->∃q c,ρ' s=some (q,c)/\((q=none/\o.esz≠0/\o.cells=[]/\c=0)\/∃b arr,q=some b/\B<=b/\ObRep ρ' (bE C0 B w' ρ' (ao g W)) w' b c o arr/\
    ∀s' o' c',s'≠s->ao g W s'=some o'->ρ' s'≠some (some b,c')))
  (hmap:∀(c:Nat) es clock,w.heap[c]? =some (vX es clock)->w'.heap[c]? =w.heap[c]?):StR C0 ρ' (ao g W) w' B:=
 hs.stepG hρ hext hmono hold (by grind) (by grind)
def qn{w:World}{c:Nat}{es:Array MapEntry}{clock:Nat}(h:w.heap[c]? =some (vX es clock)):c<w.heap.size:=by grind
def uT{w:World}{b c:Nat}{es:Array MapEntry}{clock:Nat}{arr:Array Value}{t:TypeId}{q:Nat×Nat}(h:w.heap[c]? =some (vX es clock))(hb:w.heap[b]? =some (.cells arr t q)):c≠b:=by grind
def bR.alloc{r:AV}{ob:Ob}(h:∀(ρ:Ren) (C:bF) (V:Nat->Value) (w:World),(∀x∈o.op.operands.toList,aR ρ C (E x) (bI V x))->
  ∃v arr c,(execOp (bI V) o).run P w= .ok (.value v) (w.alloc (.cells arr ob.ty))/\(ob.esz=0->arr.size=ob.cells.length)/\(ob.esz≠0->arr.size=c*ob.esz/\ob.cells.length<=arr.size/\c<=maxLen)/\
   ak ρ C ob.cells (arr.toList.take ob.cells.length)/\gP arr.toList/\∀(ρ':Ren) (C':bF),ρ' (sit n 0)=some (some w.heap.size,c)->aR ρ' C' r v):bR P o E σ n r [] [(sit n 0,some ob)] :=by
 intro C0 ρ g V w B hs hB _ hn hgn hE;have hcl:∀s,cls s≠n->s≠sit n 0:=λs h e=>h (by rw[e];exact gm n 0);generalize sit n 0=m at*;obtain⟨v,arr,c,hrun,h1,h2,h3,h4,h5⟩:=h ρ _ V w hE;unfold cI;rw[hrun];have hblk:(w.alloc (.cells arr ob.ty)).heap[w.heap.size]? =some (.cells arr ob.ty (0,0)):=heap_alloc_new w _
 let ρ':Ren:=λs=>if s=m then some (some w.heap.size,c)else ρ s
 have hext:∀s q,ρ s=some q->ρ' s=some q:=by intro s q hq;show(if s=m then _ else _)=_;rw[if_neg (by grind)];exact hq
 have hlt:∀s ob b c,g s=some ob->ρ s=some (some b,c)->b<w.heap.size:=by intro s ob b c e1 e2;obtain⟨_,arr,e3⟩:=hs.at e1 e2;exact e3.lt
 have hold:∀b,b<w.heap.size->(w.alloc (.cells arr ob.ty)).heap[b]? =w.heap[b]? :=λb hb=>Below.heap_alloc w _ b hb;have hlk:∀s,s≠m->[(m,some ob)].lookup s=none:=by intro s hs;simp[gh,beq_eq_false_iff_ne.2 hs]
 have hup:∀s,s≠m->ao g [(m,some ob)] s=g s:=by intro s hs;unfold ao;rw[hlk s hs]
 have hmono:∀b o' x,bE C0 B w ρ g b o' x->bE C0 B (w.alloc (.cells arr ob.ty)) ρ' (ao g [(m,some ob)]) b o' x:=by
  intro b o' x ⟨e1,e2,e0⟩;have hb:b<w.heap.size:=jh w ⟨b,o',none⟩ e1;refine⟨(i6 (hold b hb)).trans e1,?_,e0⟩;intro s c' e3;by_cases e:s=m
  .grind
  .grind
 refine⟨ρ',by grind,hmono,?_,by grind,(Below.refl B w).alloc hB _⟩;refine hs.step ?_ hext hmono ?_ ?_ (by grind)
 .grind
 .grind
 .intro s ob' e;have e1:s=m:=by
   rcases om s m with h|h
   .grind
   .exact h
  subst e1;have e2:ob'=ob:=by simp[gh]at e;exact e.symm
  subst e2;refine⟨some w.heap.size,c,by simp[ρ'],.inr ⟨w.heap.size,arr,rfl,hB,⟨hblk,h1,h2,?_⟩,?_⟩⟩
  .intro i x hi;obtain⟨u,g1,g2⟩:=h3.get _ _ i x hi;rw[og]at g1;split at g1
   .refine⟨u,by grind,h4 u (by grind),aR.mono hext hmono x u g2⟩
   .cases g1
  grind
def PL(P:Program)(n:Nat)(t:TypeId)(K:Res):Prop:=∃z,pZ P t=some z/\pY P t=true/\K (.ptr (sit n 0) 0) [] [(sit n 0,some ⟨t,0,z⟩)]
def Wo{t:TypeId}(ho:o.op= .alloc t){K:Res}(h:PL P n t K):∃r R W,bR P o E σ n r R W/\K r R W:=by
 obtain⟨z,hz,hz1,hK⟩:=h;refine⟨_,_,_,bR.alloc ?_,hK⟩;intro ρ C V w hE;obtain⟨i,zv,hi,hiz,hsz,hone,rfl⟩:=wg hz hz1;refine⟨.pointer (some ⟨w.heap.size,0,none⟩),zv.cells,0,?_,λ_=>by simp,by grind,?_,hone,λρ' C' h=> ?_⟩
 .unfold execOp;rw[ho];simp[Instr.alloc,zeroValue,typeInfo,hi,hiz,newVar,newRow]
 .rw[gu (by simp)];exact tQ _
 .unfold aR;grind
def Ry(n:Nat)(t:TypeId)(x:AV)(K:Res):Prop:=∃l,k9 x=some l/\K (.ptr (sit n 0) 0) [] [(sit n 0,some ⟨t,0,l⟩)]
def Zr{t:TypeId}{x:Operand}(ho:o.op= .box t x){K:Res}(h:Ry n t (E x) K):∃r R W,bR P o E σ n r R W/\K r R W:=by
 obtain⟨l,hl,hK⟩:=h;refine⟨_,_,_,bR.alloc ?_,hK⟩;intro ρ C V w hE;obtain⟨h1,h2⟩:=DY hl (hE x (by rw[ho];simp[cU]));have h3:=h1.length;refine⟨.pointer (some ⟨w.heap.size,0,none⟩),(bI V x).cells,0,?_,λ_=>by omega,by grind,?_,h2,λρ' C' h=> ?_⟩
 .unfold execOp;rw[ho];simp[Instr.box,newVar,newRow]
 .grind
 .unfold aR;grind
def mB:Nat->List AV->List AV
 |0,_=>[]
 |m+1,z=>z++mB m z
def OL(P:Program)(n:Nat)(t:TypeId)(len:Nat)(parts:List (Nat×AV))(K:Res):Prop:=∃e z,dG P t=some e/\pZ P e=some z/\pY P e=true/\z≠[]/\len*aZ P e<=1000000/\
 ∃l,mz (λi=>some (i*aZ P e,aZ P e)) (mB len z) parts=some l/\K (.own (sit n 0) 0 len) [] [(sit n 0,some ⟨e,aZ P e,l⟩)]
def C9(z:List AV):∀m,(mB m z).length=m*z.length
 |0=>by simp[mB]
 |m+1=>by simp[mB,C9 z m,yd];omega
def Lj(zv:Array Value)(_hz:0<zv.size)(m:Nat):((IB (m*zv.size)).map (λj=>zv[j % zv.size]!)).toList=(cO m zv.toList).flatten:=by
 apply List.ext_getElem?;induction m with
 |zero=>simp
 |succ m ih=>
  intro i;rw[vY,lN];by_cases hi:i<zv.size
  .rw[mI (by omega)];have h1:i<(m+1)*zv.size:=by rw[yd];omega
   simp[h1,dj hi,hi]
  .rw[kM (by simp;omega)];have e1:(i-zv.size) % zv.size=i % zv.size:=by
    conv=>rhs;rw[show i=(i-zv.size)+zv.size by omega,od]
   grind
def Dk{ρ:Ren}{C:bF}(zs:List Value):∀m,ak ρ C (mB m (zs.map kE)) (cO m zs).flatten
 |0=>by rfl
 |m+1=>by
  rw[vY,lN,mB];have ih:=Dk (ρ:=ρ) (C:=C) zs m;refine ak.of _ _ (by simp[ih.length]) λi x hi=> ?_;by_cases h:i<(zs.map kE).length
  .rw[mI h]at hi;rw[mI (by simpa using h)];exact(tQ zs).get _ _ i x hi
  .rw[kM (by omega)]at hi;have:=ih.get _ _ _ x hi;grind
def U7{t:TypeId}{len:Nat}{parts:Array (Nat×Operand)}(ho:o.op= .buildSlice t len parts){K:Res}(h:OL P n t len (parts.toList.map λq=>(q.1,E q.2)) K):∃r R W,bR P o E σ n r R W/\K r R W:=by
 obtain⟨e,z,he,hz,hz1,hne,hlen,l,hl,hK⟩:=h;refine⟨_,_,_,bR.alloc ?_,hK⟩;intro ρ C V w hE;obtain⟨i,zv,hi,hiz,hsz,hone,rfl⟩:=wg hz hz1;have hsize:aZ P e=zv.cells.size:=by simp[aZ,hi,hsz]
 have hpos:0<zv.cells.size:=by
  rcases rF zv.cells.size with h|h
  .grind
  .exact h
 have hp:∀(j:Nat) q,(parts.toList.map λq=>(q.1,E q.2))[j]? =some q->∃v,(parts.toList.map λq=>(q.1,bI V q.2))[j]? =some (q.1,v)/\aR ρ C q.2 v:=by
  intro j q hj;rw[fy]at hj|-;cases hq:parts.toList[j]? with
  |none=>grind
  |some q'=>
   rw[hq]at hj;simp only[eI,fZ]at hj;subst hj;refine⟨bI V q'.2,rfl,hE q'.2 ?_⟩;simp only[cU];grind
 have hones:gP (cO len zv.cells.toList).flatten:=by intro u hu;simp only[kh,SJ]at hu;obtain⟨l',⟨_,rfl⟩,hu⟩:=hu;exact hone u hu
 obtain⟨vs,f1,f2,f3⟩:=EC _ (parts.toList.map λq=>(q.1,bI V q.2)) _ l _ hl (by simp) hp (Dk _ len) hones;have hl2:=f2.length;have hl3:l.length=len*aZ P e:=by
  have:∀(parts:List (Nat×AV)) (cs res:List AV),mz (λi=>some (i*aZ P e,aZ P e)) cs parts=some res->res.length=cs.length:=by
   intro parts;induction parts with
   |nil=>intro cs res h;simp[mz]at h;rw[h]
   |cons q parts ih=>
    intro cs res h;unfold mz at h;split at h
    .split at h
     .rw[ih _ _ h,y8]
     .cases h
    .cases h
  rw[this _ _ _ hl,C9,cL,yb,hsize]
 refine⟨.slice (some ⟨w.heap.size,0,none⟩) len len,vs.toArray,len,?_,λh=>by omega,λ_=> ?_,?_,by omega,λρ' C' h=> ?_⟩
 .unfold execOp;rw[ho];have e1:¬(len*aZ P e>2^24):=by omega
  have e2:((parts.map λq=>(q.1,bI V q.2)).toList)=(parts.toList.map λq=>(q.1,bI V q.2)):=by simp
  have e3:∀w:World,(sizeOf e).run P w= .ok (aZ P e) w:=λw=>by simp[sizeOf,typeInfo,hi,aZ]
  have e4:∀w:World,(zeroValue e).run P w= .ok zv w:=λw=>by simp[zeroValue,typeInfo,hi,hiz]
  by_cases h0:len*aZ P e=0
  .have hl0:len=0:=by
    rcases H9.1 h0 with h|h
    .exact h
    .omega
   subst hl0;simp only[List.replicate_zero,List.flatten_nil]at f1;simp only[Instr.buildSlice,cn,run_underlying (kq he),cp,e3,Nat.zero_mul,if_neg (show¬(0:Nat)>2^24 by omega),if_true,dZ];have e6:(IB 0).map (λx=>(#[] :Array Value)[x % (#[] :Array Value).size]!)= #[] :=by simp
   rw[e6,e2];rw[f1];simp[newRow]
  .have e5:(IB (len*aZ P e)).map (λj=>zv.cells[j % zv.cells.size]!)=(cO len zv.cells.toList).flatten.toArray:=by rw[hsize];apply ol.1;rw[Lj zv.cells hpos len]
   simp only[Instr.buildSlice,cn,run_underlying (kq he),cp,e3,if_neg e1,if_neg h0,e4,dZ,e5,e2,f1];simp[newRow]
 .refine⟨?_,?_,?_⟩
  .simp;omega
  .simp;omega
  .have:len<=len*aZ P e:=SK _ (by omega);unfold maxLen;omega
 .grind
 .unfold aR;grind
end
end
section
section
variable {P:Program} {o:Oper} {E:Operand->AV} {σ:Nat->Option Ob} {n:Nat}
def LV:∀(l cs:List AV) (off:Nat),off+l.length<=cs.length->∀(i:Nat) x,(gJ cs off l)[i]? =some x->(off<=i/\l[i-off]? =some x)\/((i<off\/off+l.length<=i)/\cs[i]? =some x)
 |[],cs,off,_,i,x,h=>by
  simp only[gJ]at h;grind
 |y::l,cs,off,hl,i,x,h=>by
  simp only[gY]at hl;rcases LV l (cs.set off y) (off+1) (by simp;omega) i x h with⟨h1,h2⟩|⟨h1,h2⟩
  .grind
  grind
def uP(P:Program)(t:TypeId)(σ:Nat->Option Ob)(a v:AV)(K:Res):Prop:=match a with
 | .ptr s off=>∃ob l,σ s=some ob/\k9 v=some l/\l.length=aZ P t/\(P.info? t).isSome=true/\off+l.length<=ob.cells.length/\K .undef [s] [(s,some ⟨ob.ty,ob.esz,gJ ob.cells off l⟩)]
 |_=>False
def VI{t:TypeId}{a x:Operand}(ho:o.op= .store t a x){K:Res}(h:uP P t σ (E a) (E x) K):∃r R W,bR P o E σ n r R W/\K r R W:=by
 unfold uP at h;split at h
 case h_2=>exact h.elim
 rename_i s off ea;obtain⟨ob,l,hob,hl,hsz,ht,hoff,hK⟩:=h;refine⟨_,_,_,?_,hK⟩;intro C0 ρ g V w B hs hB hR hn hgn hE;have g1:=hE a (by rw[ho];simp[cU]);rw[ea]at g1;obtain⟨b,c,hρ,hv⟩:=g1;have hgs:g s=some ob:=by grind
 obtain⟨hBb,arr,hO⟩:=hs.at hgs hρ;obtain⟨r1,r2⟩:=DY hl (hE x (by rw[ho];simp[cU]));have hlen:=r1.length;have hle:ob.cells.length<=arr.size:=by
  by_cases hz:ob.esz=0
  .rw[hO.box hz];omega
  .exact(hO.row hz).2.1
 have hst:=run_storeCells_at P b off ob.ty (bI V x).cells.toList 0 arr w hO.blk (by omega) r2;obtain⟨i,hi⟩:=oj.1 ht;have hsi:(bI V x).cells.size=i.size:=by
  have:aZ P t=i.size:=by simp[aZ,hi]
  rw[<-yb,hlen,hsz,this]
 unfold cI execOp;simp only[ho,hv,Instr.storeAt,Ca,storeVar,sizeOf,typeInfo,cn,dZ,cp,run_program,hi,if_neg (show¬(bI V x).cells.size≠i.size from λh=>h hsi),hst];simp only[Nat.add_zero];generalize hvs:(bI V x).cells.toList=vs at*;have hblk:(w.setRow b (arr.toList.take off++vs++arr.toList.drop (off+vs.length)).toArray).heap[b]? =some (.cells (arr.toList.take off++vs++arr.toList.drop (off+vs.length)).toArray ob.ty (0,0)):=setRow_heap w b arr _ ob.ty _ hO.blk;have hold:∀k,k≠b->(w.setRow b (arr.toList.take off++vs++arr.toList.drop (off+vs.length)).toArray).heap[k]? =w.heap[k]? :=by intro k hk;unfold World.setRow;simp only[H5];rw[if_neg (by grind)]
 have hsize:(w.setRow b (arr.toList.take off++vs++arr.toList.drop (off+vs.length)).toArray).heap.size=w.heap.size:=by unfold World.setRow;simp
 have hlk:∀s',s'≠s->[(s,some (⟨ob.ty,ob.esz,gJ ob.cells off l⟩:Ob))].lookup s'=none:=by intro s' hs';simp[gh,beq_eq_false_iff_ne.2 hs']
 have hup:∀s',s'≠s->ao g [(s,some ⟨ob.ty,ob.esz,gJ ob.cells off l⟩)] s'=g s':=by intro s' hs';unfold ao;rw[hlk s' hs']
 have hmono:∀b' o' x,bE C0 B w ρ g b' o' x->bE C0 B (w.setRow b (arr.toList.take off++vs++arr.toList.drop (off+vs.length)).toArray) ρ (ao g [(s,some ⟨ob.ty,ob.esz,gJ ob.cells off l⟩)]) b' o' x:=by
  intro b' o' x ⟨e1,e2,e0⟩;have hne:b'≠b:=λe=>by grind
  refine⟨(i6 (hold b' hne)).trans e1,?_,e0⟩;intro s' c' e3;by_cases e:s'=s
  .grind
  .grind
 refine⟨ρ,λ_ _=>rfl,hmono,?_,by rfl,⟨rfl,rfl,rfl,by omega,by grind⟩⟩;refine hs.step (by grind) (λ_ _ h=>h) hmono ?_ ?_ λk es clock hk=>hold k (uT hk hO.blk)
 .intro s' o' b' c' e1 e2 e3;refine hold b' λe=> ?_;subst e;have:=hs.inj s s' ob o' b' c c' hgs e2 hρ e3;grind
 .intro s' o' e;have e1:s'=s:=by
   rcases om s' s with h|h
   .grind
   .exact h
  subst e1;have e2:o'=⟨ob.ty,ob.esz,gJ ob.cells off l⟩:=by simp[gh]at e;exact e.symm
  subst e2;have hasz:(arr.toList.take off++vs++arr.toList.drop (off+vs.length)).toArray.size=arr.size:=by simp[kP];omega
  refine⟨some b,c,hρ,.inr ⟨b,_,rfl,hBb,⟨hblk,?_,?_,?_⟩,?_⟩⟩
  .intro hz;rw[hasz,hO.box hz];exact(y8 _ _ _).symm
  .intro hz;obtain⟨k1,k2,k3⟩:=hO.row hz;rw[hasz];exact⟨k1,by rw[y8];exact k2,k3⟩
  .intro j y hj;rcases LV l ob.cells off hoff j y hj with⟨h1,h2⟩|⟨h1,h2⟩
   .obtain⟨u,k1,k2⟩:=r1.get _ _ _ y h2;refine⟨u,?_,r2 u (by grind),aR.mono (λ_ _ h=>h) hmono y u k2⟩;grind
   .obtain⟨u,k1,k3,k2⟩:=hO.cells j y h2;refine⟨u,?_,k3,aR.mono (λ_ _ h=>h) hmono y u k2⟩;grind
  .intro s2 o' c' hne e3 e4;rw[hup s2 hne]at e3;exact hne (hs.inj s' s2 ob o' b c c' hgs e3 hρ e4).symm
def Bu(P:Program)(e:TypeId):Bool:=((P.info? e).bind λi=>i.zero.map λz=>z.cells.size==i.size&&decide (0<i.size)&&decide (i.bytes<=1000000)).getD false
def Gw(σ:Nat->Option Ob)(e:TypeId)(esz:Nat)(x:AV)(K:Nat->List AV->List Nat->Prop):Prop:=match x with
 | .nil=>K 0 [] []
 | .own s 0 k=>∃ob,σ s=some ob/\ob.ty=e/\ob.esz=esz/\ob.cells.length=k*esz/\K k ob.cells [s]
 |_=>False
def BY(σ:Nat->Option Ob)(esz:Nat)(y:AV)(K:Nat->List AV->List Nat->Prop):Prop:=match y with
 | .nil=>K 0 [] []
 | .p (.sl m cs)=>cs.length=m*esz/\K m (cs.map .p) []
 | .own s o m=>∃ob l,σ s=some ob/\(ob.cells.drop o).take (m*esz)=l/\l.length=m*esz/\K m l [s]
 |_=>False
def yM(P:Program)(n:Nat)(t:TypeId)(σ:Nat->Option Ob)(x y:AV)(K:Res):Prop:=∃e,dG P t=some e/\Bu P e=true/\
 Gw σ e (aZ P e) x λk cs R1=>BY σ (aZ P e) y λm cs' R2=>k+m<=1000000/\
  K (.own (sit n 0) 0 (k+m)) (R1++R2) (R1.map (·,none)++[(sit n 0,some ⟨e,aZ P e,cs++cs'⟩)])
def cK.vals{C:bF}:∀(l:List PV) (b off:Nat),cK C l b off->∃vs:List Value,vs.length=l.length/\(∀(i:Nat) v,vs[i]? =some v->C b (off+i) v)/\af C l vs/\gP vs
 |[],b,off,_=>⟨[],rfl,(by grind),by rfl,λu hu=>by cases hu⟩
 |x::l,b,off,h=>by
  obtain⟨⟨v,h1,h2,h3⟩,h4⟩:=h;obtain⟨vs,g1,g2,g3,g4⟩:=cK.vals l b (off+1) h4;refine⟨v::vs,by simp[g1],?_,?_,λu hu=>by rcases bO.1 hu with rfl|hu;exact h2;exact g4 u hu⟩
  .grind
  .unfold af;grind
def ObRep.vals{ρ:Ren}{C:bF}{w:World}{b c:Nat}{ob:Ob}{arr:Array Value}(h:ObRep ρ C w b c ob arr):ak ρ C ob.cells (arr.toList.take ob.cells.length)/\gP (arr.toList.take ob.cells.length):=by
 have hle:ob.cells.length<=arr.size:=by
  by_cases hz:ob.esz=0
  .rw[h.box hz];omega
  .exact(h.row hz).2.1
 refine⟨ak.of _ _ (by simp;omega) λi x hi=> ?_,?_⟩
 .obtain⟨v,h1,_,h3⟩:=h.cells i x hi;grind
 .intro u hu;obtain⟨i,hi,he⟩:=List.getElem_of_mem hu;simp only[kP,yb]at hi;obtain⟨v,h1,h2,_⟩:=h.cells i ob.cells[i] (by grind);grind
def X3{C0:bF}{ρ:Ren}{g:Nat->Option Ob}{w:World}{B:Nat}(hs:StR C0 ρ g w B){e:TypeId}{esz:Nat}{x:AV}{v:Value}(hz:esz≠0)(hx:aR ρ (bE C0 B w ρ g) x v){k:Nat}{cs:List AV}{R:List Nat}
  (hd:(x= .nil/\k=0/\cs=[]/\R=[])\/∃s ob,x= .own s 0 k/\R=[s]/\g s=some ob/\ob.ty=e/\ob.esz=esz/\ob.cells.length=k*esz/\cs=ob.cells):
  ∃xs,w.ownsRow B e esz v k xs/\ak ρ (bE C0 B w ρ g) cs xs/\gP xs/\((v.ownBlock=none/\∀s∈R,∀b c,ρ s≠some (some b,c))\/∃s b c ob,R=[s]/\g s=some ob/\ρ s=some (some b,c)/\v.ownBlock=some b):=by
 rcases hd with⟨rfl,rfl,rfl,rfl⟩|⟨s,ob,rfl,rfl,h1,h2,h3,h4,rfl⟩
 .subst hx;exact⟨[],IC _ _ _ _,by rfl,(λu hu=>by cases hu),.inl ⟨rfl,by grind⟩⟩
 .obtain⟨q,c,hq,⟨rfl,hv,rfl,_⟩|⟨b,o',c',rfl,hv,h5,h6,h7⟩⟩:=hx
  .subst hv;have hc:ob.cells=[] :=by grind
   rw[hc];exact⟨[],IC _ _ _ _,by rfl,(λu hu=>by cases hu),.inl ⟨rfl,by grind⟩⟩
  .obtain⟨rfl,rfl⟩:=h7 rfl;obtain⟨hB,arr,hO⟩:=hs.at h1 hq;obtain⟨r1,r2⟩:=hO.vals;obtain⟨k1,k2,k3⟩:=hO.row (by omega);refine⟨_,⟨?_,.inr ⟨b,c',arr,hv,hB,?_,h5,k3,?_,?_⟩⟩,r1,r2,.inr ⟨s,b,c',ob,rfl,h1,hq,by rw[hv];rfl⟩⟩
   .grind
   .have:=hO.blk;grind
   .rw[k1,h3]
   .rw[h4]
def Wz{C0:bF}{ρ:Ren}{g:Nat->Option Ob}{w:World}{B:Nat}(hs:StR C0 ρ g w B){esz:Nat}{y:AV}{v:Value}(hy:aR ρ (bE C0 B w ρ g) y v){m:Nat}{cs:List AV}
  (hd:(y= .nil/\m=0/\cs=[])\/(∃l,y= .p (.sl m l)/\l.length=m*esz/\cs=l.map .p)\/∃s o ob,y= .own s o m/\g s=some ob/\(ob.cells.drop o).take (m*esz)=cs/\cs.length=m*esz):
  ∃a c us,v= .slice a m c/\us.length=m*esz/\Rd w a us/\(a=none->c=0)/\ak ρ (bE C0 B w ρ g) cs us/\gP us:=by
 rcases hd with⟨rfl,rfl,rfl⟩|⟨l,rfl,hl,rfl⟩|⟨s,oo,ob,rfl,h1,h2,h3⟩
 .exact⟨none,0,[],hy,by simp,(λi u hi=>by simp at hi),λ_=>rfl,by rfl,λu hu=>by cases hu⟩
 .obtain⟨a,c,hv,h1,h2,h3⟩:=hy;cases a with
  |none=>
   obtain⟨rfl,rfl⟩:=h2 rfl;exact⟨none,0,[],hv,hl,(λi u hi=>by simp at hi),λ_=>rfl,by rfl,λu hu=>by cases hu⟩
  |some ad=>
   obtain⟨b,off,sp⟩:=ad;obtain⟨h4,h5⟩:=h3 _ rfl;rcases rF m with hm0|hm0
   .subst hm0;have hl0:_=[] :=nJ.1 (by simpa using hl);subst hl0;exact⟨_,c,[],hv,by simp,(λi u hi=>by simp at hi),(by grind),by rfl,λu hu=>by cases hu⟩
   have h4:=h4 hm0;subst h4;obtain⟨vs,k1,k2,k3,k4⟩:=h5.vals;refine⟨_,c,vs,hv,by omega,?_,(by grind),k3.toA,k4⟩;intro i u hi;have:=k2 i u hi;exact⟨b,off,rfl,jh w ⟨b,_,none⟩ this.1,this.1⟩
 .obtain⟨q,c,hq,⟨rfl,hv,rfl,rfl⟩|⟨b,o',c',rfl,hv,h5,h6,h7⟩⟩:=hy
  .have:cs=[] :=by grind
   subst this;exact⟨none,0,[],hv,by simp,(λi u hi=>by simp at hi),λ_=>rfl,by rfl,λu hu=>by cases hu⟩
  .obtain⟨hB,arr,hO⟩:=hs.at h1 hq;obtain⟨r1,r2⟩:=hO.vals;refine⟨_,c',((arr.toList.take ob.cells.length).drop oo).take (m*esz),hv,?_,?_,(by grind),by rw[<-h2];exact(r1.drop _).take _,λu hu=>r2 u (by grind)⟩
   .have:=r1.length;grind
   .intro i u hi;rw[og]at hi;split at hi
    .rename_i hlt;have hm:m≠0:=by intro h;subst h;simp at hlt
     have e:=h6 hm;rw[vL,og]at hi;split at hi
     .refine⟨b,o',rfl,hO.lt,?_⟩;rw[hO.cell];grind
     .cases hi
    .cases hi
def TR{t t' ty e e':TypeId}(ht:P.underlying t=some (.slice e))(ht':P.underlying t'=some (.slice e'))(s x:Value)(w:World):
  (Builtin.append_ #[t,t'] ty #[s,x]).run P w=(Builtin.append_ #[t,t] ty #[s,x]).run P w:=by
 cases s<;>simp[Builtin.append_,run_underlying ht,run_underlying ht']
def Zv{x y:Operand}{t t':TypeId}(ht':(dG P t').isSome=true)(ho:o.op= .call {callee:= .builtin .append,args:= #[x,y],argTypes:= #[t,t']}){K:Res}(h:yM P n t σ (E x) (E y) K):∃r R W,bR P o E σ n r R W/\K r R W:=by
 obtain⟨e,he,hta,h⟩:=h;unfold Bu at hta;have hx:x∈o.op.operands.toList:=by rw[ho];simp[cU,jI]
 have hy:y∈o.op.operands.toList:=by rw[ho];simp[cU,jI]
 cases hi:P.info? e with
 |none=>grind
 |some i=>
 rw[hi]at hta;simp only[qD]at hta;cases hz:i.zero with
 |none=>grind
 |some z=>
 rw[hz]at hta;simp only[eI,kj,bm,beq_iff_eq,decide_eq_true_eq]at hta;obtain⟨⟨t1,t2⟩,t3⟩:=hta;have hesz:aZ P e=i.size:=by simp[aZ,hi]
 have hh:∃k cs R1 m cs' R2,((E x= .nil/\k=0/\cs=[]/\R1=[])\/∃s ob,E x= .own s 0 k/\R1=[s]/\σ s=some ob/\ob.ty=e/\ob.esz=aZ P e/\ob.cells.length=k*aZ P e/\cs=ob.cells)/\
   ((E y= .nil/\m=0/\cs'=[]/\R2=[])\/(∃l,E y= .p (.sl m l)/\l.length=m*aZ P e/\cs'=l.map .p/\R2=[])\/∃s o ob,E y= .own s o m/\σ s=some ob/\(ob.cells.drop o).take (m*aZ P e)=cs'/\cs'.length=m*aZ P e/\R2=[s])/\
   k+m<=1000000/\K (.own (sit n 0) 0 (k+m)) (R1++R2) (R1.map (·,none)++[(sit n 0,some ⟨e,aZ P e,cs++cs'⟩)]):=by
  have tl:∀k cs R1,BY σ (aZ P e) (E y) (λm cs' R2=>k+m<=1000000/\K (.own (sit n 0) 0 (k+m)) (R1++R2) (R1.map (·,none)++[(sit n 0,some ⟨e,aZ P e,cs++cs'⟩)]))->
    ∃m cs' R2,((E y= .nil/\m=0/\cs'=[]/\R2=[])\/(∃l,E y= .p (.sl m l)/\l.length=m*aZ P e/\cs'=l.map .p/\R2=[])\/∃s o ob,E y= .own s o m/\σ s=some ob/\(ob.cells.drop o).take (m*aZ P e)=cs'/\cs'.length=m*aZ P e/\R2=[s])/\
    k+m<=1000000/\K (.own (sit n 0) 0 (k+m)) (R1++R2) (R1.map (·,none)++[(sit n 0,some ⟨e,aZ P e,cs++cs'⟩)]):=by
   intro k cs R1 h;unfold BY at h;split at h
   .rename_i ey;exact⟨0,[],[],by grind,h⟩
   .grind
   .grind
   .exact h.elim
  unfold Gw at h;split at h
  .rename_i ex;obtain⟨m,cs',R2,h1,h2⟩:=tl _ _ _ h;exact⟨0,[],[],m,cs',R2,by grind,h1,h2⟩
  .obtain⟨ob,g1,g2,g3,g4,g5⟩:=h;obtain⟨m,cs',R2,h1,h2⟩:=tl _ _ _ g5;grind
  .exact h.elim
 obtain⟨k,cs,R1,m,cs',R2,hd1,hd2,hkm,hK⟩:=hh;refine⟨_,_,_,?_,hK⟩;intro C0 ρ g V w B hs hB hR hn hgn hE;have hn:=hn _ (gm n 0);have hgn:=hgn _ (gm n 0);have hcl:∀s,cls s≠n->s≠sit n 0:=λs h e=>h (by rw[e];exact gm n 0);have hd1':(E x= .nil/\k=0/\cs=[]/\R1=[])\/∃s ob,E x= .own s 0 k/\R1=[s]/\g s=some ob/\ob.ty=e/\ob.esz=aZ P e/\ob.cells.length=k*aZ P e/\cs=ob.cells:=by
  rcases hd1 with h|⟨s,ob,h1,h2,h3,h4⟩
  .exact .inl h
  .grind
 have hd2':(E y= .nil/\m=0/\cs'=[])\/(∃l,E y= .p (.sl m l)/\l.length=m*aZ P e/\cs'=l.map .p)\/∃s o ob,E y= .own s o m/\g s=some ob/\(ob.cells.drop o).take (m*aZ P e)=cs'/\cs'.length=m*aZ P e:=by
  rcases hd2 with⟨h1,h2,h3,_⟩|⟨l,h1,h2,h3,_⟩|⟨s,oo,ob,h1,h2,h3,h4,h5⟩
  .grind
  .grind
  .grind
 obtain⟨xs,hown,q1,q2,hsep⟩:=X3 hs (by omega) (hE x hx) hd1';obtain⟨a,c,us,hyv,p1,p2,p3,p4,p5⟩:=Wz hs (hE y hy) hd2';have hlenx:xs.length=k*aZ P e:=hown.1;have hsuff:∀K0:Value->World->Prop,cI P {o with op:= .call {callee:= .builtin .append,args:= #[x,y],argTypes:= #[t,t]}} V w K0->cI P o V w K0:=by intro K0 h;obtain⟨e',he'⟩:=oj.1 ht';have hr:=TR (ty:=o.type) (kq he) (kq he') (bI V x) (bI V y) w;unfold cI execOp at*;simp only[ho,resolve,invoke,builtin,cn,dZ,cp,H8,cT,j6]at*;rw[hr];exact h
 refine hsuff _ ?_;refine Dq x y t rfl B e z (aZ P e) i.bytes (kq he) (by grind) (by rw[t1,hesz]) (by omega) _ k xs rfl hown a m c us hyv p1 p2 p3 p5 hkm t3 hB ?_;intro v' w' hown' hbel hgrow hblk;obtain⟨q',c',hq',hq2⟩:∃(q':Option Nat) (c':Nat),((q'=none/\v'= .slice none 0 0/\k+m=0/\c'=0/\xs++us=[])\/∃b' arr,q'=some b'/\v'= .slice (some ⟨b',0,none⟩) (k+m) c'/\B<=b'/\w'.heap[b']? =some (.cells arr e (0,0))/\k+m<=c'/\c'<=maxLen/\arr.size=c'*aZ P e/\arr.toList.take ((k+m)*aZ P e)=xs++us)/\True:=by
  obtain⟨o1,⟨h1,h2⟩|⟨b',c',arr,h1,h2,h3,h4,h5,h6,h7⟩⟩:=hown'
  .exact⟨none,0,.inl ⟨rfl,h1,h2,rfl,nJ.1 (by grind)⟩,trivial⟩
  .exact⟨some b',c',by grind,trivial⟩
 clear hq2;generalize hnS:sit n 0=nS at*
 let ρ':Ren:=λs=>if s=nS then some (q',c')else ρ s
 let W:List (Nat×Option Ob):=R1.map (·,none)++[(nS,some ⟨e,aZ P e,cs++cs'⟩)]
 show∃ρ'':Ren,(∀s,cls s≠n->ρ'' s=ρ s)/\(∀b o' x,bE C0 B w ρ g b o' x->bE C0 B w' ρ'' (ao g W) b o' x)/\StR C0 ρ'' (ao g W) w' B/\aR ρ'' (bE C0 B w' ρ'' (ao g W)) (.own nS 0 (k+m)) v'/\Below B w w';have hext:∀s q,ρ s=some q->ρ' s=some q:=by intro s q hq;show(if s=nS then _ else _)=_;rw[if_neg (by grind)];exact hq
 have hR1:∀s∈R1,s≠nS:=by
  intro s hs' e;rcases hd1' with⟨_,_,_,h⟩|⟨s',ob,_,h1,h2,_⟩
  .grind
  .grind
 have hlkn:W.lookup nS=some (some ⟨e,aZ P e,cs++cs'⟩):=by
  rcases hd1' with⟨_,_,_,h⟩|⟨s',ob,_,h1,h2,_⟩
  .simp[W,h]
  .grind
 have hlkR:∀s,s∈R1->W.lookup s=some none:=by
  intro s hs';rcases hd1' with⟨_,_,_,h⟩|⟨s',ob,_,h1,h2,_⟩
  .grind
  .grind
 have hlk:∀s,s≠nS->s∉R1->W.lookup s=none:=by
  intro s h1 h2;rcases hd1' with⟨_,_,_,h⟩|⟨s',ob,_,h3,_⟩
  .grind
  .grind
 have hupR:∀s,s∈R1->ao g W s=none:=by intro s h;unfold ao;rw[hlkR s h]
 have hup:∀s,s≠nS->s∉R1->ao g W s=g s:=by intro s h1 h2;unfold ao;rw[hlk s h1 h2]
 have hrow:∀s ob b c,g s=some ob->ρ s=some (some b,c)->s∉R1->some b≠(bI V x).ownBlock:=by
  intro s ob b c e1 e2 e3 e4;rcases hsep with⟨h1,_⟩|⟨s',b',c2,ob',h1,h2,h3,h4⟩
  .grind
  .rw[h4]at e4;cases e4;have:=hs.inj s s' ob ob' b c c2 e1 h2 e2 h3;grind
 have hlt:∀s ob b c,g s=some ob->ρ s=some (some b,c)->b<w.heap.size:=by intro s ob b c e1 e2;obtain⟨_,arr,e3⟩:=hs.at e1 e2;exact e3.lt
 have hmono:∀b o' x,bE C0 B w ρ g b o' x->bE C0 B w' ρ' (ao g W) b o' x:=by
  intro b o' x' ⟨e1,e2,e0⟩;have hb:b<w.heap.size:=jh w ⟨b,o',none⟩ e1;have hnr:some b≠(bI V x).ownBlock:=by
   intro e4;rcases hsep with⟨h1,_⟩|⟨s',b',c2,ob',h1,h2,h3,h4⟩
   .grind
   .grind
  refine⟨(i6 (hgrow.block b hb hnr)).trans e1,?_,e0⟩;intro s c2 e3;by_cases e:s=nS
  .subst e;simp only[ρ',if_true]at e3;cases e3;rcases hq' with⟨h1,_⟩|⟨b',arr,h1,h2,_⟩
   .cases h1
   .cases h1;rcases hblk b (by rw[h2];rfl)with h3|h3
    .grind
    .omega
  .grind
 refine⟨ρ',by grind,hmono,?_,?_,hbel⟩
 .refine hs.step ?_ hext hmono ?_ ?_ λk es clock hk=>hgrow.block k (qn hk) ?_
  rotate_left 3
  .intro e4;rcases hsep with⟨h1,_⟩|⟨s',b',c2,ob',h1,h2,h3,h4⟩
   .grind
   .rw[h4]at e4;cases e4;obtain⟨_,arr,e5⟩:=hs.at h2 h3;exact uT hk e5.blk rfl
  .grind
  .intro s ob' b c2 e1 e2 e3;have e4:s∉R1:=λh=>by grind
   exact hgrow.block b (by grind) (by grind)
  .intro s ob' e1;have e2:s=nS:=by
    by_cases h1:s=nS
    .exact h1
    .grind
   subst e2;rw[hlkn]at e1;simp only[fZ]at e1;subst e1;refine⟨q',c',by simp[ρ'],?_⟩;rcases hq' with⟨h1,h2,h3,h4,h5⟩|⟨b',arr,h1,h2,h3,h4,h5,h6,h7,h8⟩
   .refine .inl ⟨h1,by grind,?_,h4⟩;have l1:=q1.length;have l2:=p4.length;have l3:=congrArg fW h5;simp only[fw,List.length_nil]at l3;rw[List.append_eq_nil_iff];exact⟨nJ.1 (by omega),nJ.1 (by omega)⟩
   .refine .inr ⟨b',arr,h1,h3,⟨h4,by grind,λ_=>⟨h7,?_,h6⟩,?_⟩,?_⟩
    .have l1:=q1.length;have l2:=p4.length;rw[h7,fw,<-l1,<-l2,hlenx,p1,<-yd];exact Nat.mul_le_mul_right _ h5
    .intro j u hj;have l1:=q1.length;have hjj:∃v,(xs++us)[j]? =some v/\v.oneCell'=true/\aR ρ (bE C0 B w ρ g) u v:=by
      by_cases hlt2:j<cs.length
      .rw[mI hlt2]at hj;obtain⟨v,g1,g2⟩:=q1.get _ _ j u hj;exact⟨v,by grind,q2 v (by grind),g2⟩
      .rw[kM (by omega)]at hj;obtain⟨v,g1,g2⟩:=p4.get _ _ _ u hj;exact⟨v,by grind,p5 v (by grind),g2⟩
     obtain⟨v,g1,g2,g3⟩:=hjj;refine⟨v,?_,g2,aR.mono hext hmono u v g3⟩;grind
    .intro s' o' c2 hne e3 e4;have e5:s'∉R1:=λh=>by grind
     rcases hblk b' (by rw[h2];rfl)with h9|h9
     .grind
     grind
 .unfold aR;grind
end
end
section
def aBd(C0:bF)(B:Nat)(w:World):bF:=λb o v=>w.cell? ⟨b,o,none⟩=some v/\(B<=b\/C0 b o v)
def di{α β:Type}(f:α->Option β):List α->Option (List β)
 |[] =>some []
 |x::l=>match f x,di f l with
  |some y,some m=>some (y::m)
  |_,_=>none
def bK{α β:Type}(f:α->List β):List α->List β
 |[] =>[]
 |x::l=>f x++bK f l
def dL:Nat->(Nat->Option Ob)->AV->Option PV
 |_,_,.p x=>some x
 |_,_,.nil=>some (.sl 0 [])
 |d+1,σ,.own s o m=>(σ s).bind λob=>(di (dL d σ) ob.cells).map λl=> .sl m ((l.drop o).take (m*ob.esz))
 |d+1,σ,.ptr s off=>(σ s).bind λob=>(di (dL d σ) ob.cells).map λl=> .pro l off
 |d+1,σ,.agg l=>(di (dL d σ) l).map .agg
 |d+1,σ,.fn f a b=>(di (dL d σ) a).bind λx=>(di (dL d σ) b).map λy=> .fn f x y
 |_,_,_=>none
def cJ:Nat->(Nat->Option Ob)->AV->List Nat
 |0,_,_=>[]
 |d+1,σ,.own s _ _=>s::(match σ s with|some ob=>bK (cJ d σ) ob.cells|none=>[])
 |d+1,σ,.ptr s _=>s::(match σ s with|some ob=>bK (cJ d σ) ob.cells|none=>[])
 |d+1,σ,.agg l=>bK (cJ d σ) l
 |d+1,σ,.fn _ a b=>bK (cJ d σ) a++bK (cJ d σ) b
 |_,_,_=>[]
def GB(d:Nat)(σ:Nat->Option Ob)(x:PV):dL d σ (.p x)=some x:=by cases d<;>rfl
def sH(d:Nat)(σ:Nat->Option Ob):∀(l:List PV),di (dL d σ) (l.map .p)=some l
 |[] =>rfl
 |x::l=>by simp only[cT,di,GB,sH d σ l]
def aAg(d:Nat)(σ:Nat->Option Ob)(x:PV):cJ d σ (.p x)=[] :=by cases d<;>rfl
def pJ(d:Nat)(σ:Nat->Option Ob):∀(l:List PV),bK (cJ d σ) (l.map .p)=[]
 |[] =>rfl
 |x::l=>by simp only[cT,bK,aAg,pJ d σ l,CU]
def nO{α β:Type}{f:α->List β}{x:α}{y:β}:∀{l:List α},x∈l->y∈f x->y∈bK f l
 |a::l,h,hy=>by
  rcases bO.1 h with rfl|h
  .exact gZ _ hy
  .exact fY _ (nO h hy)
def nW{α β:Type}{f:α->Option β}:∀{l:List α} {m:List β},di f l=some m->l.length=m.length/\∀(i:Nat) x,l[i]? =some x->∃y,m[i]? =some y/\f x=some y
 |[],m,h=>by simp[di]at h;grind
 |a::l,m,h=>by
  unfold di at h;split at h
  .rename_i y r h1 h2;obtain⟨g1,g2⟩:=nW h2;grind
  .cases h
section
variable {P:Program}
def ET{C0:bF}{ρ:Ren}{g σ:Nat->Option Ob}{w:World}{B:Nat}(hs:StR C0 ρ g w B)(T:bF)(S:Nat->Prop)(hfull:∀b o v,bE C0 B w ρ g b o v->T b o v)(hT:∀s ob b c,S s->g s=some ob->ρ s=some (some b,c)->B<=b->∀o v,w.cell? ⟨b,o,none⟩=some v->T b o v):∀(d:Nat) (x:AV) (y:PV) (v:Value),dL d σ x=some y->(∀s∈cJ d σ x,S s/\g s=σ s)->aR ρ (bE C0 B w ρ g) x v->aU T y v:=by
 intro d;induction d with
 |zero=>
  intro x y v h hr hx;unfold dL at h;split at h<;>first|(cases h;done)|skip
  .cases h;exact aU.mono hfull _ v hx
  .cases h;unfold aR at hx;unfold aU;grind
  all_goals (rename_i e;cases e)
 |succ d ih=>
  have ihL:∀(l:List AV) (m:List PV) (vs:List Value),di (dL d σ) l=some m->(∀s∈bK (cJ d σ) l,S s/\g s=σ s)->ak ρ (bE C0 B w ρ g) l vs->af T m vs:=by
   intro l m vs h hr hv;obtain⟨h1,h2⟩:=nW h;refine af.of _ _ (by rw[<-h1];exact hv.length) λi y hi=> ?_;have hlt:i<l.length:=by rw[h1];grind
   obtain⟨y',h3,h4⟩:=h2 i l[i] (by grind);rw[hi]at h3;cases h3;obtain⟨v,h5,h6⟩:=hv.get _ _ i l[i] (by grind);exact⟨v,h5,ih _ _ v h4 (λs hs'=>hr s (nO (by grind) hs')) h6⟩
  have ihC:∀(s b c:Nat) (ob:Ob) (m:List PV),S s->g s=some ob->ρ s=some (some b,c)->di (dL d σ) ob.cells=some m->(∀s∈bK (cJ d σ) ob.cells,S s/\g s=σ s)->cK T m b 0:=by
   intro s b c ob m hS h1 h2 h3 h4;obtain⟨hBb,arr,hO⟩:=hs.at h1 h2;obtain⟨g1,g2⟩:=nW h3;refine cK.of _ _ _ λi y hi=> ?_;have hlt:i<ob.cells.length:=by rw[g1];grind
   obtain⟨y',h5,h6⟩:=g2 i ob.cells[i] (by grind);rw[hi]at h5;cases h5;obtain⟨v,k1,k2,k3⟩:=hO.cells i ob.cells[i] (by grind);refine⟨v,?_,k2,ih _ _ v h6 (λs hs'=>h4 s (nO (by grind) hs')) k3⟩;refine hT s ob b c hS h1 h2 hBb _ _ ?_;rw[jg,hO.cell];exact k1
  intro x y v h hr hx;unfold dL at h;split at h
  .cases h;exact aU.mono hfull _ v hx
  .cases h;unfold aR at hx;unfold aU;grind
  .rename_i σ _ _ _ d' s o m e;cases e;simp only[qE,lQ]at h;obtain⟨ob,h1,l,h2,rfl⟩:=h;have hg:g s=some ob:=(hr s (by simp[cJ])).2.trans h1;have hSs:=(hr s (by simp[cJ])).1;have hr2:∀s'∈bK (cJ d σ) ob.cells,S s'/\g s'=σ s':=λs' hs'=>hr s' (by simp only[cJ,h1];grind);unfold aU;obtain⟨q,c,hq,⟨rfl,hv,rfl,rfl⟩|⟨b,o',c',rfl,hv,h5,h6,h7⟩⟩:=hx
   .grind
   .refine⟨_,c',hv,h5,(by grind),λad e=> ?_⟩;cases e;by_cases hm:m=0
    .subst hm;simp;trivial
    .have e:=h6 hm;have:=((ihC s b c ob l hSs hg hq h2 hr2).drop o').take (m*ob.esz);grind
  .rename_i σ _ _ _ d' s off e;simp only[qE,lQ]at h;obtain⟨ob,h1,l,h2,rfl⟩:=h;have hg:g s=some ob:=(hr s (by simp[cJ])).2.trans h1;have hSs:=(hr s (by simp[cJ])).1;have hr2:∀s'∈bK (cJ d σ) ob.cells,S s'/\g s'=σ s':=λs' hs'=>hr s' (by simp only[cJ,h1];grind);unfold aR at hx;unfold aU;grind
  .rename_i d' l e;cases e;simp only[lQ]at h;obtain⟨m,h2,rfl⟩:=h;obtain⟨vs,h3,h4,h5⟩:=hx;exact⟨vs,h3,ihL l m vs h2 (λs hs'=>hr s hs') h4,h5⟩
  .rename_i d' f a b e;cases e;simp only[qE,lQ]at h;obtain⟨x1,h1,x2,h2,rfl⟩:=h;obtain⟨vs1,vs2,h3,h4,h5⟩:=hx;exact⟨vs1,vs2,h3,ihL a x1 vs1 h1 (λs hs'=>hr s (gZ _ hs')) h4,ihL b x2 vs2 h2 (λs hs'=>hr s (fY _ hs')) h5⟩
  .cases h
def jX(P:Program)(f:FuncId):Bool:=((P.funcs[f]?).map λfn=> !(fn.name== "runtime.NumGoroutine")&& !fn.body.isNone).getD false
def Sat(P:Program)(fr:Bool)(f:FuncId)(A:List PV)(r:PV):Prop:=jX P f=true/\
 ∀(C:bF) (w:World) (vs:List Value),(∀b o v,C b o v->w.cell? ⟨b,o,none⟩=some v)->af C A vs->
  Calls P f vs.toArray w λe w'=>∃v,e= .returned v/\aU (λb o x=>(fr=false/\C b o x)\/(w.heap.size<=b/\w'.cell? ⟨b,o,none⟩=some x)) r v/\Below w.heap.size w w'
def kk{f:FuncId}(h:jX P f=true)(args:Array Value)(w:World):(callFunc f args).run P w= .ok (.enter f args) w:=by
 unfold jX at h;cases hf:P.funcs[f]? with
 |none=>grind
 |some fn=>
  rw[hf]at h;simp only[eI,kj,bm,CN]at h;simp only[callFunc,cn,run_program,cp,hf,h.1,h.2,qB,if_false,dZ]
structure Lent(C:bF)(w:World)(b c:Nat)(ty:TypeId)(esz:Nat)(cells:List PV)(arr:Array Value):Prop where
 blk:w.heap[b]? =some (.cells arr ty (0,0))
 box:esz=0->arr.size=cells.length
 row:esz≠0->arr.size=c*esz/\cells.length<=arr.size/\c<=maxLen
 cells:∀(i:Nat) x,cells[i]? =some x->∃v,arr[i]? =some v/\v.oneCell'=true/\aU C x v
def Pn(n:Option Nat)(b c:Nat):Value:=match n with
 |none=> .pointer (some ⟨b,0,none⟩)
 |some n=> .slice (some ⟨b,0,none⟩) n c
def mF(P:Program)(f:FuncId)(n:Option Nat)(A:List PV)(ty:TypeId)(esz:Nat)(cells cells':List PV):Prop:=jX P f=true/\cells'.length=cells.length/\
 (∀(C:bF) (w:World) (b c:Nat) (arr:Array Value) (vs:List Value),(∀b' o v,C b' o v->w.cell? ⟨b',o,none⟩=some v/\b'≠b)->Lent C w b c ty esz cells arr->(∀m,n=some m->m<=c)->af C A vs->
   Calls P f (Pn n b c::vs).toArray w λe w'=>∃arr',e= .returned Go.undef/\Lent C w' b c ty esz cells' arr'/\w.grownBy w' (some b))/\
 (n=some 0->∀(C:bF) (w:World) (vs:List Value),(∀b' o v,C b' o v->w.cell? ⟨b',o,none⟩=some v)->af C A vs->
   Calls P f (.slice none 0 0::vs).toArray w λe w'=>e= .returned Go.undef/\Below w.heap.size w w')
def Fh(P:Program)(σ:Nat->Option Ob)(f:FuncId)(avs:List AV)(K:Res):Prop:=match avs with
 | .ptr s 0::rest=>∃ty cells,σ s=some ⟨ty,0,cells.map .p⟩/\∃A cells',bG rest=some A/\mF P f none A ty 0 cells cells'/\K .undef [s] [(s,some ⟨ty,0,cells'.map .p⟩)]
 | .own s 0 n::rest=>∃ty esz cells,σ s=some ⟨ty,esz,cells.map .p⟩/\esz≠0/\∃A cells',bG rest=some A/\mF P f (some n) A ty esz cells cells'/\K .undef [s] [(s,some ⟨ty,esz,cells'.map .p⟩)]
 |_=>False
def ZX(P:Program)(σ:Nat->Option Ob)(f:FuncId)(avs:List AV)(K:Res):Prop:=
 ∃A,di (dL 3 σ) avs=some A/\∃fr r,Sat P fr f A r/\(((fr=true\/bG avs=some A)/\K (.p r) (bK (cJ 3 σ) avs) [])\/K (.p r) (bK (cJ 3 σ) avs) ((bK (cJ 3 σ) avs).map (·,none)))
def pT(P:Program)(σ:Nat->Option Ob)(f:FuncId)(avs:List AV)(K:Res):Prop:=ZX P σ f avs K\/Fh P σ f avs K
def Bs(P:Program)(σ:Nat->Option Ob)(fv:AV)(args:List AV)(K:Res):Prop:=match fv with
 | .fn (.func f) first caps=>pT P σ f (first++args++caps) K
 | .p (.fn (.func f) first caps)=>pT P σ f (first.map .p++args++caps.map .p) K
 |_=>False
variable {o:Oper} {E:Operand->AV} {σ:Nat->Option Ob} {n:Nat}
def ak.append{ρ:Ren}{C:bF}{l m:List AV}{vs us:List Value}(h:ak ρ C l vs)(k:ak ρ C m us):ak ρ C (l++m) (vs++us):=
 ak.of _ _ (by simp[h.length,k.length]) λi x hi=>by
  have hl:=h.length;by_cases hlt:i<l.length
  .rw[mI hlt]at hi;rw[mI (by omega)];exact h.get _ _ i x hi
  .rw[kM (by omega)]at hi;rw[kM (by omega),hl];exact k.get _ _ _ x hi
def K3{s n0:Nat}{nn:Option Nat}{f:FuncId}{A:List PV}{ty esz:Nat}{cells cells':List PV}(hob:σ s=some ⟨ty,esz,cells.map .p⟩)(hS:mF P f nn A ty esz cells cells')
  (hkind:(nn=none/\esz=0)\/(nn=some n0/\esz≠0))
  (hrun:∀(ρ:Ren) (C:bF) (V:Nat->Value) (w:World),(∀x∈o.op.operands.toList,aR ρ C (E x) (bI V x))->∃v us,(execOp (bI V) o).run P w= .ok (.enter f (v::us).toArray) w/\af C A us/\
    aR ρ C (match nn with|none=> .ptr s 0|some n0=> .own s 0 n0) v):bR P o E σ n .undef [s] [(s,some ⟨ty,esz,cells'.map .p⟩)] :=by
 obtain⟨_,hlen,hcall,hnil⟩:=hS;intro C0 ρ g V w B hs hB hR hn hgn hE;obtain⟨v,us,hr,hA,hv⟩:=hrun ρ _ V w hE;have hgs:g s=some ⟨ty,esz,cells.map .p⟩:=by grind
 unfold cI;rw[hr];dsimp only;have hlk:∀s',s'≠s->[(s,some (⟨ty,esz,cells'.map .p⟩:Ob))].lookup s'=none:=by intro s' hs';simp[gh,beq_eq_false_iff_ne.2 hs']
 have hup:∀s',s'≠s->ao g [(s,some ⟨ty,esz,cells'.map .p⟩)] s'=g s':=by intro s' hs';unfold ao;rw[hlk s' hs']
 have hat:∀s' o',[(s,some (⟨ty,esz,cells'.map .p⟩:Ob))].lookup s'=some (some o')->s'=s/\o'=⟨ty,esz,cells'.map .p⟩:=by
  intro s' o' e;have e1:s'=s:=by
   rcases om s' s with h|h
   .grind
   .exact h
  subst e1;simp[gh]at e;exact⟨rfl,e.symm⟩
 have hlt:∀s ob b c,g s=some ob->ρ s=some (some b,c)->b<w.heap.size:=by intro s ob b c e1 e2;obtain⟨_,arr,e3⟩:=hs.at e1 e2;exact e3.lt
 have real:∀b c,ρ s=some (some b,c)->v=Pn nn b c->(∀m,nn=some m->m<=c)->
   Calls P f (v::us).toArray w λe w''=>∃v,e= .returned v/\∃ρ':Ren,(∀s,cls s≠n->ρ' s=ρ s)/\(∀b o' x,bE C0 B w ρ g b o' x->bE C0 B w'' ρ' (ao g [(s,some ⟨ty,esz,cells'.map .p⟩)]) b o' x)/\
    StR C0 ρ' (ao g [(s,some ⟨ty,esz,cells'.map .p⟩)]) w'' B/\aR ρ' (bE C0 B w'' ρ' (ao g [(s,some ⟨ty,esz,cells'.map .p⟩)])) .undef v/\Below B w w'':=by
  intro b c hρ hv hnc;obtain⟨hBb,arr,hO⟩:=hs.at hgs hρ;subst hv;have hL:Lent (bE C0 B w ρ g) w b c ty esz cells arr:=by refine⟨hO.blk,λh=>by simpa using hO.box h,λh=>by simpa using hO.row h,λi x hi=> ?_⟩;obtain⟨u,h1,h2,h3⟩:=hO.cells i (.p x) (by grind);unfold aR at h3;grind
  refine(hcall _ w b c arr us (λb' o' x hx=>⟨hx.1,λe=>by subst e;have:=hx.2.1 s c hρ;grind⟩) hL hnc hA).mono ?_;rintro e w' ⟨arr',rfl,hL',hG⟩;have hold:∀k,k<w.heap.size->k≠b->w'.heap[k]? =w.heap[k]? :=λk h1 h2=>hG.block k h1 (by grind);have hmono:∀b' o' x,bE C0 B w ρ g b' o' x->bE C0 B w' ρ (ao g [(s,some ⟨ty,esz,cells'.map .p⟩)]) b' o' x:=by
   intro b' o' x ⟨e1,e2,e0⟩;have hne:b'≠b:=λe=>by grind
   refine⟨(i6 (hold b' (jh w ⟨b',o',none⟩ e1) hne)).trans e1,?_,e0⟩;intro s' c' e3;by_cases e:s'=s
   .grind
   .grind
  refine⟨_,rfl,ρ,λ_ _=>rfl,hmono,?_,by rfl,⟨hG.os,hG.tape,hG.output,hG.size,by grind⟩⟩;refine hs.step (by grind) (λ_ _ h=>h) hmono ?_ ?_ λk es clock hk=>hold k (qn hk) (uT hk hO.blk)
  .intro s' o' b' c' e1 e2 e3;refine hold b' (by grind) λe=> ?_;subst e;have:=hs.inj s s' _ o' b' c c' hgs e2 hρ e3;grind
  .intro s' o' e;obtain⟨rfl,rfl⟩:=hat s' o' e;refine⟨some b,c,hρ,.inr ⟨b,arr',rfl,hBb,⟨hL'.blk,λh=>by simpa using hL'.box h,λh=>by simpa using hL'.row h,?_⟩,?_⟩⟩
   .intro i x hi;rw[fy]at hi;cases hc:cells'[i]? with
    |none=>grind
    |some y=>
     rw[hc]at hi;simp only[eI,fZ]at hi;subst hi;obtain⟨u,h1,h2,h3⟩:=hL'.cells i y hc;exact⟨u,h1,h2,by exact aU.mono hmono y u h3⟩
   .intro s2 o' c' hne e3 e4;rw[hup s2 hne]at e3;exact hne (hs.inj s' s2 _ o' b c c' hgs e3 hρ e4).symm
 rcases hkind with⟨rfl,he⟩|⟨rfl,he⟩
 .obtain⟨b,c,hρ,hv⟩:=hv;exact real b c hρ hv (by grind)
 .obtain⟨q,c,hρ,⟨rfl,hv,rfl,_⟩|⟨b,o',c',rfl,hv,h5,h6,h7⟩⟩:=hv
  .subst hv;have hcn:cells'=[] :=by
    obtain⟨q,c2,h1,⟨_,h2|h2⟩|⟨b,arr,h2,_⟩⟩:=hs.ob s _ hgs
    rotate_left
    .grind
    rotate_left
    .have:(cells.map AV.p)=[] :=h2.2.1;have:cells.length=0:=by simpa using congrArg fW this
     grind
    .grind
   refine(hnil rfl _ w us (λb' o' x hx=>hx.1) hA).mono ?_;rintro e w' ⟨rfl,hb⟩;have hold:∀k,k<w.heap.size->w'.heap[k]? =w.heap[k]? :=λk hk=>hb.block k hk;have hmono:∀b' o' x,bE C0 B w ρ g b' o' x->bE C0 B w' ρ (ao g [(s,some ⟨ty,esz,cells'.map .p⟩)]) b' o' x:=by
    intro b' o' x ⟨e1,e2,e0⟩;refine⟨(i6 (hold b' (jh w ⟨b',o',none⟩ e1))).trans e1,?_,e0⟩;intro s' c' e3;by_cases e:s'=s
    .grind
    .grind
   refine⟨_,rfl,ρ,λ_ _=>rfl,hmono,?_,by rfl,hb.mono hB⟩;refine hs.step (by grind) (λ_ _ h=>h) hmono (by grind) ?_ (by grind);intro s' o' e;obtain⟨rfl,rfl⟩:=hat s' o' e;obtain⟨q,c2,h1,⟨_,h2|h2⟩|⟨b,arr,h2,_⟩⟩:=hs.ob s' _ hgs
   .grind
   .grind
   grind
  .obtain⟨rfl,rfl⟩:=h7 rfl;exact real b c' hρ hv (by grind)
def Wf{c:Call}{f:Operand}{fid:FuncId}{first caps:List AV}(hfm:f∈o.op.operands.toList)(ham:∀x∈c.args.toList,x∈o.op.operands.toList)(ho:o.op= .call c)(hc:c.callee= .value f)
  (hfv:∀ρ C v,aR ρ C (E f) v->∃vs1 vs2:List Value,v= .func (.func fid) vs1.toArray vs2.toArray/\ak ρ C first vs1/\ak ρ C caps vs2) {K:Res}
  (h:Fh P σ fid (first++c.args.toList.map E++caps) K):∃r R W,bR P o E σ n r R W/\K r R W:=by
 have hrun:jX P fid=true->∀(ρ:Ren) (C:bF) (V:Nat->Value) (w:World),(∀x∈o.op.operands.toList,aR ρ C (E x) (bI V x))->∃us,(execOp (bI V) o).run P w= .ok (.enter fid us.toArray) w/\ak ρ C (first++c.args.toList.map E++caps) us:=by
  intro hok ρ C V w hE;obtain⟨vs1,vs2,hv,q1,q2⟩:=hfv _ _ _ (hE f hfm);have hargs:∀l:List Operand,(∀x∈l,x∈o.op.operands.toList)->ak ρ C (l.map E) (l.map (bI V)):=by
   intro l;induction l with
   |nil=>intro _;rfl
   |cons x l ih=>
    unfold ak;grind
  refine⟨vs1++c.args.toList.map (bI V)++vs2,?_,(q1.append (hargs _ ham)).append q2⟩;unfold execOp;rw[ho];have e2:vs1.toArray++s8 (bI V) c.args++vs2.toArray=(vs1++c.args.toList.map (bI V)++vs2).toArray:=by apply ol.1;simp
  simp only[resolve,hc,hv,s9,cn,dZ,cp,invoke,kk hok,e2]
 generalize first++c.args.toList.map E++caps=avs at h hrun
 unfold Fh at h;split at h
 .obtain⟨ty,cells,hob,A,cells',hA,hS,hK⟩:=h;refine⟨_,_,_,K3 (n0:=0) hob hS (by grind) ?_,hK⟩;intro ρ C V w hE;obtain⟨us,h1,h2⟩:=hrun hS.1 ρ C V w hE;obtain⟨v,r,rfl,h3,h4⟩:=h2;exact⟨v,r,h1,qX hA h4,h3⟩
 .rename_i s k rest;obtain⟨ty,esz,cells,hob,he,A,cells',hA,hS,hK⟩:=h;refine⟨_,_,_,K3 (n0:=k) hob hS (by grind) ?_,hK⟩;intro ρ C V w hE;obtain⟨us,h1,h2⟩:=hrun hS.1 ρ C V w hE;obtain⟨v,r,rfl,h3,h4⟩:=h2;exact⟨v,r,h1,qX hA h4,h3⟩
 grind
def YP{c:Call}{f:Operand}(ho:o.op= .call c)(hc:c.callee= .value f){K:Res}(h:Bs P σ (E f) (c.args.toList.map E) K):∃r R W,bR P o E σ n r R W/\K r R W:=by
 have hfm:f∈o.op.operands.toList:=by rw[ho];simp[cU,jI,hc]
 have ham:∀x∈c.args.toList,x∈o.op.operands.toList:=by intro x hx;rw[ho];simp[cU,jI];exact .inr (by grind)
 have key:∀(fid:FuncId) (first caps:List AV),(∀ρ C v,aR ρ C (E f) v->∃vs1 vs2:List Value,v= .func (.func fid) vs1.toArray vs2.toArray/\ak ρ C first vs1/\ak ρ C caps vs2)->
   pT P σ fid (first++c.args.toList.map E++caps) K->∃r R W,bR P o E σ n r R W/\K r R W:=by
  intro fid first caps hfv hgo
  refine Or.elim hgo ?_ (λhgo=>Wf hfm ham ho hc hfv hgo);rintro⟨A,hA,fr,r,hsat,hcase⟩;have sim:∀W:List (Nat×Option Ob),(W=[]/\(fr=true\/bG (first++c.args.toList.map E++caps)=some A))\/W=(bK (cJ 3 σ) (first++c.args.toList.map E++caps)).map (·,none)->bR P o E σ n (.p r) (bK (cJ 3 σ) (first++c.args.toList.map E++caps)) W:= ?_
  .grind
  intro W hW;intro C0 ρ g V w B hs hB hR hn hgn hE;obtain⟨vs1,vs2,hv,q1,q2⟩:=hfv _ _ _ (hE f hfm);have hargs:∀l:List Operand,(∀x∈l,x∈o.op.operands.toList)->ak ρ (bE C0 B w ρ g) (l.map E) (l.map (bI V)):=by
   intro l;induction l with
   |nil=>intro _;rfl
   |cons x l ih=>
    unfold ak;grind
  have hall:=(q1.append (hargs _ ham)).append q2;obtain⟨hok,hcalls⟩:=hsat;have hrun:(execOp (bI V) o).run P w= .ok (.enter fid (vs1++c.args.toList.map (bI V)++vs2).toArray) w:=by
   unfold execOp;rw[ho];have e2:vs1.toArray++s8 (bI V) c.args++vs2.toArray=(vs1++c.args.toList.map (bI V)++vs2).toArray:=by apply ol.1;simp
   simp only[resolve,hc,hv,s9,cn,dZ,cp,invoke,kk hok,e2]
  have hlive:∀s ob b c,g s=some ob->ρ s=some (some b,c)->b<w.heap.size:=by intro s ob b c e1 e2;obtain⟨_,arr,e3⟩:=hs.at e1 e2;exact e3.lt
  have hnone:∀s x,W.lookup s=some x->W.lookup s=some none:=by
   intro s x h;rcases hW with⟨rfl,_⟩|rfl
   .simp at h
   .have key:∀l:List Nat,(l.map (·,(none:Option Ob))).lookup s=some x->x=none:=by
     intro l;induction l with
     |nil=>grind
     |cons k l ih=>
      grind
    grind
  have hdrop:∀b o' x,bE C0 B w ρ g b o' x->bE C0 B w ρ (ao g W) b o' x:=by
   intro b o' x ⟨e1,e2,e0⟩;refine⟨e1,λs c' e3=> ?_,e0⟩;unfold ao;split
   .grind
   .grind
  unfold cI;rw[hrun];dsimp only;have fin:∀(C:bF),(∀b o v,C b o v->w.cell? ⟨b,o,none⟩=some v)->af C A (vs1++c.args.toList.map (bI V)++vs2)->(fr=false->∀b o v,C b o v->bE C0 B w ρ (ao g W) b o v)->
    Calls P fid (vs1++c.args.toList.map (bI V)++vs2).toArray w λe w''=>∃v,e= .returned v/\∃ρ':Ren,(∀s,cls s≠n->ρ' s=ρ s)/\(∀b o' x,bE C0 B w ρ g b o' x->bE C0 B w'' ρ' (ao g W) b o' x)/\StR C0 ρ' (ao g W) w'' B/\aR ρ' (bE C0 B w'' ρ' (ao g W)) (.p r) v/\Below B w w'':=by
   intro C hC hrep hCC;refine(hcalls C w _ hC hrep).mono ?_;rintro e w' ⟨v,rfl,hr,hbel⟩;have hold:∀b,b<w.heap.size->w'.heap[b]? =w.heap[b]? :=λb hb=>hbel.block b hb;have hmono:∀b o' x,bE C0 B w ρ (ao g W) b o' x->bE C0 B w' ρ (ao g W) b o' x:=by intro b o' x ⟨e1,e2,e0⟩;exact⟨(i6 (hold b (jh w ⟨b,o',none⟩ e1))).trans e1,e2,e0⟩
   refine⟨v,rfl,ρ,λ_ _=>rfl,by grind,?_,?_,hbel.mono hB⟩
   .refine hs.step (by grind) (λ_ _ h=>h) (by grind) ?_ (by grind) (by grind);grind
   .refine aU.mono ?_ r v hr;rintro b o' x (⟨h1,h2⟩|⟨h1,h2⟩)
    .grind
    .refine⟨h2,?_,by grind⟩;intro s c' e3;unfold ao;split
     .grind
     .cases hgs:g s with
      |none=>rfl
      |some ob=>grind
  have hsnap:∀(T:bF),(∀b o v,bE C0 B w ρ g b o v->T b o v)->(∀s ob b c2,s∈bK (cJ 3 σ) (first++c.args.toList.map E++caps)->g s=some ob->ρ s=some (some b,c2)->B<=b->∀o v,w.cell? ⟨b,o,none⟩=some v->T b o v)->
    af T A (vs1++c.args.toList.map (bI V)++vs2):=by
   intro T hT1 hT2;obtain⟨g1,g2⟩:=nW hA;refine af.of _ _ (by rw[<-g1];exact hall.length) λi y hi=> ?_;have hlt:i<(first++c.args.toList.map E++caps).length:=by rw[g1];grind
   obtain⟨y',h5,h6⟩:=g2 i _ (eZ hlt);rw[hi]at h5;cases h5;obtain⟨v,k1,k2⟩:=hall.get _ _ i _ (eZ hlt);exact⟨v,k1,ET hs T (λs=>s∈bK (cJ 3 σ) (first++c.args.toList.map E++caps)) hT1 hT2 3 _ _ v h6 (λs hs'=>⟨nO (by grind) hs',hR s (nO (by grind) hs')⟩) k2⟩
  rcases hW with⟨rfl,h⟩|rfl
  .cases fr with
   |true=>exact fin (aBd C0 B w) (λb o v h=>h.1) (hsnap _ (λb o v h=>⟨h.1,h.2.2⟩) (λs ob b c _ _ _ hb o v h=>⟨h,.inl hb⟩)) (by grind)
   |false=>
    rcases h with h|h
    .cases h
    .exact fin (bE C0 B w ρ g) (λb o v h=>h.1) (qX h hall) (by grind)
  .refine fin (bE C0 B w ρ (ao g ((bK (cJ 3 σ) (first++c.args.toList.map E++caps)).map (·,none)))) (λb o v h=>h.1) (hsnap _ hdrop ?_) (by grind);intro s ob b c' hsm e1 e2 hb o' v e3;have hmem:∀l:List Nat,s∈l->(l.map (·,(none:Option Ob))).lookup s=some none:=by
    intro l;induction l with
    |nil=>grind
    |cons k l ih=>
     grind
   refine⟨e3,λs' c2 e4=> ?_,.inl hb⟩;unfold ao;split
   .grind
   .cases hg':g s' with
    |none=>rfl
    |some ob'=>
     have:=hs.inj s s' ob ob' b c' c2 e1 hg' e2 e4;grind
 unfold Bs at h;split at h
 .rename_i fid first caps e
  refine key fid first caps (λρ C v hv=> ?_) h
  rw[e]at hv;exact hv
 .rename_i fid first caps e
  refine key fid _ _ (λρ C v hv=> ?_) h;rw[e]at hv;obtain⟨vs1,vs2,h1,h2,h3⟩:=hv;exact⟨vs1,vs2,h1,h2.toA,h3.toA⟩
 grind
end
def yG(v:Value)(us:List Value):Value:=match us with
 |[] =>v
 |us=> .tuple (v::us).toArray
def oC(C:bF)(N:Nat)(q:Option Nat)(w':World):bF:=λb o x=>C b o x\/(N<=b/\q≠some b/\w'.cell? ⟨b,o,none⟩=some x)
def vF(P:Program)(f:FuncId)(A:List PV)(ty esz:Nat)(cells:List PV)(m:Nat)(ys:List PV):Prop:=jX P f=true/\esz≠0/\
 ∀(C:bF) (w:World) (vs:List Value),(∀b o v,C b o v->w.cell? ⟨b,o,none⟩=some v)->af C A vs->
  Calls P f vs.toArray w λe w'=>∃v us q c,e= .returned (yG v us)/\Below w.heap.size w w'/\af (oC C w.heap.size q w') ys us/\
   ((q=none/\v= .slice none 0 0/\m=0/\cells=[]/\c=0)\/∃b arr,q=some b/\v= .slice (some ⟨b,0,none⟩) m c/\m<=c/\w.heap.size<=b/\w'.heap[b]? =some (.cells arr ty (0,0))/\
     arr.size=c*esz/\cells.length<=arr.size/\c<=maxLen/\∀(i:Nat) x,cells[i]? =some x->∃u,arr[i]? =some u/\u.oneCell'=true/\aU (oC C w.heap.size q w') x u)
def B5(n m:Nat)(ys:List PV):AV:=match ys with
 |[] => .own (sit n 0) 0 m
 |ys=> .tup (.own (sit n 0) 0 m::ys.map .p)
def Hk(P:Program)(f:FuncId)(A:List PV)(ty esz:Nat)(cells:List PV)(m:Nat)(ys:List PV):Prop:=jX P f=true/\esz≠0/\
 ∀(C:bF) (w:World) (vs:List Value),(∀b o v,C b o v->w.cell? ⟨b,o,none⟩=some v)->af C A vs->
  Calls P f (Value.slice none 0 0::vs).toArray w λe w'=>∃v us q c,e= .returned (yG v us)/\Below w.heap.size w w'/\af (oC C w.heap.size q w') ys us/\
   ((q=none/\v= .slice none 0 0/\m=0/\cells=[]/\c=0)\/∃b arr,q=some b/\v= .slice (some ⟨b,0,none⟩) m c/\m<=c/\w.heap.size<=b/\w'.heap[b]? =some (.cells arr ty (0,0))/\
     arr.size=c*esz/\cells.length<=arr.size/\c<=maxLen/\∀(i:Nat) x,cells[i]? =some x->∃u,arr[i]? =some u/\u.oneCell'=true/\aU (oC C w.heap.size q w') x u)
def Ag(P:Program)(n:Nat)(f:FuncId)(avs:List AV)(K:Res):Prop:=
 ∃A ty esz cells m ys,((bG avs=some A/\vF P f A ty esz cells m ys)\/∃r,avs= .nil::r/\bG r=some A/\Hk P f A ty esz cells m ys)/\K (B5 n m ys) [] [(sit n 0,some ⟨ty,esz,cells.map .p⟩)]
def Br(P:Program)(n:Nat)(fv:AV)(args:List AV)(K:Res):Prop:=match fv with
 | .fn (.func f) first caps=>Ag P n f (first++args++caps) K
 | .p (.fn (.func f) first caps)=>Ag P n f (first.map .p++args++caps.map .p) K
 |_=>False
section
variable {P:Program} {o:Oper} {E:Operand->AV} {σ:Nat->Option Ob} {n:Nat}
def af.Pk{ρ:Ren}{C:bF}:∀{l:List PV} {vs:List Value},af C l vs->ak ρ C (l.map .p) vs
 |[],vs,h=>by exact h
 |x::l,vs,h=>by
  obtain⟨v,r,rfl,h2,h3⟩:=h;exact⟨v,r,rfl,by exact h2,af.Pk h3⟩
def We{c:Call}{f:Operand}(ho:o.op= .call c)(hc:c.callee= .value f){K:Res}(h:Br P n (E f) (c.args.toList.map E) K):∃r R W,bR P o E σ n r R W/\K r R W:=by
 have hfm:f∈o.op.operands.toList:=by rw[ho];simp[cU,jI,hc]
 have ham:∀x∈c.args.toList,x∈o.op.operands.toList:=by intro x hx;rw[ho];simp[cU,jI];exact .inr (by grind)
 have key:∀(fid:FuncId) (first caps:List AV),(∀ρ C v,aR ρ C (E f) v->∃vs1 vs2:List Value,v= .func (.func fid) vs1.toArray vs2.toArray/\ak ρ C first vs1/\ak ρ C caps vs2)->
   Ag P n fid (first++c.args.toList.map E++caps) K->∃r R W,bR P o E σ n r R W/\K r R W:=by
  intro fid first caps hfv ⟨A,ty,esz,cells,m,ys,hA,hK⟩
  obtain⟨hok,he,hcalls⟩:jX P fid=true/\esz≠0/\∀(ρ:Ren) (C:bF) (w:World) (vs:List Value),(∀b o v,C b o v->w.cell? ⟨b,o,none⟩=some v)->ak ρ C (first++c.args.toList.map E++caps) vs->
   Calls P fid vs.toArray w λe w'=>∃v us q c,e= .returned (yG v us)/\Below w.heap.size w w'/\af (oC C w.heap.size q w') ys us/\
    ((q=none/\v= .slice none 0 0/\m=0/\cells=[]/\c=0)\/∃b arr,q=some b/\v= .slice (some ⟨b,0,none⟩) m c/\m<=c/\w.heap.size<=b/\w'.heap[b]? =some (.cells arr ty (0,0))/\
      arr.size=c*esz/\cells.length<=arr.size/\c<=maxLen/\∀(i:Nat) x,cells[i]? =some x->∃u,arr[i]? =some u/\u.oneCell'=true/\aU (oC C w.heap.size q w') x u):=by
   rcases hA with⟨hA,h1,h2,h3⟩|⟨r,hr,hA,h1,h2,h3⟩
   .exact⟨h1,h2,λρ C w vs hC h=>h3 C w vs hC (qX hA h)⟩
   .refine⟨h1,h2,λρ C w vs hC h=> ?_⟩;rw[hr]at h;obtain⟨v,vs',rfl,h4,h5⟩:=h;subst h4;exact h3 C w vs' hC (qX hA h5)
  refine⟨_,_,_,?_,hK⟩;intro C0 ρ g V w B hs hB hR hn hgn hE;have hn:=hn _ (gm n 0);have hgn:=hgn _ (gm n 0);have hcl:∀s,cls s≠n->s≠sit n 0:=λs h e=>h (by rw[e];exact gm n 0);obtain⟨vs1,vs2,hv,q1,q2⟩:=hfv _ _ _ (hE f hfm);have hargs:∀l:List Operand,(∀x∈l,x∈o.op.operands.toList)->ak ρ (bE C0 B w ρ g) (l.map E) (l.map (bI V)):=by
   intro l;induction l with
   |nil=>intro _;rfl
   |cons x l ih=>
    unfold ak;grind
  have hall:=(q1.append (hargs _ ham)).append q2;have hrun:(execOp (bI V) o).run P w= .ok (.enter fid (vs1++c.args.toList.map (bI V)++vs2).toArray) w:=by
   unfold execOp;rw[ho];have e2:vs1.toArray++s8 (bI V) c.args++vs2.toArray=(vs1++c.args.toList.map (bI V)++vs2).toArray:=by apply ol.1;simp
   simp only[resolve,hc,hv,s9,cn,dZ,cp,invoke,kk hok,e2]
  have hlive:∀s ob b c,g s=some ob->ρ s=some (some b,c)->b<w.heap.size:=by intro s ob b c e1 e2;obtain⟨_,arr,e3⟩:=hs.at e1 e2;exact e3.lt
  unfold cI;rw[hrun];dsimp only;refine(hcalls ρ (bE C0 B w ρ g) w _ (λb o v h=>h.1) hall).mono ?_;rintro e w' ⟨v,us,q,c,rfl,hbel,hys,hrow⟩;have hqb:∀b,q=some b->w.heap.size<=b:=by
   intro b hb;rcases hrow with⟨h1,_⟩|⟨b',arr,h1,_,_,h4,_⟩
   .grind
   .grind
  have hold:∀b,b<w.heap.size->w'.heap[b]? =w.heap[b]? :=λb hb=>hbel.block b hb;unfold B5;generalize hnS:sit n 0=nS at*
  let ρ':Ren:=λs=>if s=nS then some (q,c)else ρ s
  have hρn:ρ' nS=some (q,c):=if_pos rfl;have hρs:∀s,s≠nS->ρ' s=ρ s:=by grind
  have hup:∀s,s≠nS->ao g [(nS,some ⟨ty,esz,cells.map .p⟩)] s=g s:=by intro s h;unfold ao;simp[gh,beq_eq_false_iff_ne.2 h]
  have hmono:∀b o' x,bE C0 B w ρ g b o' x->bE C0 B w' ρ' (ao g [(nS,some ⟨ty,esz,cells.map .p⟩)]) b o' x:=by
   intro b o' x ⟨e1,e2,e0⟩;have hlt:=jh w ⟨b,o',none⟩ e1;refine⟨(i6 (hold b hlt)).trans e1,λs c' e3=> ?_,e0⟩;by_cases hsn:s=nS
   .grind
   .grind
  have hkeep:∀b o' x,oC (bE C0 B w ρ g) w.heap.size q w' b o' x->bE C0 B w' ρ' (ao g [(nS,some ⟨ty,esz,cells.map .p⟩)]) b o' x:=by
   rintro b o' x (h1|⟨h1,h2,h3⟩)
   .grind
   .refine⟨h3,λs c' e3=> ?_,by grind⟩;by_cases hsn:s=nS
    .grind
    .rw[hup s hsn];cases hgs:g s with
     |none=>rfl
     |some ob=>grind
  refine⟨_,rfl,ρ',by grind,hmono,?_,?_,hbel.mono hB⟩
  .refine hs.step (by grind) (by grind) hmono ?_ ?_ (by grind)
   .grind
   .intro s o' hso;have hsn:s=nS:=by
     rcases om s nS with h|h
     .grind
     .exact h
    subst hsn;simp[gh]at hso;subst hso;refine⟨q,c,hρn,?_⟩;rcases hrow with⟨h1,h2,h3,h4,h5⟩|⟨b,arr,h1,h2,h3,h4,h5,h6,h7,h8,h9⟩
    .grind
    .refine .inr ⟨b,arr,h1,by grind,⟨h5,by grind,by grind,λi x hi=> ?_⟩,λs' o2 c' hne hg' hr'=> ?_⟩
     .rw[fy]at hi;cases hci:cells[i]? with
      |none=>grind
      |some y=>
       rw[hci]at hi;simp only[eI,fZ]at hi;subst hi;obtain⟨u,k1,k2,k3⟩:=h9 i y hci;exact⟨u,k1,k2,by exact aU.mono hkeep y u k3⟩
     grind
  .have hown:aR ρ' (bE C0 B w' ρ' (ao g [(nS,some ⟨ty,esz,cells.map .p⟩)])) (.own nS 0 m) v:=by
    unfold aR;refine⟨q,c,hρn,?_⟩;rcases hrow with⟨h1,h2,h3,_⟩|⟨b,arr,h1,h2,h3,_⟩
    .grind
    .grind
   have hys2:ak ρ' (bE C0 B w' ρ' (ao g [(nS,some ⟨ty,esz,cells.map .p⟩)])) (ys.map .p) us:=(af.mono hkeep ys us hys).Pk;cases ys with
   |nil=>
    have:us=[] :=by have:=hys.length;simpa using this
    subst this;exact hown
   |cons y ys=>
    have hne:us≠[] :=λh=>by have:=hys.length;grind
    cases us with
    |nil=>grind
    |cons u us=>
     refine⟨v::u::us,rfl,?_⟩;unfold ak;grind
 unfold Br at h;split at h
 .rename_i fid first caps e
  refine key fid first caps (λρ C v hv=> ?_) h
  rw[e]at hv;exact hv
 .rename_i fid first caps e
  refine key fid _ _ (λρ C v hv=> ?_) h;rw[e]at hv;obtain⟨vs1,vs2,h1,h2,h3⟩:=hv;exact⟨vs1,vs2,h1,h2.toA,h3.toA⟩
 grind
end
end
section
section
variable {P:Program} {o:Oper} {E:Operand->AV} {σ:Nat->Option Ob} {n:Nat}
def Pm(P:Program)(n:Nat)(t:TypeId)(x y:AV)(K:Res):Prop:=∃(k1 k2:IntKind) (m:Nat) (e:TypeId) (z:List AV) (i:TypeInfo),x= .p (.int k1 m)/\y= .p (.int k2 m)/\dG P t=some e/\P.info? e=some i/\
 pZ P e=some z/\pY P e=true/\z≠[]/\m*aZ P e<=1000000/\m*i.bytes<=1000000000/\K (.own (sit n 0) 0 m) [] [(sit n 0,some ⟨e,aZ P e,mB m z⟩)]
def Le{t e:TypeId}{i:TypeInfo}{zv:Value}{m:Nat}{k1 k2:IntKind}(he:dG P t=some e)(hi:P.info? e=some i)(hiz:i.zero=some zv)(hsz:aZ P e=zv.cells.size)(hpos:0<zv.cells.size)(h1:m*aZ P e<=1000000)(h2:m*i.bytes<=1000000000)(w:World):
  (Instr.makeSlice t (.int k1 m) (.int k2 m)).run P w= .ok (.slice (some ⟨w.heap.size,0,none⟩) m m) (w.alloc (.cells (cO m zv.cells.toList).flatten.toArray e)):=by
 have hm:m<=1000000:=by have:m<=m*aZ P e:=SK _ (by omega);omega
 have wl:ic.wrap (m:Int)=m:=by rw[IntKind.wrap_i64];omega
 have n1:¬(m:Int)<0:=by omega
 have n2:¬(281474976710656<(i.bytes:Int)*m):=by have h3:((m*i.bytes:Nat):Int)<=((1000000000:Nat):Int):=Int.ofNat_le.2 h2;rw[Nat.mul_comm,Int.natCast_mul]at h3;omega
 have n4:¬(m:Int)<m:=by omega
 have e3:∀w:World,(sizeOf e).run P w= .ok (aZ P e) w:=λw=>by simp[sizeOf,typeInfo,hi,aZ]
 have e4:∀w:World,(zeroValue e).run P w= .ok zv w:=λw=>by simp[zeroValue,typeInfo,hi,hiz]
 have e5:(if m*aZ P e=0 then #[]else(IB (m*aZ P e)).map (λj=>zv.cells[j % zv.cells.size]!))=(cO m zv.cells.toList).flatten.toArray:=by
  split
  .rename_i h0;have:m=0:=by
    rcases H9.1 h0 with h|h
    .exact h
    .omega
   grind
  .rw[hsz];apply ol.1;rw[Lj zv.cells hpos m]
 rw[<-e5];by_cases h0:m*aZ P e=0
 .have:m=0:=by
   rcases H9.1 h0 with h|h
   .exact h
   .omega
  subst this;have w0:ic.wrap 0=0:=by simpa using wl
  simp[w0,Instr.makeSlice,asInt,asIntOf,run_underlying (kq he),typeInfo,hi,askRoom,newRow,sizeOf];grind
 .simp[Instr.makeSlice,asInt,asIntOf,run_underlying (kq he),typeInfo,hi,wl,n1,n2,n4,askRoom,e3,e4,h0,newRow]
def Xm{t:TypeId}{a b:Operand}(ho:o.op= .makeSlice t a b){K:Res}(h:Pm P n t (E a) (E b) K):∃r R W,bR P o E σ n r R W/\K r R W:=by
 obtain⟨k1,k2,m,e,z,i0,ha,hb,he,hi0,hz,hz1,hne,h1,h2,hK⟩:=h;refine⟨_,_,_,bR.alloc ?_,hK⟩;intro ρ C V w hE;obtain⟨i,zv,hi,hiz,hsz,hone,rfl⟩:=wg hz hz1;rw[hi0]at hi;cases hi;have hsize:aZ P e=zv.cells.size:=by simp[aZ,hi0,hsz]
 have hpos:0<zv.cells.size:=by
  rcases rF zv.cells.size with h|h
  .grind
  .exact h
 have hones:gP (cO m zv.cells.toList).flatten:=by intro u hu;simp only[kh,SJ]at hu;obtain⟨l',⟨_,rfl⟩,hu⟩:=hu;exact hone u hu
 have va:bI V a= .int k1 m:=by have:=hE a (by rw[ho];simp[cU]);rw[ha]at this;unfold aR at this;unfold aU at this;exact this
 have vb:bI V b= .int k2 m:=by have:=hE b (by rw[ho];simp[cU]);rw[hb]at this;unfold aR at this;unfold aU at this;exact this
 have hlen:(cO m zv.cells.toList).flatten.length=m*aZ P e:=by rw[hsize];simp
 have hl2:(mB m (zv.cells.toList.map kE)).length=m*aZ P e:=by rw[C9,cL,yb,hsize]
 refine⟨.slice (some ⟨w.heap.size,0,none⟩) m m,(cO m zv.cells.toList).flatten.toArray,m,?_,λh=>by grind,λ_=> ?_,?_,hones,λρ' C' h=> ?_⟩
 .unfold execOp;rw[ho];dsimp only;rw[va,vb];have:=Le (k1:=k1) (k2:=k2) he hi0 hiz hsize hpos h1 h2 w;simp[this]
 .refine⟨?_,?_,?_⟩
  .omega
  .grind
  .have:m<=m*aZ P e:=SK _ (by omega);unfold maxLen;omega
 .rw[gu (by grind)];exact Dk _ m
 .unfold aR;grind
def C3{α:Type}(g0:Nat->Nat)(x:α)(s:Nat):∀l:List Nat,(l.map λi=>(g0 i,x)).lookup s=if s∈l.map g0 then some x else none
 |[] =>rfl
 |i::l=>by
  rw[cT,dS,C3 g0 x s l,cT];grind
def bR.fam{r:AV}{ob iob:Ob}{g0:Nat->Nat}{m0:Nat}(hi1:iob.esz≠0)(hi2:iob.cells=[])(hg0:∀i,cls (g0 i)=n)(hg1:∀i,g0 i≠sit n 0)
  (h:∀(ρ:Ren) (C:bF) (V:Nat->Value) (w:World),(∀x∈o.op.operands.toList,aR ρ C (E x) (bI V x))->
  ∃v arr c,(execOp (bI V) o).run P w= .ok (.value v) (w.alloc (.cells arr ob.ty))/\(ob.esz=0->arr.size=ob.cells.length)/\(ob.esz≠0->arr.size=c*ob.esz/\ob.cells.length<=arr.size/\c<=maxLen)/\
   gP arr.toList/\∀(ρ':Ren) (C':bF),ρ' (sit n 0)=some (some w.heap.size,c)->(∀i,i<m0->ρ' (g0 i)=some (none,0))->ak ρ' C' ob.cells (arr.toList.take ob.cells.length)/\aR ρ' C' r v):
  bR P o E σ n r [] ((sit n 0,some ob)::(bP m0).map λi=>(g0 i,some iob)):=by
 intro C0 ρ g V w B hs hB _ hn hgn hE;have hcl:∀s,cls s≠n->s≠sit n 0:=λs h e=>h (by rw[e];exact gm n 0);have hcl2:∀s,s∈(bP m0).map g0->cls s=n:=λs hs=>by grind
 have hmem:∀i,i<m0->g0 i∈(bP m0).map g0:=λi hi=>List.mem_map_of_mem (bz.2 hi);have hm:cls (sit n 0)=n:=gm n 0;generalize sit n 0=m at*;obtain⟨v,arr,c,hrun,h1,h2,h4,h5⟩:=h ρ _ V w hE;unfold cI;rw[hrun];dsimp only;have hblk:(w.alloc (.cells arr ob.ty)).heap[w.heap.size]? =some (.cells arr ob.ty (0,0)):=heap_alloc_new w _;generalize hM:(bP m0).map g0=M at*
 let ρ':Ren:=λs=>if s=m then some (some w.heap.size,c)else if s∈M then some (none,0)else ρ s
 have hext:∀s q,ρ s=some q->ρ' s=some q:=by intro s q hq;show(if s=m then _ else _)=_;rw[if_neg (λe=>by grind),if_neg (λe=>by grind)];exact hq
 have hlt:∀s ob b c,g s=some ob->ρ s=some (some b,c)->b<w.heap.size:=by intro s ob b c e1 e2;obtain⟨_,arr,e3⟩:=hs.at e1 e2;exact e3.lt
 have hold:∀b,b<w.heap.size->(w.alloc (.cells arr ob.ty)).heap[b]? =w.heap[b]? :=λb hb=>Below.heap_alloc w _ b hb;generalize hW:((m,some ob)::(bP m0).map λi=>(g0 i,some iob))=W;have hlk:∀s,W.lookup s=if s=m then some (some ob)else if s∈M then some (some iob)else none:=by
  intro s;rw[<-hW,dS,C3,hM];by_cases e:s=m
  .grind
  .grind
 have hup:∀s,s≠m->s∉M->ao g W s=g s:=by intro s h1 h2;unfold ao;rw[hlk,if_neg h1,if_neg h2]
 have hmono:∀b o' x,bE C0 B w ρ g b o' x->bE C0 B (w.alloc (.cells arr ob.ty)) ρ' (ao g W) b o' x:=by
  intro b o' x ⟨e1,e2,e0⟩;have hb:b<w.heap.size:=jh w ⟨b,o',none⟩ e1;refine⟨(i6 (hold b hb)).trans e1,?_,e0⟩;intro s c' e3;by_cases e:s=m
  .grind
  .grind
 have k5:=λC'=>h5 ρ' C' (by simp[ρ']) (λi hi=>by grind)
 refine⟨ρ',λs hs=> ?_,hmono,?_,(k5 _).2,(Below.refl B w).alloc hB _⟩
 .grind
 refine hs.step ?_ hext hmono ?_ ?_ λc es clock hc=>hold c (qn hc)
 .grind
 .grind
 .intro s ob' e;rw[hlk]at e;by_cases e1:s=m
  .rw[if_pos e1]at e;subst e1;have e2:ob'=ob:=by cases e;rfl
   subst e2;refine⟨some w.heap.size,c,by simp[ρ'],.inr ⟨w.heap.size,arr,rfl,hB,⟨hblk,h1,h2,?_⟩,?_⟩⟩
   .intro i x hi;obtain⟨u,g1,g2⟩:=(k5 _).1.get _ _ i x hi;rw[og]at g1;split at g1
    .exact⟨u,by grind,h4 u (List.mem_of_getElem? g1),g2⟩
    .cases g1
   grind
  .rw[if_neg e1]at e;by_cases e':s∈M
   .rw[if_pos e']at e;cases e;exact⟨none,0,by grind,.inl ⟨rfl,hi1,hi2,rfl⟩⟩
   grind
def Ox(P:Program)(n:Nat)(t:TypeId)(x y:AV)(K:Res):Prop:=∃(g0:Nat->Nat) (ity:TypeId) (wd:Nat) (k1 k2:IntKind) (m:Nat) (e:TypeId) (i:TypeInfo),x= .p (.int k1 m)/\y= .p (.int k2 m)/\dG P t=some e/\P.info? e=some i/\
 pZ P e=some [.nil]/\pY P e=true/\wd≠0/\(∀i,cls (g0 i)=n)/\(∀i,g0 i≠sit n 0)/\m<=1000000/\m*i.bytes<=1000000000/\
 K (.own (sit n 0) 0 m) [] ((sit n 0,some ⟨e,1,(bP m).map λj=> .own (g0 j) 0 0⟩)::(bP m).map λj=>(g0 j,some ⟨ity,wd,[]⟩))
def Tw{α:Type}(v:α):∀m,(cO m [v]).flatten=cO m v
 |0=>rfl
 |m+1=>by simp_all
def V2{t:TypeId}{a b:Operand}(ho:o.op= .makeSlice t a b){K:Res}(h:Ox P n t (E a) (E b) K):∃r R W,bR P o E σ n r R W/\K r R W:=by
 obtain⟨g0,ity,wd,k1,k2,m,e,i0,ha,hb,he,hi0,hz,hz1,hwd,hg0,hg1,h1,h2,hK⟩:=h;refine⟨_,_,_,bR.fam (iob:=⟨ity,wd,[]⟩) hwd rfl hg0 hg1 ?_,hK⟩;intro ρ C V w hE;obtain⟨i,zv,hi,hiz,hsz,hone,hzv⟩:=wg hz hz1;rw[hi0]at hi;cases hi;have hnil:zv.cells.toList=[.slice none 0 0] :=by have h3:ak ρ C (zv.cells.toList.map kE) zv.cells.toList:=tQ _;rw[show zv.cells.toList.map kE=[.nil]from hzv.symm]at h3;unfold ak at h3;obtain⟨v,r,h4,h5,h6⟩:=h3;unfold ak at h6;unfold aR at h5;rw[h4,h5,h6]
 have hsize:aZ P e=zv.cells.size:=by simp[aZ,hi0,hsz]
 have hs1:zv.cells.size=1:=by rw[<-yb,hnil];rfl
 have va:bI V a= .int k1 m:=by have:=hE a (by rw[ho];simp[cU]);rw[ha]at this;unfold aR at this;unfold aU at this;exact this
 have vb:bI V b= .int k2 m:=by have:=hE b (by rw[ho];simp[cU]);rw[hb]at this;unfold aR at this;unfold aU at this;exact this
 have hlist:(cO m zv.cells.toList).flatten=cO m (.slice none 0 0):=by rw[hnil,Tw]
 refine⟨.slice (some ⟨w.heap.size,0,none⟩) m m,(cO m zv.cells.toList).flatten.toArray,m,?_,(λh=>absurd h Nat.one_ne_zero),λ_=> ?_,?_,λρ' C' h h'=>⟨?_,?_⟩⟩
 .unfold execOp;rw[ho];dsimp only;rw[va,vb];have:=Le (k1:=k1) (k2:=k2) he hi0 hiz hsize (by omega) (by grind) h2 w;simp[this]
 .rw[hlist];refine⟨by simp,by simp,?_⟩;unfold maxLen;omega
 .intro u hu;simp only[kh,SJ]at hu;obtain⟨l',⟨_,rfl⟩,hu⟩:=hu;exact hone u hu
 .rw[hlist];rw[gu (by simp)];refine ak.of _ _ (by simp) λj x hj=> ?_;rw[fy]at hj;by_cases hjm:j<m
  .rw[List.getElem?_range hjm]at hj;cases hj;refine⟨.slice none 0 0,by simp[hjm],?_⟩;unfold aR;grind
  grind
 .unfold aR;grind
end
end
abbrev Sto:=Nat->Option Ob
def AOp(P:Program)(n:Nat)(o:Oper)(E:Operand->AV)(σ:Nat->Option Ob)(K:Res):Prop:=match o.op with
 | .move x=>K (E x) [] []
 | .assign x=>K (E x) [] []\/(E x= .nil/\K (.p (.sl 0 [])) [] [])
 | .pick c a b=>uh (E c) (E a) (E b) λr=>K r [] []
 | .alloc t=>PL P n t K
 | .box t x=>Ry n t (E x) K
 | .build t parts=>PE P t (parts.toList.map λq=>(q.1,E q.2)) λr=>K r [] []
 | .buildSlice t len parts=>OL P n t len (parts.toList.map λq=>(q.1,E q.2)) K
 | .load t x=>(match E x with
   | .p (.pro cs off)=>Gt P t cs off λr=>K (.p r) [] []
   | .ptr s off=>∃ob,σ s=some ob/\qu P t ob.cells off λr=>K r [s] []
   |_=>False)
 | .store t a x=>uP P t σ (E a) (E x) K
 | .nilCheck x=>CA (E x)=true/\K (E x) [] []
 | .binOp op t x y _=>vC P op t (E x) (E y) λr=>K r [] []
 | .unOp op _ x=>unA op (E x) λr=>K r [] []
 | .convert s d x=>Bo P s d (E x) λr=>K r [] []
 | .makeFunc f first caps=>K (.fn f (first.toList.map E) (caps.toList.map E)) [] []
 | .slice t x lo hi none=>uQ P t (E x) (loA E lo 0) (loA E hi (BH (E x))) λr=>K r [] []
 | .fieldAddr t x f=>GQ P t f (E x) λr=>K r [] []
 | .field t x f=>GO P t f (E x) λr=>K r [] []
 | .indexAddr t x i=>BL P t (E x) (E i) λr=>K r [] []
 | .extract x i=>x8 (E x) i λr=>K r [] []
 | .call {callee:= .value f,args, .. }=>Bs P σ (E f) (args.toList.map E) K\/Br P n (E f) (args.toList.map E) K
 | .call {callee:= .builtin .len,args:=⟨[x]⟩,argTypes:=⟨[t]⟩}=>CC P t (E x) λr=>K r [] []
 | .call {callee:= .builtin .append,args:=⟨[x,y]⟩,argTypes:=⟨[t,t']⟩}=>(dG P t').isSome=true/\yM P n t σ (E x) (E y) K
 | .call {callee:= .builtin .min,args:=⟨[x,y]⟩, .. }=>mmA min (E x) (E y) λr=>K r [] []
 | .call {callee:= .builtin .max,args:=⟨[x,y]⟩, .. }=>mmA max (E x) (E y) λr=>K r [] []
 | .makeSlice t a b=>Pm P n t (E a) (E b) K\/Ox P n t (E a) (E b) K
 |_=>False
def Wm{P:Program}{n:Nat}{o:Oper}{E:Operand->AV}{σ:Nat->Option Ob}{K:Res}(h:AOp P n o E σ K):∃r R W,bR P o E σ n r R W/\K r R W:=by
 have lift:∀{K':AV->Prop} {R:List Nat},(∃r,bR P o E σ n r R []/\K' r)->(∀r,K' r->K r R [])->∃r R W,bR P o E σ n r R W/\K r R W:=by grind
 unfold AOp at h;split at h
 .rename_i x ho;exact⟨_,_,_,L7 (.inl ho),h⟩
 .rename_i x ho;exact Or.elim h (λh=>⟨_,_,_,L7 (.inr ho),h⟩) (λh=>⟨_,_,_,WI (.inr ho) h.1,h.2⟩)
 .rename_i ho;exact lift (XW ho h) λ_ h=>h
 .rename_i ho;exact Wo ho h
 .rename_i ho;exact Zr ho h
 .rename_i ho;exact lift (Wh ho h) λ_ h=>h
 .rename_i ho;exact U7 ho h
 .rename_i ho;split at h
  .rename_i e;obtain⟨r,h1,h2⟩:=V3 (o:=o) (σ:=σ) (n:=n) ho e h;grind
  .rename_i e;obtain⟨ob,h1,h2⟩:=h;obtain⟨r,h3,h4⟩:=V4 (o:=o) (n:=n) ho e h1 h2;grind
  grind
 .rename_i ho;exact VI ho h
 .rename_i ho;exact⟨_,_,_,ZE ho h.1,h.2⟩
 .rename_i ho;exact lift (Zs ho h) λ_ h=>h
 .rename_i ho;exact lift (Z0 ho h) λ_ h=>h
 .rename_i ho;exact lift (YL ho h) λ_ h=>h
 .rename_i ho;exact⟨_,_,_,Xj ho,h⟩
 .rename_i ho;exact lift (VO ho h) λ_ h=>h
 .rename_i ho;exact lift (WF ho h) λ_ h=>h
 .rename_i ho;exact lift (WE ho h) λ_ h=>h
 .rename_i ho;exact lift (V9 ho h) λ_ h=>h
 .rename_i ho;exact lift (YB ho h) λ_ h=>h
 .rename_i ho;exact Or.elim h (YP ho rfl) (We ho rfl)
 .rename_i ho;exact lift (ZP ho h) λ_ h=>h
 .rename_i ho;exact Zv h.1 ho h.2
 .rename_i ho;exact lift (ZK ho h) λ_ h=>h
 .rename_i ho;exact lift (ZM ho h) λ_ h=>h
 .rename_i ho;exact Or.elim h (Xm ho) (V2 ho)
 grind
structure St(C0:bF)(B:Nat)(wI:World)(F:List AV)(σ:Nat->Option Ob)(N:Nat)(a:Act)(w:World):Prop where
 ex:∃ρ:Ren,StR C0 ρ σ w B/\(∀s,N<=cls s->ρ s=none)/\∀t,aR ρ (bE C0 B w ρ σ) (F.getD t .any) (a.tmps.getD t Go.undef)
 le:B<=w.heap.size
 defers:a.defers=[]
 size:a.tmps.size=F.length
 below:Below B wI w
def PA(ops:List Oper)(j:Nat):((ops.map (·.dst))[j]?).join=(ops[j]?).bind (·.dst):=by grind
def gdA(ds:List (Option Nat))(F:List AV)(j:Nat):Option (Option Bool):=match(ds[j]?).join with
 |some d=>(match F.getD d .any with| .p (.bool b)=>some (some b)| .undef=>some none|_=>none)
 |none=>none
def eL(F:List AV)(d:Option Nat)(r:AV):List AV:=match d with|some d=>F.set d r|none=>F
abbrev iu:=List (List Nat×List Nat)
def inC(R Rc:List Nat):Prop:=∀s∈R,cls s∈Rc
def eP(P:Program)(N:Nat)(ds:List (Option Nat)):List Oper->Nat->List AV->Sto->iu->(List AV->Sto->iu->Prop)->Prop
 |[],_,F,L,log,K=>K F L log
 |o::rest,i,F,L,log,K=>match o.guard with
  |none=>∃r R W Rc Wc,bR P o (jt F) L (N+i) r R W/\inC R Rc/\inC (W.map (·.1)) Wc/\eP P N ds rest (i+1) (eL F o.dst r) (ao L W) (log++[(Rc,Wc)]) K
  |some (j,want)=>(match gdA ds F j with
   |some (some b)=>if b=want then∃r R W Rc Wc,bR P o (jt F) L (N+i) r R W/\inC R Rc/\inC (W.map (·.1)) Wc/\eP P N ds rest (i+1) (eL F o.dst r) (ao L W) (log++[(Rc,Wc)]) K
    else eP P N ds rest (i+1) (eL F o.dst .undef) L (log++[([],[])]) K
   |some none=>eP P N ds rest (i+1) (eL F o.dst .undef) L (log++[([],[])]) K
   |none=>False)
structure Tr where
 r:AV
 R:List Nat
 W:List (Nat×Option Ob)
 Rc:List Nat
 Wc:List Nat
instance:Inhabited Tr:=⟨⟨.any,[],[],[],[]⟩⟩
def iY(ops:List Oper)(tr:Nat->Tr)(F0:List AV):Nat->List AV
 |0=>F0
 |k+1=>eL (iY ops tr F0 k) ((ops[k]?).bind (·.dst)) (tr k).r
def sgD(tr:Nat->Tr)(σ0:Nat->Option Ob)(D:Nat->Bool):Nat->Nat->Option Ob
 |0=>σ0
 |k+1=>if D k=true then ao (sgD tr σ0 D k) (tr k).W else sgD tr σ0 D k
def pV(tr:Nat->Tr)(n:Nat):iu:=(bP n).map λk=>((tr k).Rc,(tr k).Wc)
def pX(P:Program)(N:Nat)(ops:List Oper)(F0:List AV)(σ0:Nat->Option Ob)(tr:Nat->Tr)(k:Nat):Prop:=
 ∀o,ops[k]? =some o->(((o.guard=none\/∃j b,o.guard=some (j,b)/\gdA (ops.map (·.dst)) (iY ops tr F0 k) j=some (some b))/\
   bR P o (jt (iY ops tr F0 k)) (sgD tr σ0 (λ_=>true) k) (N+k) (tr k).r (tr k).R (tr k).W/\inC (tr k).R (tr k).Rc/\inC ((tr k).W.map (·.1)) (tr k).Wc)\/
  (∃j want q,o.guard=some (j,want)/\gdA (ops.map (·.dst)) (iY ops tr F0 k) j=some q/\q≠some want/\tr k=⟨.undef,[],[],[],[]⟩))
def wX(ops:List Oper)(F0:List AV){tr tr':Nat->Tr}:∀k,(∀j,j<k->tr j=tr' j)->iY ops tr F0 k=iY ops tr' F0 k
 |0,_=>rfl
 |k+1,h=>by simp only[iY];rw[wX ops F0 k (λj hj=>h j (by omega)),h k (by omega)]
def tZ(σ0:Nat->Option Ob){tr tr':Nat->Tr}{D D':Nat->Bool}:∀k,(∀j,j<k->tr j=tr' j)->(∀j,j<k->D j=D' j)->sgD tr σ0 D k=sgD tr' σ0 D' k
 |0,_,_=>rfl
 |k+1,h,h2=>by simp only[sgD];rw[tZ σ0 k (λj hj=>h j (by omega)) (λj hj=>h2 j (by omega)),h k (by omega),h2 k (by omega)]
def TS{P:Program}{N:Nat}{ops:List Oper}{F0:List AV}{σ0:Nat->Option Ob}{tr tr':Nat->Tr}{k:Nat}(h:∀j,j<=k->tr j=tr' j)(hg:pX P N ops F0 σ0 tr k):pX P N ops F0 σ0 tr' k:=by unfold pX at*;rw[wX ops F0 k (λj hj=>(h j (by omega)).symm),tZ (D':=λ_=>true) σ0 k (λj hj=>(h j (by omega)).symm) (λ_ _=>rfl),<-h k (bQ _)];exact hg
def mo(tr:Nat->Tr)(i:Nat)(x:Tr):Nat->Tr:=λk=>if k=i then x else tr k
def LH{tr:Nat->Tr}{i:Nat}{x:Tr}{k:Nat}(h:k<i):tr k=mo tr i x k:=by unfold mo;grind
def J0{P:Program}{N:Nat}{ops:List Oper}{F0:List AV}{L0:Sto}{K:List AV->Sto->iu->Prop}:
  ∀(rest:List Oper) (i:Nat) (F:List AV) (L:Sto) (log:iu) (tr:Nat->Tr),i<=ops.length->ops.drop i=rest->F=iY ops tr F0 i->L=sgD tr L0 (λ_=>true) i->log=pV tr i->
   (∀k,k<i->pX P N ops F0 L0 tr k)->eP P N (ops.map (·.dst)) rest i F L log K->
   ∃(tr':Nat->Tr) (L':Sto),(∀k,k<ops.length->pX P N ops F0 L0 tr' k)/\L'=sgD tr' L0 (λ_=>true) ops.length/\K (iY ops tr' F0 ops.length) L' (pV tr' ops.length)
 |[],i,F,L,log,tr,hil,hd,hF,hL,hlog,hg,h=>by
  have hi:i=ops.length:=by have:=congrArg fW hd;simp at this;omega
  subst hi;unfold eP at h;grind
 |o::rest,i,F,L,log,tr,hil,hd,hF,hL,hlog,hg,h=>by
  have hlt:i<ops.length:=by have:=congrArg fW hd;simp at this;omega
  have ho:ops[i]? =some o:=by have:=congrArg (λl=>l[0]?) hd;simpa using this
  have hd':ops.drop (i+1)=rest:=by have:=congrArg List.tail hd;simpa using this
  have step:∀(x:Tr),pX P N ops F0 L0 (mo tr i x) i->eP P N (ops.map (·.dst)) rest (i+1) (eL F o.dst x.r) (ao L x.W) (log++[(x.Rc,x.Wc)]) K->
    ∃(tr':Nat->Tr) (L':Sto),(∀k,k<ops.length->pX P N ops F0 L0 tr' k)/\L'=sgD tr' L0 (λ_=>true) ops.length/\K (iY ops tr' F0 ops.length) L' (pV tr' ops.length):=by
   intro x hgx hx;have hc:∀j,j<i->tr j=mo tr i x j:=λj hj=>LH hj;have hxi:mo tr i x i=x:=by unfold mo;rw[if_pos rfl]
   refine J0 rest (i+1) _ _ _ (mo tr i x) hlt hd' ?_ ?_ ?_ ?_ hx
   .simp only[iY,ho,qD,hxi];rw[hF,wX ops F0 i hc]
   .simp only[sgD,if_true,hxi];rw[hL,tZ (D':=λ_=>true) L0 i hc (λ_ _=>rfl)]
   .unfold pV at hlog|-;rw[List.range_succ,dQ,List.map_singleton,hxi,hlog];simp_all
   .intro k hk;by_cases e:k=i
    .grind
    .exact TS (by grind) (hg k (by omega))
  have hc:∀x:Tr,∀j,j<i->mo tr i x j=tr j:=λx j hj=>(LH hj).symm;have hxi:∀x:Tr,mo tr i x i=x:=λx=>by unfold mo;grind
  have mkG:∀x:Tr,(o.guard=none\/∃j b,o.guard=some (j,b)/\gdA (ops.map (·.dst)) F j=some (some b))->bR P o (jt F) L (N+i) x.r x.R x.W->inC x.R x.Rc->inC (x.W.map (·.1)) x.Wc->pX P N ops F0 L0 (mo tr i x) i:=by intro x h1 h2 h3 h4 o' ho';rw[ho]at ho';cases ho';rw[wX ops F0 i (hc x),tZ (D':=λ_=>true) L0 i (hc x) (λ_ _=>rfl),<-hF,<-hL,hxi];grind
  unfold eP at h;split at h
  .rename_i hgd;obtain⟨r,R,W,Rc,Wc,h1,i1,i2,h2⟩:=h;exact step ⟨r,R,W,Rc,Wc⟩ (by grind) h2
  .rename_i j want hgd;have skip:∀q,gdA (ops.map (·.dst)) F j=some q->q≠some want->eP P N (ops.map (·.dst)) rest (i+1) (eL F o.dst .undef) L (log++[([],[])]) K->
     ∃(tr':Nat->Tr) (L':Sto),(∀k,k<ops.length->pX P N ops F0 L0 tr' k)/\L'=sgD tr' L0 (λ_=>true) ops.length/\K (iY ops tr' F0 ops.length) L' (pV tr' ops.length):=by
    intro q hq hne hx;refine step ⟨.undef,[],[],[],[]⟩ ?_ hx;intro o' ho';rw[ho]at ho';cases ho';rw[wX ops F0 i (hc _),<-hF,hxi];grind
   split at h
   .rename_i b hb;split at h
    .rename_i e;subst e;obtain⟨r,R,W,Rc,Wc,h1,i1,i2,h2⟩:=h;exact step ⟨r,R,W,Rc,Wc⟩ (by grind) h2
    simp_all
   .grind
   grind
def GW(ops:List Oper):List (List Nat):=
 ops.foldl (λacc o=>acc++[(o.after.toList.filter (gg .any)).foldl (λs e=>s++(e.on::acc.getD e.on []).filter λx=> !s.contains x) []]) []
def F6(o:Oper):List Nat:=o.op.operands.toList.filterMap λx=>match x with| .tmp t=>some t|_=>none
def okE(l:List Oper)(anc:List (List Nat)):Bool:=
 (bP l.length).all λi=>
  (((l[i]?).map λo=>(o.after.toList.all λe=> !gg .any e||(decide (e.on<i)&&(fk anc i).contains e.on))&&o.dst !=some 1000000).getD false)&&
  ((fk anc i).all λj=>decide (j<i)&&(((l[i]?).map λo=>o.after.toList.any λe=>gg .any e&&(e.on==j||(fk anc e.on).contains j)).getD false))&&
  ((bP l.length).all λj=>j==i||dc l j !=dc l i||dc l i==1000000)
def Bi(ops:List Oper)(anc:List (List Nat)):Bool:=
 okE ops anc&&
 ((bP ops.length).all λi=>((ops[i]?).map λo=>
   ((F6 o).all λt=>(bP ops.length).all λj=>j==i||dc ops j !=t||(fk anc i).contains j||(fk anc j).contains i)&&
   (match o.guard with|none=>true|some (j,_)=>(fk anc i).contains j&&((ops[j]?).bind (·.dst)).isSome)).getD false)
def Bq(a b:List Nat×List Nat):Bool:=a.2.any (λs=>b.1.contains s||b.2.contains s)||a.1.any (λs=>b.2.contains s)
def xe(anc:List (List Nat))(log:iu):Bool:=(bP log.length).all λi=>(bP i).all λj=> !Bq (log.getD i ([],[])) (log.getD j ([],[]))||(fk anc i).contains j
def Vw{ops:List Oper}{anc:List (List Nat)}(h:okE ops anc=true):
  (∀(i:Nat) o,ops[i]? =some o->(∀e∈o.after.toList,gg .any e=true->e.on<i/\(fk anc i).contains e.on=true)/\
    (∀j,(fk anc i).contains j=true->j<i/\∃e∈o.after.toList,gg .any e=true/\(e.on=j\/(fk anc e.on).contains j=true))/\(∀d,o.dst=some d->dc ops i=d/\d≠1000000)/\(o.dst=none->dc ops i=1000000))/\
  ∀i j,i<ops.length->j<ops.length->j≠i->dc ops j=dc ops i->dc ops i=1000000:=by
 unfold okE at h;rw[bZ]at h;have hget:∀(i:Nat) o,ops[i]? =some o->i<ops.length:=by grind
 refine⟨?_,?_⟩
 .intro i o ho;have h1:=h i (bz.2 (hget i o ho));simp only[bm]at h1;obtain⟨⟨h2,h3⟩,_⟩:=h1;rw[ho]at h2;refine⟨?_,?_,?_,?_⟩
  .grind
  .intro j hj;rw[bZ]at h3;have:=h3 j (by grind);simp only[bm,decide_eq_true_eq]at this;obtain⟨h4,h5⟩:=this;refine⟨h4,?_⟩;rw[ho]at h5;simp only[eI,kj,lO,bm,je,beq_iff_eq]at h5;exact h5
  .intro d hd;refine⟨by unfold dc;grind,?_⟩;grind
  .unfold dc;grind
 .intro i j hi hj hne he;have h1:=h i (bz.2 hi);grind
def aAb{tr:Nat->Tr}{σ0:Nat->Option Ob}{D:Nat->Bool}{s i n:Nat}(hin:i<=n)
  (hlo:∀k,k<i->(tr k).W.lookup s≠none->D k=true) (hhi:∀k,i<=k->k<n->(tr k).W.lookup s≠none->D k=false):
  sgD tr σ0 D n s=sgD tr σ0 (λ_=>true) i s:=by
 have h1:∀m,m<=i->sgD tr σ0 D m s=sgD tr σ0 (λ_=>true) m s:=by
  intro m;induction m with
  |zero=>intro _;rfl
  |succ m ih=>
   intro hm;simp only[sgD,if_true];cases hD:D m with
   |true=>unfold ao;grind
   |false=>
    unfold ao;grind
 have h2:∀m,i<=m->m<=n->sgD tr σ0 D m s=sgD tr σ0 D i s:=by
  intro m;induction m with
  |zero=>grind
  |succ m ih=>
   intro hi hm;by_cases e:i=m+1
   .rw[e]
   .simp only[sgD];cases hD:D m with
    |false=>grind
    |true=>
     unfold ao;grind
 grind
def JY{W:List (Nat×Option Ob)}{s:Nat}(h:W.lookup s≠none):s∈W.map (·.1):=by grind
def FC{g:Nat->Option Ob}{W:List (Nat×Option Ob)}{s:Nat}(h:W.lookup s=none):ao g W s=g s:=by unfold ao;rw[h]
def DA(F:List AV)(d:Option Nat)(r:AV):(eL F d r).length=F.length:=by cases d<;>simp[eL]
def wN(ops:List Oper)(tr:Nat->Tr)(F0:List AV):∀k,(iY ops tr F0 k).length=F0.length
 |0=>rfl
 |k+1=>by simp only[iY];rw[DA,wN ops tr F0 k]
def C5{ops:List Oper}{tr:Nat->Tr}{F0:List AV}{t j:Nat}(hj:(ops[j]?).bind (·.dst)=some t)(ht:t<F0.length)(hu:∀k,k≠j->(ops[k]?).bind (·.dst)≠some t):∀m,j<m->(iY ops tr F0 m).getD t .any=(tr j).r
 |0,h=>by omega
 |m+1,h=>by
  simp only[iY];by_cases e:m=j
  .subst e;rw[hj];have:=wN ops tr F0 m;simp[eL,de,this,ht]
  .have ih:=C5 (tr:=tr) hj ht hu m (by omega);cases hd:(ops[m]?).bind (·.dst)with
   |none=>simpa[eL]using ih
   |some d=>
    have:d≠t:=by grind
    simp only[eL,de,SL this]at ih|-;exact ih
def Cu{ops:List Oper}{tr:Nat->Tr}{F0:List AV}{t:Nat}:∀m,(∀k,k<m->(ops[k]?).bind (·.dst)≠some t)->(iY ops tr F0 m).getD t .any=F0.getD t .any
 |0,_=>rfl
 |m+1,h=>by
  simp only[iY];have ih:=Cu (tr:=tr) (F0:=F0) m λk hk=>h k (by omega);cases hd:(ops[m]?).bind (·.dst)with
  |none=>simpa[eL]using ih
  |some d=>
   have:d≠t:=by grind
   simp only[eL,de,SL this]at ih|-;exact ih
def zw{ρ:Ren}{C:bF}{F:List AV}{V:Nat->Value}{x:Operand}(h:∀t,x= .tmp t->aR ρ C (F.getD t .any) (V t)):aR ρ C (jt F x) (bI V x):=by
 cases x with
 |tmp t=>exact h t rfl
 |const v=>exact Ti v
 |global g=>trivial
 |func f=>
  exact⟨[],[],rfl,by rfl,by rfl⟩
def zL{P:Program}{o:Oper}{V:Nat->Value}{w:World}{K K':Value->World->Prop}(h:cI P o V w K)(hk:∀v w,K v w->K' v w):cI P o V w K':=by
 unfold cI at h|-;split at h
 .grind
 .grind
 .exact h.mono (by grind)
 omega
def UH{o:Oper}{t:Nat}(h: .tmp t∈o.op.operands.toList):t∈F6 o:=IF.2 (by grind)
def StR.drew{C0:bF}{ρ:Ren}{g:Nat->Option Ob}{w:World}{B:Nat}(h:StR C0 ρ g w B):StR C0 ρ g w.drew B:=by
 refine⟨λs o hg=> ?_,h.inj,h.mpi⟩;obtain⟨q,c,h1,h2|⟨b,arr,h2,h3,h4⟩⟩:=h.ob s o hg
 .exact⟨q,c,h1,.inl h2⟩
 .exact⟨q,c,h1,.inr ⟨b,arr,h2,h3,⟨h4.blk,h4.box,h4.row,h4.cells⟩⟩⟩
def TH{P:Program}{id N:Nat}{ops:List Oper}{Q:Exit->Act->World->Prop}{a0:Act}{w0:World}{C0:bF}{B:Nat}{wI:World}{F0:List AV}{L0:Sto}{K:List AV->Sto->Prop}
  (hm:P.follows .mixedOrders=true) (anc:List (List Nat)) (hok:Bi ops anc=true) (hds:((bP ops.length).all λi=>match(ops[i]?).bind (·.dst)with|some d=>decide (d<F0.length)|none=>true)=true)
  (hS:St C0 B wI F0 L0 N a0 w0) (h:eP P N (ops.map (·.dst)) ops 0 F0 L0 [] λF L log=>xe anc log=true/\K F L)
  (hK:∀F L a w,K F L->F.length=F0.length->St C0 B wI F L (N+ops.length) a w->Q .normal a w):(yX id ops.toArray true).wp P Q a0 w0:=by
 obtain⟨tr,L',hgood,hL',hfeet,hKK⟩:=J0 ops 0 F0 L0 [] default (i5 _) rfl rfl rfl rfl (by grind) h;unfold Bi at hok;rw[bm,bZ]at hok;obtain⟨hokE,hokT⟩:=hok;obtain⟨hop,huq⟩:=Vw hokE;obtain⟨⟨ρ0,hs0,hn0,hf0⟩,hle0,hdf0,hsz0,hbl0⟩:=hS;have hget:∀(i:Nat) o,ops[i]? =some o->i<ops.length:=by grind
 have hat:∀(i:Nat),i<ops.length->∃o,ops[i]? =some o:=λi hi=>⟨_,eZ hi⟩;have hdst:∀(j t:Nat),(ops[j]?).bind (·.dst)=some t->dc ops j=t/\t≠1000000/\j<ops.length/\t<F0.length:=by intro j t hj;obtain⟨o,ho,hd⟩:=qE.1 hj;have:=(hop j o ho).2.2.1 t hd;refine⟨this.1,this.2,hget j o ho,?_⟩;rw[bZ]at hds;have h2:=hds j (bz.2 (hget j o ho));rw[hj]at h2;simpa using h2
 have huniq:∀(j t:Nat),(ops[j]?).bind (·.dst)=some t->∀(k:Nat),k≠j->(ops[k]?).bind (·.dst)≠some t:=by intro j t hj k hk e;obtain⟨h1,h2,h3,_⟩:=hdst j t hj;obtain⟨h4,_,h5,_⟩:=hdst k t e;exact h2 (h1▸huq j k h3 h5 hk (by grind))
 have hclash:∀i k,i<ops.length->k<ops.length->k≠i->∀s,s∈(tr i).R\/s∈(tr i).W.map (·.1)->(tr k).W.lookup s≠none->(k<i->(fk anc i).contains k=true)/\(i<k->(fk anc k).contains i=true):=by
  intro i k hi hk hne s hs hw;have hws:=JY hw;have hin:∀j,j<ops.length->inC (tr j).R (tr j).Rc/\inC ((tr j).W.map (·.1)) (tr j).Wc:=λj hj=>by
   obtain⟨o,ho⟩:=hat j hj;rcases hgood j hj o ho with⟨_,_,h1,h2⟩|⟨_,_,_,_,_,_,h⟩
   .exact⟨h1,h2⟩
   .rw[h];exact⟨λs h=>(cl h).elim,λs h=>(cl h).elim⟩
  have hwc:=(hin k hk).2 s hws;have hsc:cls s∈(tr i).Rc\/cls s∈(tr i).Wc:=hs.imp ((hin i hi).1 s) ((hin i hi).2 s);have hfl:(pV tr ops.length).length=ops.length:=by simp[pV]
  have hfg:∀j,j<ops.length->(pV tr ops.length).getD j ([],[])=((tr j).Rc,(tr j).Wc):=by intro j hj;simp[pV,de,hj]
  unfold xe at hfeet;rw[bZ]at hfeet;have hsym:∀a b:List Nat×List Nat,cls s∈b.2->(cls s∈a.1\/cls s∈a.2)->Bq a b=true/\Bq b a=true:=by
   intro a b hb ha;unfold Bq;refine⟨?_,?_⟩
   .rw[je];rcases ha with ha|ha
    .exact .inr (lO.2 ⟨cls s,ha,by simpa using hb⟩)
    .exact .inl (lO.2 ⟨cls s,ha,by rw[je];exact .inr (by simpa using hb)⟩)
   .rw[je];refine .inl (lO.2 ⟨cls s,hb,?_⟩);rw[je];rcases ha with ha|ha
    .exact .inl (by simpa using ha)
    .exact .inr (by simpa using ha)
  obtain⟨c1,c2⟩:=hsym ((tr i).Rc,(tr i).Wc) ((tr k).Rc,(tr k).Wc) hwc hsc;refine⟨λhlt=> ?_,λhlt=> ?_⟩
  .have:=hfeet i (bz.2 (by rw[hfl];exact hi));rw[bZ]at this;have:=this k (bz.2 hlt);rw[hfg i hi,hfg k hk,c1]at this;simpa using this
  .have:=hfeet k (bz.2 (by rw[hfl];exact hk));rw[bZ]at this;have:=this i (bz.2 hlt);rw[hfg i hi,hfg k hk,c2]at this;simpa using this
 let dsts:List Nat:=(bP ops.length).filterMap λi=>(ops[i]?).bind (·.dst)
 have hdm:∀(t:Nat),t∈dsts↔∃(j:Nat),(ops[j]?).bind (·.dst)=some t:=by intro t;simp only[dsts,IF,bz];exact⟨λ⟨j,_,h⟩=>⟨j,h⟩,λ⟨j,h⟩=>⟨j,(hdst j t h).2.2.1,h⟩⟩
 let G:(Nat->Bool)->(Nat->Value)->World->Prop:=λD V w=>∃ρ:Ren,
  (∀i j,D i=true->(fk anc i).contains j=true->D j=true)/\(∀i,D i=true->i<ops.length)/\
  StR C0 ρ (sgD tr L0 D ops.length) w B/\B<=w.heap.size/\Below B wI w/\
  (∀(j t:Nat),D j=true->(ops[j]?).bind (·.dst)=some t->aR ρ (bE C0 B w ρ (sgD tr L0 D ops.length)) (tr j).r (V t))/\
  (∀(t:Nat),(∀(j:Nat),D j=true->(ops[j]?).bind (·.dst)≠some t)->V t=a0.tmps.getD t Go.undef)/\
  (∀t,aR ρ (bE C0 B w ρ (sgD tr L0 D ops.length)) (F0.getD t .any) (a0.tmps.getD t Go.undef))/\
  (∀k s,D k=false->cls s=N+k->ρ s=none)
 refine TT hm dsts ?_ ?_ G ?_ ?_ ?_
 .rw[bZ];intro i hi;have hi':=bz.1 hi;obtain⟨o,ho⟩:=hat i hi';obtain⟨q1,q3,q4,q5⟩:=hop i o ho;simp only[List.getElem?_toArray,ho,eI,kj,bm];refine⟨?_,?_⟩
  .rw[bZ];intro e he;cases hb:gg .any e with
   |false=>simp
   |true=>simpa using(q1 e he hb).1
  .cases hd:o.dst with
   |none=>rfl
   |some d=>simpa using(hdm d).2 ⟨i,by rw[ho];exact hd⟩
 .intro s hs;obtain⟨j,hj⟩:=(hdm s).1 hs;rw[hsz0];exact(hdst j s hj).2.2.2
 .have e0:sgD tr L0 (λ_=>false) ops.length=L0:=by
   have:∀m,sgD tr L0 (λ_=>false) m=L0:=by
    intro m;induction m with
    |zero=>rfl
    |succ m ih=>exact ih
   exact this _
  refine⟨ρ0,(by grind),(by grind),?_,hle0,hbl0.drew,(by grind),(λt _=>rfl),?_,λk s _ hs=>hn0 s (by omega)⟩
  .rw[e0];exact hs0.drew
  .rw[e0];exact hf0
 .intro i o D V w ho ⟨ρ,g1,g2,g3,g4,g5,g6,g7,g8,g9⟩ hD hpre _;have ho':ops[i]? =some o:=by simpa using ho
  have hi:=hget i o ho';obtain⟨q1,q3,q4,q5⟩:=hop i o ho';have hanc:∀j,(fk anc i).contains j=true->D j=true:=by
   intro j hj;obtain⟨_,e,he,hb,h⟩:=q3 j hj;have:=hpre e he hb;rcases h with rfl|h
   .exact this
   .exact g1 _ _ this h
  have hdesc:∀j,(fk anc j).contains i=true->D j=false:=by
   intro j hj;cases hx:D j with
   |false=>rfl
   |true=>rw[g1 _ _ hx hj]at hD;cases hD
  have hT:=hokT i (bz.2 hi);rw[ho']at hT;simp only[eI,kj,bm]at hT;obtain⟨hT1,hT2⟩:=hT
  let Fi:=iY ops tr F0 i
  have hslot:∀t,t∈F6 o\/(∃(j:Nat) (b:Bool),o.guard=some (j,b)/\(ops[j]?).bind (·.dst)=some t)->aR ρ (bE C0 B w ρ (sgD tr L0 D ops.length)) (Fi.getD t .any) (V t):=by
   intro t ht;have hdone:∀(j:Nat),j<i->(ops[j]?).bind (·.dst)=some t->D j=true:=by
    intro j hji hj;rcases ht with ht|⟨j',b,hg,hj'⟩
    .rw[bZ]at hT1;have:=hT1 t ht;rw[bZ]at this;have:=this j (bz.2 (by omega));simp only[je,beq_iff_eq,bne_iff_ne,ne_eq]at this;rcases this with((h|h)|h)|h
     .omega
     .exact absurd (hdst j t hj).1 h
     .exact hanc j h
     .have h1:=(hop j _ (eZ (by omega))).2.1 i h;omega
    .have:j=j':=by
      rcases om j j' with h|h
      .exact absurd hj (huniq j' t hj' j h)
      .exact h
     subst this;rw[hg]at hT2;simp only[bm]at hT2;exact hanc j hT2.1
   have hnot:∀(j:Nat),i<=j->(ops[j]?).bind (·.dst)=some t->D j=false:=by
    intro j hij hj;by_cases e:j=i
    .rw[e];exact hD
    rcases ht with ht|⟨j',b,hg,hj'⟩
    .rw[bZ]at hT1;have:=hT1 t ht;rw[bZ]at this;have:=this j (bz.2 (hdst j t hj).2.2.1);simp only[je,beq_iff_eq,bne_iff_ne,ne_eq]at this;rcases this with((h|h)|h)|h
     .omega
     .exact absurd (hdst j t hj).1 h
     .have:=(q3 j h).1;omega
     .exact hdesc j h
    .have:j=j':=by
      rcases om j j' with h|h
      .exact absurd hj (huniq j' t hj' j h)
      .exact h
     subst this;rw[hg]at hT2;simp only[bm]at hT2;have:=(q3 j hT2.1).1;omega
   by_cases hw:∃(j:Nat),j<i/\(ops[j]?).bind (·.dst)=some t
   .obtain⟨j,hji,hj⟩:=hw;have:=C5 (tr:=tr) hj (hdst j t hj).2.2.2 (huniq j t hj) i hji;rw[this];exact g6 j t (hdone j hji hj) hj
   .have:=Cu (ops:=ops) (tr:=tr) (F0:=F0) (t:=t) i λk hk e=>hw ⟨k,hk,e⟩;rw[this,g7 t λj hDj e=> ?_]
    .exact g8 t
    .rcases nF j i with h|h
     .exact hw ⟨j,h,e⟩
     .rw[hnot j h e]at hDj;cases hDj
  have hgi:=hgood i hi o ho';have hDset:∀s,sgD tr L0 (λj=>if j=i then true else D j) ops.length s=ao (sgD tr L0 D ops.length) (tr i).W s:=by
   intro s;have hlt:∀m,m<=i->sgD tr L0 (λj=>if j=i then true else D j) m=sgD tr L0 D m:=λm hm=>tZ _ m (λ_ _=>rfl) (λj hj=>by rw[if_neg (by omega)]);cases hl:(tr i).W.lookup s with
   |none=>
    rw[FC hl];have:∀m,i<m->sgD tr L0 (λj=>if j=i then true else D j) m s=sgD tr L0 D m s:=by
     intro m;induction m with
     |zero=>omega
     |succ m ih=>
      intro hm;by_cases e:m=i
      .subst e;simp only[sgD,if_true,hD,qB,if_false];rw[FC hl,hlt m (bQ _)]
      .simp only[sgD,if_neg e];cases hDm:D m with
       |false=>exact ih (by omega)
       |true=>simp only[if_true];unfold ao;rw[ih (by omega)]
    exact this _ hi
   |some x=>
    have:∀m,i<m->m<=ops.length->sgD tr L0 (λj=>if j=i then true else D j) m s=x:=by
     intro m;induction m with
     |zero=>omega
     |succ m ih=>
      intro hm hmn;by_cases e:m=i
      .subst e;simp only[sgD,if_true];unfold ao;rw[hl]
      .simp only[sgD,if_neg e];have hlm:D m=true->(tr m).W.lookup s=none:=by
        intro hDm;cases hl2:(tr m).W.lookup s with
        |none=>rfl
        |some y=>
         have:=(hclash i m hi (by omega) e s (.inr (JY (by rw[hl];simp))) (by rw[hl2];simp)).2 (by omega);rw[hdesc m this]at hDm;cases hDm
       cases hDm:D m with
       |false=>exact ih (by omega) (by omega)
       |true=>simp only[if_true];rw[FC (hlm hDm)];exact ih (by omega) (by omega)
    rw[this _ hi (bQ _)];unfold ao;rw[hl]
  have key:∀(ρ':Ren) (v:Value) (w':World),(∀s,cls s≠N+i->ρ' s=ρ s)->
    (∀b o' x,bE C0 B w ρ (sgD tr L0 D ops.length) b o' x->bE C0 B w' ρ' (ao (sgD tr L0 D ops.length) (tr i).W) b o' x)->
    StR C0 ρ' (ao (sgD tr L0 D ops.length) (tr i).W) w' B->aR ρ' (bE C0 B w' ρ' (ao (sgD tr L0 D ops.length) (tr i).W)) (tr i).r v->Below B w w'->
    G (λj=>if j=i then true else D j) (match o.dst with|some d=>λs=>if s=d then v else V s|none=>V) w':=by
   intro ρ' v w' k1 k2 k3 k4 k5;have hsg:sgD tr L0 (λj=>if j=i then true else D j) ops.length=ao (sgD tr L0 D ops.length) (tr i).W:=funext hDset;have hext:∀s q,ρ s=some q->ρ' s=some q:=by intro s q hq;rw[k1 s (λe=>by rw[g9 i s hD e]at hq;cases hq)];exact hq
   have hVd:∀(t:Nat),(ops[i]?).bind (·.dst)=some t->(match o.dst with|some d=>λs=>if s=d then v else V s|none=>V) t=v:=by intro t ht;rw[ho']at ht;have:o.dst=some t:=ht;rw[this];simp
   have hVn:∀(t:Nat),(ops[i]?).bind (·.dst)≠some t->(match o.dst with|some d=>λs=>if s=d then v else V s|none=>V) t=V t:=by
    intro t ht;rw[ho']at ht;cases hd:o.dst with
    |none=>rfl
    |some d=>
     have:t≠d:=λe=>ht (by rw[e];exact hd);simp[this]
   show G _ _ _;refine⟨ρ',?_,?_,by rw[hsg];exact k3,cR g4 k5.size,g5.trans k5,?_,?_,?_,?_⟩
   .intro i' j h1 h2;dsimp only at h1|-;by_cases e:j=i
    .rw[if_pos e]
    .rw[if_neg e];by_cases e':i'=i
     .subst e';exact hanc j h2
     .rw[if_neg e']at h1;exact g1 _ _ h1 h2
   .intro i' h1;dsimp only at h1;by_cases e':i'=i
    .rw[e'];exact hi
    .rw[if_neg e']at h1;exact g2 _ h1
   .intro j t h1 h2;dsimp only at h1;rw[hsg];by_cases e:j=i
    .subst e;rw[hVd t h2];exact k4
    .rw[if_neg e]at h1;rw[hVn t (huniq j t h2 i (λh=>e h.symm))];exact aR.mono hext k2 _ _ (g6 j t h1 h2)
   .intro t ht;rw[hVn t (ht i (by simp))];refine g7 t λj hj=>ht j ?_;dsimp only;by_cases e:j=i
    .rw[if_pos e]
    .rw[if_neg e];exact hj
   .intro t;rw[hsg];exact aR.mono hext k2 _ _ (g8 t)
   .intro k s hk hs;dsimp only at hk;by_cases e:k=i
    .rw[if_pos e]at hk;cases hk
    .rw[if_neg e]at hk;rw[k1 _ (by omega)];exact g9 k s hk hs
  have hgv:∀j b q,o.guard=some (j,b)->gdA (ops.map (·.dst)) Fi j=some q->gdV ops.toArray V j=q:=by
   intro j b q hg hq;unfold gdA at hq;rw[PA]at hq;cases hd:(ops[j]?).bind (·.dst)with
   |none=>rw[hd]at hq;cases hq
   |some d=>
    rw[hd]at hq;have hrep:=hslot d (.inr ⟨j,b,hg,hd⟩);unfold gdV;rw[show(ops.toArray[j]?).bind (·.dst)=some d by simpa using hd];dsimp only at hq|-;split at hq
    .rename_i bb e;rw[e]at hrep;cases hq;rw[hrep]
    .rename_i e;rw[e]at hrep;cases hq;rw[hrep];rfl
    .cases hq
  rcases hgi with⟨hgd,hsim,_,_⟩|⟨j,want,q,hgd,hq,hne,htr⟩
  .have hwant:iK o (gdV ops.toArray V)=true:=by
    unfold iK;rcases hgd with h|⟨j,b,h,hq⟩
    .rw[h]
    .rw[h];dsimp only;rw[hgv j b _ h hq];simp
   rw[if_pos hwant];have hsg:∀s,s∈(tr i).R\/s∈(tr i).W.map (·.1)->sgD tr L0 D ops.length s=sgD tr L0 (λ_=>true) i s:=by
    intro s hs;refine aAb (Nat.le_of_lt hi) ?_ ?_
    .intro k hk hw;exact hanc k ((hclash i k hi (by omega) (by omega) s hs hw).1 hk)
    .intro k hk1 hk2 hw;by_cases e:k=i
     .rw[e];exact hD
     .exact hdesc k ((hclash i k hi hk2 e s hs hw).2 (by omega))
   have hgn:∀s,cls s=N+i->sgD tr L0 D ops.length s=none:=by
    intro s hs;cases hx:sgD tr L0 D ops.length s with
    |none=>rfl
    |some ob=>obtain⟨q,c,h1,_⟩:=g3.ob _ _ hx;rw[g9 i s hD hs]at h1;cases h1
   refine zL (hsim C0 ρ _ V w B g3 g4 (λs hs=>hsg s (.inl hs)) (λs hs=>g9 i s hD hs) hgn ?_) ?_
   .intro x hx;refine zw λt e=> ?_;subst e;exact hslot t (.inl (UH hx))
   .rintro v w' ⟨ρ',k1,k2,k3,k4,k5⟩;exact key ρ' v w' k1 k2 k3 k4 k5
  .have hwant:iK o (gdV ops.toArray V)=false:=by unfold iK;rw[hgd];dsimp only;rw[hgv j want _ hgd hq];simpa using hne
   rw[hwant,if_neg (by simp)];have e1:(tr i).W=[] :=by rw[htr]
   have e2:(tr i).r= .undef:=by rw[htr]
   refine key ρ Go.undef w (λ_ _=>rfl) ?_ ?_ ?_ (Below.refl _ _)
   .rw[e1];exact λ_ _ _ h=>h
   .rw[e1];exact g3
   .rw[e2];rfl
 .intro D V w ⟨ρ,g1,g2,g3,g4,g5,g6,g7,g8,g9⟩ hall;simp only[List.size_toArray]at hall;have hsg:sgD tr L0 D ops.length=L':=by rw[hL'];exact tZ _ _ (λ_ _=>rfl) (λj hj=>hall j hj)
  obtain⟨p1,p2,p3⟩:=yz V dsts a0 (λs hs=>by obtain⟨j,hj⟩:=(hdm s).1 hs;rw[hsz0];exact(hdst j s hj).2.2.2)
  refine hK _ L' _ w hKK (wN _ _ _ _) ⟨⟨ρ,by rw[<-hsg];exact g3,?_,?_⟩,g4,p1.trans hdf0,by rw[p2,hsz0,wN],g5⟩
  .intro s hs;have:D (cls s-N)=false:=by
    cases hx:D (cls s-N)with
    |false=>rfl
    |true=>have:=g2 _ hx;omega
   exact g9 _ s this (by omega)
  .intro t;rw[<-hsg];by_cases ht:t<a0.tmps.size
   .rw[p3 t ht];by_cases hm:t∈dsts
    .rw[if_pos hm];obtain⟨j,hj⟩:=(hdm t).1 hm;obtain⟨_,_,h3,h4⟩:=hdst j t hj;rw[C5 hj h4 (huniq j t hj) _ h3];exact g6 j t (hall j h3) hj
    .rw[if_neg hm,Cu _ λk _ e=>hm ((hdm t).2 ⟨k,e⟩)];exact g8 t
   .have:(iY ops tr F0 ops.length).getD t .any= .any:=by rw[de,List.getElem?_eq_none (by rw[wN];omega)];rfl
    rw[this];trivial
attribute [irreducible] eP
section
abbrev oM:=Exit->List AV->Sto->Nat->Prop
def Ia{P:Program}{ops:Array Oper}{Q:Exit->Act->World->Prop}{i:Nat}{o:Oper}{a:Act}{w:World}{next:Act->World->Prop}(ho:ops[i]? =some o)
  (h:if iK o (gdV ops λs=>a.tmps.getD s Go.undef)=true then cI P o (λs=>a.tmps.getD s Go.undef) w λv w'=>next (a.put o.dst v) w' else next (a.put o.dst Go.undef) w):wpOp P ops Q i next a w:=by
 unfold wpOp;rw[ho];simp only[];rw[C6];by_cases hw:iK o (gdV ops λs=>a.tmps.getD s undef)=true
 .rw[if_pos hw]at h|-;refine .inl ?_;unfold Oper.wp;rw[Act.eval_evalV];unfold cI at h;cases hr:(execOp (bI λs=>a.tmps.getD s undef) o).run P w with
  |halt x w'=>grind
  |ok n w'=>
   rw[hr]at h;cases n<;>simp only[]at h<;>first|exact h.elim|skip
   .exact h
   .exact h
   .rename_i f args;refine h.mono ?_;grind
 grind
def Lm(a:Act)(d:Option Nat)(v:Value)(t:Nat):(a.put d v).tmps.getD t Go.undef=if d=some t/\t<a.tmps.size then v else a.tmps.getD t Go.undef:=by
 cases d with
 |none=>simp[mL]
 |some d=>
  simp only[mL,fx,vS,fZ];grind
def KL(F:List AV)(d:Option Nat)(r:AV)(t:Nat):(eL F d r).getD t .any=if d=some t/\t<F.length then r else F.getD t .any:=by
 cases d with
 |none=>simp[eL]
 |some d=>
  simp only[eL,de,yZ,fZ];grind
section
variable {P:Program} {C0:bF} {B:Nat} {wI:World}
def St.mono{F:List AV}{σ:Nat->Option Ob}{N N':Nat}{a:Act}{w:World}(h:St C0 B wI F σ N a w)(hN:N<=N'):St C0 B wI F σ N' a w:=by obtain⟨⟨ρ,h1,h2,h3⟩,h4,h5,h6,h7⟩:=h;exact⟨by grind,h4,h5,h6,h7⟩
def zd{ops tail:List Oper}{m N:Nat}{Q:Exit->Act->World->Prop}{K:List AV->Sto->iu->Prop}(hm:m+tail.length=ops.length)(hK:∀F L log a w,K F L log->St C0 B wI F L (N+m) a w->wpOps P ops.toArray Q (Cg m tail.length) a w):
  ∀(rest:List Oper) (i:Nat) (F:List AV) (L:Sto) (log:iu) (a:Act) (w:World),i<=ops.length->ops.drop i=rest++tail->eP P N (ops.map (·.dst)) rest i F L log K->St C0 B wI F L (N+i) a w->wpOps P ops.toArray Q (Cg i (rest.length+tail.length)) a w
 |[],i,F,L,log,a,w,hil,hd,h,hS=>by
  have hi:i=m:=by have:=congrArg fW hd;simp at this;omega
  subst hi;unfold eP at h;grind
 |o::rest,i,F,L,log,a,w,hil,hd,h,hS=>by
  have hlt:i<ops.length:=by have:=congrArg fW hd;simp at this;omega
  have ho:ops[i]? =some o:=by have:=congrArg (λl=>l[0]?) hd;simpa using this
  have hd':ops.drop (i+1)=rest++tail:=by have:=congrArg List.tail hd;simpa using this
  rw[gY,show rest.length+1+tail.length=(rest.length+tail.length)+1 by omega];refine Ia (by simpa using ho) ?_;obtain⟨⟨ρ,s1,s2,s3⟩,s4,s5,s6,s7⟩:=hS;have fin:∀(ρ':Ren) (W:List (Nat×Option Ob)) (r:AV) (v:Value) (w':World) (K':Prop),(∀s,cls s≠N+i->ρ' s=ρ s)->(∀b o' x,bE C0 B w ρ L b o' x->bE C0 B w' ρ' (ao L W) b o' x)->StR C0 ρ' (ao L W) w' B->
    aR ρ' (bE C0 B w' ρ' (ao L W)) r v->Below B w w'->St C0 B wI (eL F o.dst r) (ao L W) (N+(i+1)) (a.put o.dst v) w':=by
   intro ρ' W r v w' _ k1 k2 k3 k4 k5;have hext:∀s q,ρ s=some q->ρ' s=some q:=by intro s q hq;rw[k1 s (by grind)];exact hq
   refine⟨⟨ρ',k3,by grind,λt=> ?_⟩,cR s4 k5.size,by cases hd2:o.dst<;>exact s5,by rw[DA];cases hd2:o.dst<;>simpa[mL]using s6,s7.trans k5⟩;rw[KL,Lm,s6];by_cases e:o.dst=some t/\t<F.length
   .grind
   .rw[if_neg e,if_neg e];exact aR.mono hext k2 _ _ (s3 t)
  have run:(∃r R W Rc Wc,bR P o (jt F) L (N+i) r R W/\inC R Rc/\inC (W.map (·.1)) Wc/\eP P N (ops.map (·.dst)) rest (i+1) (eL F o.dst r) (ao L W) (log++[(Rc,Wc)]) K)->
    cI P o (λs=>a.tmps.getD s Go.undef) w λv w'=>wpOps P ops.toArray Q (Cg (i+1) (rest.length+tail.length)) (a.put o.dst v) w':=by
   rintro⟨r,R,W,Rc,Wc,hsim,_,_,hk⟩;have hgn:∀s,cls s=N+i->L s=none:=by
    intro s hs;cases hx:L s with
    |none=>rfl
    |some ob=>obtain⟨q,c,h1,_⟩:=s1.ob _ _ hx;grind
   refine zL (hsim C0 ρ L _ w B s1 s4 (λ_ _=>rfl) (by grind) hgn (λx _=>zw λt _=>s3 t)) ?_;rintro v w' ⟨ρ',k1,k2,k3,k4,k5⟩;exact zd hm hK rest (i+1) _ _ _ _ w' hlt hd' hk (fin ρ' W r v w' True k1 k2 k3 k4 k5)
  have skip:eP P N (ops.map (·.dst)) rest (i+1) (eL F o.dst .undef) L (log++[([],[])]) K->wpOps P ops.toArray Q (Cg (i+1) (rest.length+tail.length)) (a.put o.dst Go.undef) w:=by intro h;exact zd hm hK rest (i+1) _ _ _ _ w hlt hd' h (fin ρ [] .undef Go.undef w True (λ_ _=>rfl) (λ_ _ _ h=>h) s1 (by rfl) (Below.refl _ _))
  have hgv:∀j b q,o.guard=some (j,b)->gdA (ops.map (·.dst)) F j=some q->gdV ops.toArray (λs=>a.tmps.getD s Go.undef) j=q:=by
   intro j b q hgd hq;unfold gdA at hq;rw[PA]at hq;cases hd:(ops[j]?).bind (·.dst)with
   |none=>grind
   |some d=>
    rw[hd]at hq;have hrep:=s3 d;unfold gdV;rw[show(ops.toArray[j]?).bind (·.dst)=some d by grind];dsimp only at hq|-;split at hq
    .rename_i bb e;unfold aR aU at hrep;grind
    .rename_i e;rw[e]at hrep;cases hq;rw[hrep];rfl
    .cases hq
  unfold eP at h;split at h
  .rename_i hgd;have hw:iK o (gdV ops.toArray λs=>a.tmps.getD s Go.undef)=true:=by unfold iK;rw[hgd]
   grind
  .rename_i j want hgd;split at h
   .rename_i b hb;split at h
    .rename_i e;subst e;have hw:iK o (gdV ops.toArray λs=>a.tmps.getD s Go.undef)=true:=by unfold iK;rw[hgd];dsimp only;rw[hgv j b _ hgd hb];simp
     grind
    .rename_i e;have hw:iK o (gdV ops.toArray λs=>a.tmps.getD s Go.undef)=false:=by unfold iK;rw[hgd];dsimp only;rw[hgv j want _ hgd hb];simpa using e
     grind
   .rename_i hb;have hw:iK o (gdV ops.toArray λs=>a.tmps.getD s Go.undef)=false:=by unfold iK;rw[hgd];dsimp only;rw[hgv j want _ hgd hb];rfl
    grind
   grind
def TG{id N:Nat}{ops:List Oper}{Q:Exit->Act->World->Prop}{a:Act}{w:World}{F:List AV}{L:Sto}{K:List AV->Sto->Prop}
  (hS:St C0 B wI F L N a w) (h:eP P N (ops.map (·.dst)) ops 0 F L [] λF L _=>K F L)
  (hK:∀F L a w,K F L->St C0 B wI F L (N+ops.length) a w->Q .normal a w):(yX id ops.toArray false).wp P Q a w:=by
 refine wp_region ?_;have:=zd (P:=P) (C0:=C0) (B:=B) (wI:=wI) (Q:=Q) (tail:=[]) (m:=ops.length) rfl (λF L _ a w h hS=>hK F L a w h hS) ops 0 F L [] a w (i5 _) (by simp) h (by omega);rw[List.range_eq_range'];omega
def sn(P:Program)(o:Oper)(F:List AV)(L:Sto)(N:Nat)(K:List AV->Sto->Nat->Prop):Prop:=∀(C0:bF) (B:Nat) (wI:World) (a:Act) (w:World),St C0 B wI F L N a w->
 cI P o (λs=>a.tmps.getD s Go.undef) w λv w'=>∃F' L' N',K F' L' N'/\St C0 B wI F' L' N' (a.put o.dst v) w'
def Te{id N:Nat}{pre:List Oper}{o:Oper}{Q:Exit->Act->World->Prop}{a:Act}{w:World}{F:List AV}{L:Sto}{K:List AV->Sto->Nat->Prop}(hgd:o.guard=none)
  (hS:St C0 B wI F L N a w) (h:eP P N ((pre++[o]).map (·.dst)) pre 0 F L [] λF L _=>sn P o F L (N+pre.length) K)
  (hK:∀F L N a w,K F L N->St C0 B wI F L N a w->Q .normal a w):(yX id (pre++[o]).toArray false).wp P Q a w:=by
 refine wp_region ?_;have:=zd (P:=P) (C0:=C0) (B:=B) (wI:=wI) (Q:=Q) (ops:=pre++[o]) (tail:=[o]) (m:=pre.length) (by simp) (λF L _ a w h hS=>by
  refine Ia (o:=o) (by simp) ?_;have hw:iK o (gdV (pre++[o]).toArray λs=>a.tmps.getD s Go.undef)=true:=by unfold iK;rw[hgd]
  rw[if_pos hw];refine zL (h C0 B wI a w hS) ?_;rintro v w' ⟨F',L',N',h1,h2⟩;exact hK F' L' N' _ _ h1 h2) pre 0 F L [] a w (i5 _) (by simp) h (by omega)
 rw[List.range_eq_range'];grind
end
def fV(F:List AV)(L:Sto)(N:Nat)(F':List AV)(L':Sto)(N':Nat):Prop:=∀(C0:bF) (B:Nat) (wI:World) (a:Act) (w:World),St C0 B wI F L N a w->St C0 B wI F' L' N' a w
def fV.rfl{F:List AV}{L:Sto}{N:Nat}:fV F L N F L N:=λ_ _ _ _ _ h=>h
def R0(P:Program)(draw:Bool)(ops:List Oper)(F:List AV)(L:Sto)(N:Nat)(K:List AV->Sto->Prop):Prop:=match draw with
 |true=>∃anc:List (List Nat),P.follows .mixedOrders=true/\Bi ops anc=true/\((bP ops.length).all λi=>match(ops[i]?).bind (·.dst)with|some d=>decide (d<F.length)|none=>true)=true/\eP P N (ops.map (·.dst)) ops 0 F L [] λF L log=>xe anc log=true/\K F L
 |false=>(ops.all (λo=>match o.guard with|none=>true|some (j,_)=>((ops[j]?).bind (·.dst)).isSome)=true)/\eP P N (ops.map (·.dst)) ops 0 F L [] λF L _=>K F L
def awp(P:Program):Code->oM->List AV->Sto->Nat->Prop
 | .skip,Q,F,L,N=>Q .normal F L N
 | .region _ ops draw,Q,F,L,N=>(R0 P draw ops.toList F L N λF L=>Q .normal F L (N+ops.size))\/(draw=false/\∃pre o,ops.toList=pre++[o]/\o.guard=none/\eP P N (ops.toList.map (·.dst)) pre 0 F L [] λF L _=>sn P o F L (N+pre.length) λF L N=>Q .normal F L N)
 | .seq a b,Q,F,L,N=>∃M:List AV->Sto->Nat->Prop,awp P a (λe F L N=>match e with| .normal=>M F L N|e=>Q e F L N) F L N/\∀F L N,M F L N->∃F' L' N',fV F L N F' L' N'/\awp P b Q F' L' N'
 | .cond c t e,Q,F,L,N=>∃b,jt F c= .p (.bool b)/\(b=true->awp P t Q F L N)/\(b=false->awp P e Q F L N)
 | .block id c,Q,F,L,N=>awp P c (λe F L N=>match e with| .exit id'=>if id'=id then Q .normal F L N else Q (.exit id') F L N|e=>Q e F L N) F L N
 | .loop c,Q,F,L,N=>∃(Inv:List AV->Sto->Nat->Prop) (μ:List AV->Sto->Nat->Nat),(∃F' L' N',fV F L N F' L' N'/\Inv F' L' N')/\
    ∀F L N,Inv F L N->awp P c (λe F1 L1 N1=>match e with| .normal=>∃F' L' N',fV F1 L1 N1 F' L' N'/\Inv F' L' N'/\μ F' L' N'<μ F L N|e=>Q e F1 L1 N1) F L N
 | .exit id,Q,F,L,N=>Q (.exit id) F L N
 | .ret,Q,F,L,N=>Q .ret F L N
 | .scope c,Q,F,L,N=>awp P c (λe F L N=>match e with| .goto _=>False|e=>Q e F L N) F L N
 | .label _,Q,F,L,N=>Q .normal F L N
 |_,_,_,_,_=>False
def Ix{P:Program}{c:Code}{Q:Exit->Act->World->Prop}:∀{n:Nat} {a:Act} {w:World},Ch P c Q n a w->Ch P c Q (n+1) a w
 |0,_,_,h=>h.elim
 |n+1,a,w,h=>by
  refine wp_mono h ?_;intro e a w h;cases e<;>first|exact h|exact Ix h
def Vd{P:Program}{c:Code}{Q:Exit->Act->World->Prop}{n m:Nat}(h:n<=m){a:Act}{w:World}(hr:Ch P c Q n a w):Ch P c Q m a w:=by
 induction h with
 |refl=>exact hr
 |step _ ih=>exact Ix ih
def VB{P:Program}{c:Code}{Q:Exit->Act->World->Prop}{a:Act}{w:World}(I:Nat->Act->World->Prop){n:Nat}(h0:I n a w)
  (hr:∀n a w,I n a w->c.wp P (Exit.then (λa' w'=>∃m,m<n/\I m a' w') Q) a w):(Code.loop c).wp P Q a w:=by
 have key:∀n a w,I n a w->Ch P c Q (n+1) a w:=by
  intro n;induction n using Hr with
  |ind n ih=>
   intro a w h;refine wp_mono (hr n a w h) ?_;intro e a' w' h';cases e<;>first|exact h'|skip
   obtain⟨m,hm,hI⟩:=h';exact Vd (by grind) (ih m hm a' w' hI)
 exact wp_loop_rounds (n+1) (key n a w h0)
def EJ{P:Program}{C0:bF}{B:Nat}{wI:World}:∀(c:Code) (Q:oM) (F:List AV) (L:Sto) (N:Nat) (a:Act) (w:World),awp P c Q F L N->St C0 B wI F L N a w->
  c.wp P (λe a' w'=>∃F' L' N',Q e F' L' N'/\St C0 B wI F' L' N' a' w') a w:=by
 intro c;induction c with
 |skip=>intro Q F L N a w h hS;exact wp_skip ⟨F,L,N,h,hS⟩
 |region id ops draw=>
  intro Q F L N a w h hS;rcases h with h|⟨rfl,pre,o,h1,h2,h3⟩
  rotate_left
  .have e:ops=(pre++[o]).toArray:=by rw[<-h1]
   subst e;exact Te h2 hS h3 (by grind)
  cases draw with
  |true=>
   obtain⟨anc,h1,h2,h3,h4⟩:=h;have:=TH (id:=id) (P:=P) (Q:=λe a' w'=>∃F' L' N',Q e F' L' N'/\St C0 B wI F' L' N' a' w') h1 anc h2 h3 hS h4 (by grind);omega
  |false=>
   obtain⟨h1,h4⟩:=h;have:=TG (id:=id) (P:=P) (Q:=λe a' w'=>∃F' L' N',Q e F' L' N'/\St C0 B wI F' L' N' a' w') hS h4 (by grind);omega
 |seq x y ihx ihy=>
  intro Q F L N a w h hS;obtain⟨M,h1,h2⟩:=h;refine wp_seq (wp_mono (ihx _ F L N a w h1 hS) ?_);rintro e a' w' ⟨F',L',N',hq,hs⟩;cases e<;>first|exact⟨F',L',N',hq,hs⟩|(obtain⟨F2,L2,N2,hw,hy⟩:=h2 _ _ _ hq;exact ihy Q F2 L2 N2 a' w' hy (hw C0 B wI a' w' hs))
 |cond c t e iht ihe=>
  intro Q F L N a w h hS;obtain⟨b,hb,h1,h2⟩:=h;obtain⟨⟨ρ,s1,s2,s3⟩,_⟩:=id hS;have hc:a.eval c= .bool b:=by rw[Act.eval_evalV];have:=zw (x:=c) (F:=F) (V:=λs=>a.tmps.getD s undef) (ρ:=ρ) (C:=bE C0 B w ρ L) (λt _=>s3 t);rw[hb]at this;unfold aR aU at this;exact this
  exact wp_cond_split hc (by grind) (by grind)
 |block id c ih=>
  intro Q F L N a w h hS;refine wp_block (wp_mono (ih _ F L N a w h hS) ?_);rintro e a' w' ⟨F',L',N',hq,hs⟩;cases e<;>first|exact⟨F',L',N',hq,hs⟩|skip
  rename_i id';unfold Exit.inBlock;grind
 |loop c ih=>
  intro Q F L N a w h hS;obtain⟨Inv,μ,⟨F0,L0,N0,hw0,hI0⟩,hround⟩:=h;refine VB (λn a w=>∃F L N,Inv F L N/\St C0 B wI F L N a w/\μ F L N=n) ⟨F0,L0,N0,hI0,hw0 C0 B wI a w hS,rfl⟩ ?_;rintro n a' w' ⟨F1,L1,N1,hI1,hS1,rfl⟩;refine wp_mono (ih _ F1 L1 N1 a' w' (hround F1 L1 N1 hI1) hS1) ?_;rintro e a2 w2 ⟨F2,L2,N2,hq,hs⟩;cases e<;>first|exact⟨F2,L2,N2,hq,hs⟩|skip
  obtain⟨F3,L3,N3,hw,hI3,hlt⟩:=hq;exact⟨_,hlt,F3,L3,N3,hI3,hw C0 B wI a2 w2 hs,rfl⟩
 |exit id=>intro Q F L N a w h hS;exact wp_exit ⟨F,L,N,h,hS⟩
 |ret=>intro Q F L N a w h hS;exact wp_ret ⟨F,L,N,h,hS⟩
 |rangeFunc f params x y _ _=>intro Q F L N a w h;exact h.elim
 |scope c ih=>
  intro Q F L N a w h hS;refine wp_scope_straight (wp_mono (ih _ F L N a w h hS) ?_);rintro e a' w' ⟨F',L',N',hq,hs⟩;cases e<;>first|exact hq.elim|exact⟨F',L',N',hq,hs⟩
 |label l=>intro Q F L N a w h hS;exact wp_label ⟨F,L,N,h,hS⟩
 |goto l=>intro Q F L N a w h;exact h.elim
 |refuse s=>intro Q F L N a w h;exact h.elim
section
variable {P:Program} {y:Code} {Q:oM} {F:List AV} {L:Sto} {N:Nat}
def gOk(l:List Oper):Bool:=l.all λo=>match o.guard with|none=>true|some (j,_)=>((l[j]?).bind (·.dst)).isSome
def dOk(l:List Oper)(n:Nat):Bool:=(bP l.length).all λi=>match(l[i]?).bind (·.dst)with|some d=>decide (d<n)|none=>true
def TP{x:Code}(J:List AV->Sto->Nat->Prop)(h1:awp P x (λe F L N=>match e with| .normal=>∃F' L' N',fV F L N F' L' N'/\J F' L' N'|e=>Q e F L N) F L N)(h2:∀F L N,J F L N->awp P y Q F L N):awp P (.seq x y) Q F L N:=
 ⟨λF L N=>∃F' L' N',fV F L N F' L' N'/\J F' L' N',h1,by grind⟩
def YU{c:Code}(Inv:List AV->Sto->Nat->Prop)(μ:List AV->Sto->Nat)(h0:∃F' L' N',fV F L N F' L' N'/\Inv F' L' N')
 (hr:∀F L N,Inv F L N->awp P c (λe F1 L1 N1=>match e with| .normal=>∃F' L' N',fV F1 L1 N1 F' L' N'/\Inv F' L' N'/\μ F' L'<μ F L|e=>Q e F1 L1 N1) F L N):awp P (.loop c) Q F L N:=⟨Inv,λF L _=>μ F L,h0,hr⟩
def Wj{c:Code}(Inv:List AV->Sto->Nat->Prop)(μ:List AV->Sto->Nat->Nat)(h0:∃F' L' N',fV F L N F' L' N'/\Inv F' L' N')
 (hr:∀F L N,Inv F L N->awp P c (λe F1 L1 N1=>match e with| .normal=>∃F' L' N',fV F1 L1 N1 F' L' N'/\Inv F' L' N'/\μ F' L' N'<μ F L N|e=>Q e F1 L1 N1) F L N):awp P (.loop c) Q F L N:=⟨Inv,μ,h0,hr⟩
end
section
variable {P:Program} {N:Nat} {ds:List (Option Nat)} {K:List AV->Sto->iu->Prop}
end
end
end Go.Proofs.YtdaeofhdgabhjaaGreat
