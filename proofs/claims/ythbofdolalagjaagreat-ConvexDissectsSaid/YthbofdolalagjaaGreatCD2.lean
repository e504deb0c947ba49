/- Part 2 of what the statement stands on -/
import Derived.Test.YthbofdolalagjaaGreatCD1
import Derived.WalkKit
import Derived.Below
import Derived.Deep.MidRow
import Derived.Test.YthbofdolalagjaaGreatProg
import Derived.WalkSpells
import Derived.WalkLawsBesides
import Derived.Lib.Hide
import Derived.Deep.QuietTactic
import Derived.BigQuiet
import Derived.WalkSmall
import Derived.Deep.RegionHeld3
import Derived.LoopTactic
import Derived.Orders
import Derived.Laws.OwnMore
import Derived.Maps.AppendAt
import Derived.Laws.Small
set_option linter.all false
set_option maxRecDepth 100000
set_option maxHeartbeats 8000000
open Bool renaming true->aE,eq_false_iff->pZ,false->aK,true_and->jq,eq_iff_iff->gR,not_not->FM,false_eq_true->mf,and_eq_true->cD,eq_false_or_eq_true->WB
open List renaming mem_flatten->ml,mem_append_left->iS,mem_flatMap->dL,mem_cons->bO,not_mem_nil->cp,length->aA,mem_cons_of_mem->cM,mem_cons_self->cR,all_eq_true->cC,mem_append->bz,flatMap_cons->fw,map_append->dV,flatten_cons->mI,nodup_iff_pairwise_ne->oS,pairwise_map->kG,nodup_append->nK,mem_filter->eY,map_cons->dU,sum_cons->oT,length_cons->iE,sum_append->nM,length_append->eR,filter_cons_of_pos->vA,filter_cons_of_neg->FN,Pairwise.and_mem->y5,length_map->dq,map_congr_left->lg,map_nil->qV,range->bT,mem_range->cP,mem_map->bn,nodup_nil->FL,map_map->du,nodup_cons->mo,Pairwise.imp->LY,pairwise_iff_getElem->u5,mem_iff_getElem->gv,append_assoc->kw,singleton_append->FP,perm_append_comm->yu,cons_append->k8,append_of_mem->wh,perm_cons_erase->V9,eq_nil_or_concat->WA,mem_append_right->iF,flatMap_map->LZ,flatMap_append->wi,getElem?_append_right->mg,filter_append->mJ,exists_mem_of_ne_nil->Bh,flatMap_def->LV,Nodup->rV,pairwise_flatten->LX,take_append_drop->vD,mem_singleton->cI,getElem_mem->jr,getElem?_drop->yv,getElem?_take->rQ,length_eq_zero_iff->pg,map_toArray->Lg,length_take->mK,getElem?_map->ip,lookup->jS,replicate->dO,replicate_succ->y9,getElem?_append_left->qU
open Int renaming lt_or_le->cH,mul_pos->bJ,mul_le_mul_of_nonneg_left->dg,add_mul->rT,lt_trichotomy->pX,mul_nonpos_of_nonneg_of_nonpos->rS,mul_eq_zero->dI,mul_neg_of_pos_of_neg->gr,not_le->nL,mul_nonneg->cF,mul_nonpos_of_nonpos_of_nonneg->Bf,le_refl->kY,add_zero->pU,lt_or_gt_of_ne->mc,mul_zero->fP,le_of_lt->fZ,zero_mul->wX,mul_neg->oU,mul_comm->gu,mul_neg_of_neg_of_pos->mH,mul_pos_of_neg_of_neg->yp,mul_nonneg_of_nonpos_of_nonpos->V7
open Nat renaming mod_eq_of_lt->dK,lt_trichotomy->Bd,mod_self->io,mod_lt->cG,mod_add_mod->kW,add_mod_right->mh,lt_or_gt_of_ne->FO,le_refl->bR,lt_or_ge->pV,le_trans->cZ,zero_add->ku,mul_le_mul->rZ,eq_zero_or_pos->rO,mul_eq_zero->Lh,decEq->rb,add_mul->Bo
open Iff renaming rfl->Bg
open Classical renaming byContradiction->dS
open Ne renaming symm->kZ
open Prod renaming snd->Bi
open Option renaming none->aM,some->aD,map_some->fk,getD_some->pf,bind_some->tU,map_eq_some_iff->oW,isSome_iff_exists->rX,bind_eq_some_iff->tV,some.injEq->iG
open Array renaming getElem?_modify->Lb,getD_eq_getD_getElem?->js,getElem?_eq_getElem->Bj,getElem?_setIfInBounds->Bk,replicate->rW,toList_inj->rY,length_toList->Bn,range->Lj
open Go.Region renaming binds->kH,ready->FR,wanted->kI
open Go.Act renaming put->tR
open Go.Instr renaming loadAt->FT,sureAddr->FU,indexAt->Lf,sliceBounds->FX
open Go.Sem renaming run_bind->dY,run_pure->fD
open Go.Op renaming operands->dM,equalIn->wn,intArith->Le,intCmp->Bl
open Go.Result renaming andThen_ok->dr
open Go.Value renaming int->dN,ownBlock->FV,cells->Li
open Go.Addr renaming add_mid->y6
open Go.Call renaming operands->k9
open Go.Obj renaming map->y8
open Go.World renaming block_lt_of_cell?->lj,cell?_of_block->kc,ownsRow_nil->Lk
open Go.RowKit
open Go.Proofs.YthbofdolalagjaaGreat.Geo
namespace Go.Proofs.YthbofdolalagjaaGreat
namespace Geo
def PD{r:aU}(hr:VR r){v:V}(hw:bF v 2000=aE)(h:dB r v≠1):dB r v=if cY r (pt v)then 2 else 0:=by
 have h4:=mM hw (aC:(2000:Int)<=4000);have hp:dP (fL v)=aE:=by rw[B9];exact h4
 unfold dB at h|-;rw[h4]at h|-;rw[Cd hr hp λe he=> ?_]
 .rfl
 refine pZ.2 λho=>h ?_;unfold cE;rw[(ig _).2 hr,hp];exact AU ⟨e,he,ho⟩
def aE6{r:aU}(hr:VR r){v:V}(hw:bF v 2000=aE)(h:dB r v=2):cY r (pt v)=aE:=by have:=PD hr hw aC;grind
def aDU{r:aU}(hr:VR r){v:V}(hw:bF v 2000=aE)(h:dB r v=0):cY r (pt v)=aK:=by have:=PD hr hw aC;grind
section
variable {s:Shape} {D:List S}
variable{r:aU}
def Cm(hr:r∈aR s){v:V}(hv:v∈r):v∈bW s:=ml.2 ⟨r,hr,hv⟩
def qe(hr:r∈aR s){e:S}(he:e∈aW r):sides s D e.a e.b:= .inl (iS _ (dL.2 ⟨r,hr,he⟩))
def zY(T:Tg s D){q:aU}(hr:r∈aR s)(hq:q∈aR s)(hrq:r≠q){v:V}(hv:v∈r){e:S}(he:e∈aW q):v≠e.a/\v≠e.b:=by obtain⟨h1,h2⟩:=jC he;have:=zL (aR s) T.vs.nodup r hr q hq;grind
def G5(T:Tg s D){q:aU}(hr:r∈aR s)(hq:q∈aR s)(hrq:r≠q){a b:V}(ha:a∈r)(hab:sides s D a b):∃N0:Int,∀n,N0<=n->∀p,In (thin a b n) p->cY q p=cY q (pt a):=by
 have N:=T.segs.net;obtain⟨N0,_,h2⟩:=N.thin hab;refine⟨N0,λn hn p hp=>(xd (by have:=(T.vs.ring hq).three;omega) (aC:(0:Int)<1) hp.1 λe he hm=> ?_).symm⟩;obtain⟨x,y,k,t,hx,hy,hxy,hk,ht,g⟩:=hm;have hs:sides s D e.a e.b:=qe hq he;rcases cH 0 t with ht'|ht'
 .obtain⟨f,hf,hle⟩:=h2 n hn e.a e.b hs x y hx hy hxy;dsimp only at hle;have e1:x*ev f (pt e.a)+y*ev f (pt e.b)=k*ev f (pt a)+t*ev f p:=by rw[<-bB,g,bB]
  have p1:=bJ ht' (hp.2 f hf);have p2:0<=ev f (pt a):=by
   have hL:=jw (N.ne hab);unfold thin at hf;simp only[bO,cp,or_false]at hf;rcases hf with rfl|rfl|rfl
   .rw[cN];omega
   .rw[nZ,cN,mP];omega
   .rw[qm,cN,sK,Cv];omega
  have:=mpp hk p2;omega
 .have:t=0:=aC;subst this;have hd:=congrArg P3.d g;simp only[cmb,pt]at hd;have hov:=zY T hr hq hrq ha he;rcases N.clear hs (Cm hr ha) x y k hx hy (by rw[g];unfold cmb;simp) aC with e1|e1
  .grind
  grind
def ZE(T:Tg s D){q:aU}(hr:r∈aR s)(hq:q∈aR s)(hrq:r≠q){e:S}(he:e∈aW r):cY q (pt e.a)=cY q (pt e.b):=by
 have N:=T.segs.net;refine xd (by have:=(T.vs.ring hq).three;omega) (aC:(0:Int)<1) (aC:(0:Int)<1) λd hd hm=> ?_;obtain⟨h1,h2⟩:=jC he;have o1:=zY T hr hq hrq h1 hd;have o2:=zY T hr hq hrq h2 hd;rcases N.off (qe hr he) (qe hq hd)with⟨_,g⟩|⟨g,_⟩|⟨g,_⟩
 .rcases g with g|⟨g,_⟩|⟨g,_⟩|⟨g,_⟩|⟨g,_⟩
  .exact g hm
  .grind
  .grind
  .grind
  grind
 .grind
 grind
def Qg(T:Tg s D){r q:aU}(hr:r∈aR s)(hq:q∈aR s)(hrq:r≠q):∀i,i<aA r->cY q (pt (nth r i))=cY q (pt (nth r 0))
 |0,_=>rfl
 |i+1,hi=>by
  have:=ZE T hr hq hrq (e:=bh r i) (uN (T.vs.ring hr) aC);rw[show(bh r i).b=nth r (i+1) by show nth r ((i+1) % (aA r))=_;rw[dK hi],show(bh r i).a=nth r i from rfl]at this;rw[<-this];exact Qg T hr hq hrq i aC
def R8(T:Tg s D)(hr:r∈s.holes){v:V}(hv:v∈r):dB s.outer v=2:=by obtain⟨i,hi,rfl⟩:=uA hr;have:=T.vs.ins i hi;unfold bm at this;grind
def Dd(T:Tg s D)(hr:r∈s.holes):r≠s.outer:=by intro e;have h:=T.vs;have hv:nth r 0∈r:=fC.2 ⟨0,by have:=(h.ring (cM _ hr)).three;omega,rfl⟩;obtain⟨i,hi,rfl⟩:=uA hr;have ap:=h.apo i hi;rw[e]at ap hv;exact zM h.outer ap hv (uN h.outer (i:=0) aH) (by rw[<-e];exact gn (lH (h.hole i hi).near 0 aH))
def Z3(T:Tg s D){q:aU}(hq:q∈s.holes){v:V}(hv:v∈s.outer):cY q (pt v)=aK:=by
 have h:=T.vs;have N:=T.segs.net;have hq':q∈aR s:=cM _ hq;have ho':s.outer∈aR s:=cR;have hne:=(Dd T hq).symm;have h3:=h.outer.three;have all:=Qg T ho' hq' hne;have li:=nR (r:=s.outer) aC;have low:cY q (pt (nth s.outer (dt s.outer)))=aK:=by
  have hv0:nth s.outer (dt s.outer)∈s.outer:=dh li;have least:∀a∈s.outer,(nth s.outer (dt s.outer)).y<=a.y:=λa ha=>by obtain⟨i,hi,rfl⟩:=fC.1 ha;have:=tf s.outer (aA s.outer) i hi;unfold leV at this;unfold dt;omega
  have below:∀u∈q,(nth s.outer (dt s.outer)).y<=u.y:=λu hu=>by obtain⟨_,_,⟨a,ha,hay⟩,_⟩:=Yf aC (R8 T hq hu);grind
  have fr:=H3 h.outer _ hv0;generalize nth s.outer (dt s.outer)=v0 at*;rw[xd (q:=⟨v0.x,v0.y-5000,1⟩) (by have:=(h.ring hq').three;omega) (aC:(0:Int)<1) aH λe he hm=> ?_]
  .exact RS (by have:=(h.ring hq').three;omega) (H3 (h.ring hq')) aH aH
  .obtain⟨x,y,k,t,hx,hy,hxy,hk,ht,g⟩:=hm;obtain⟨e1,e2⟩:=jC he;have b1:=dg (below _ e1) hx;have b2:=dg (below _ e2) hy;have hov:=zY T ho' hq' hne hv0 he;have gy:=congrArg P3.y g;have gd:=congrArg P3.d g;simp only[cmb,pt]at gy gd;have t0:t=0:=by
    have m1:x*v0.y+y*v0.y=k*v0.y+t*v0.y:=by rw[<-rT,<-rT];congr 1;omega
    have m2:t*(v0.y-5000)=t*v0.y-t*5000:=Int.mul_sub _ _ _;omega
   subst t0;rcases N.clear (qe hq' he) (Cm ho' hv0) x y k hx hy (by rw[g];unfold cmb;simp) aC with e1|e1
   .grind
   grind
 obtain⟨i,hi,rfl⟩:=fC.1 hv;grind
def aCg(T:Tg s D){q:aU}(hr:r∈s.holes)(hq:q∈s.holes)(hrq:r≠q){v:V}(hv:v∈r):cY q (pt v)=aK:=by
 have h:=T.vs;have hw:bF v 2000=aE:=lF h (Cm (cM _ hr) hv);refine aDU (h.ring (cM _ hq)) hw ?_;obtain⟨i,hi,rfl⟩:=uA hr;obtain⟨k,hk,rfl⟩:=uA hq;have key:bm (aP s.holes i) (aP s.holes k) 0=aE:=by
  rcases Bd i k with g|g|g
  .exact h.out2 k i g hk
  .grind
  .exact h.out1 i k g hi
 unfold bm at key;grind
def J1{α:Type}{P:α->Int->Prop}:∀{l:List α},(∀x∈l,∃N0:Int,∀n,N0<=n->P x n)->∃N0:Int,∀n,N0<=n->∀x∈l,P x n
 |[],_=>⟨0,aH⟩
 |x::l,h=>by
  obtain⟨n1,h1⟩:=h x aH;obtain⟨n2,h2⟩:=J1 λy hy=>h y (cM _ hy);refine⟨max n1 n2,λn hn y hy=> ?_⟩;grind
def NL(T:Tg s D){a b:V}(ha:a∈s.outer)(hab:sides s D a b):∃N0:Int,∀n,N0<=n->∀p,In (thin a b n) p->cT s p=cY s.outer p:=by
 obtain⟨N0,h0⟩:=J1 (l:=s.holes) (P:=λq n=>∀p,In (thin a b n) p->cY q p=cY q (pt a)) λq hq=>G5 T cR (cM _ hq) (Dd T hq).symm ha hab;refine⟨N0,λn hn p hp=> ?_⟩;unfold cT;have:(s.holes.all λh=> !(cY h p))=aE:=by rw[cC];intro q hq;rw[h0 n hn q hq p hp,Z3 T hq ha];rfl
 grind
def Oj(T:Tg s D)(hr:r∈s.holes){a b:V}(ha:a∈r)(hab:sides s D a b):∃N0:Int,∀n,N0<=n->∀p,In (thin a b n) p->cT s p= !(cY r p):=by
 have hr':r∈aR s:=cM _ hr;obtain⟨N1,h1⟩:=G5 T hr' cR (Dd T hr) ha hab;obtain⟨N0,h0⟩:=J1 (l:=s.holes) (P:=λq n=>r≠q->∀p,In (thin a b n) p->cY q p=cY q (pt a)) λq hq=>by
  by_cases g:r=q
  .simp_all
  .obtain⟨m,hm⟩:=G5 T hr' (cM _ hq) g ha hab;exact⟨m,aH⟩
 refine⟨max N0 N1,λn hn p hp=> ?_⟩;unfold cT;rw[h1 n aC p hp,aE6 T.vs.outer (lF T.vs (Cm hr' ha)) (R8 T hr ha),jq,gR,cC];refine⟨λg=>g r hr,λg q hq=> ?_⟩;by_cases e:r=q
 .grind
 .rw[h0 n aC q hq e p hp,aCg T hr hq e ha];rfl
def Cu{ins ins':P3->Bool}{a b:V}(h:∃N0:Int,∀n,N0<=n->∀p,In (thin a b n) p->ins p=ins' p):Lft ins a b↔Lft ins' a b:=by
 obtain⟨N0,h⟩:=h;constructor<;>rintro⟨m,g⟩
 .exact⟨max N0 m,aH⟩
 .exact⟨max N0 m,aH⟩
def Rh{W:List V}{side:V->V->Prop}{ins:P3->Bool}(H:Calm W side ins){a b:V}(hab:side a b):Lft (λp=> !ins p) a b↔¬Lft ins a b:=by
 constructor
 .intro h g;exact g.not (H.net.ne hab) h
 .intro h;rcases aE5 H hab with g|g
  .grind
  .exact g
def te(T:Tg s D){e:S}(he:e∈aW s.outer):Lft (cT s) e.a e.b/\¬Lft (cT s) e.b e.a:=by obtain⟨h1,h2⟩:=jC he;have hs:sides s D e.a e.b:=qe cR he;rw[Cu (NL T h1 hs),Cu (NL T h2 hs.symm)];exact⟨T.vs.outer.left he,T.vs.outer.right he⟩
def tq(T:Tg s D)(hr:r∈s.holes){e:S}(he:e∈aW r):Lft (cT s) e.b e.a/\¬Lft (cT s) e.a e.b:=by obtain⟨h1,h2⟩:=jC he;have hs:sides s D e.a e.b:=qe (cM _ hr) he;have hv:=T.vs.ring (cM _ hr);have C:=hv.calm;rw[Cu (Oj T hr h2 hs.symm),Cu (Oj T hr h1 hs),Rh C (.inl he),Rh C (.inr he)];exact⟨hv.right he,λg=>g (hv.left he)⟩
def de(s:Shape):List S:=aW s.outer++(s.holes.flatMap aW).map swp
def z7(s:Shape):ao s=aW s.outer++s.holes.flatMap aW:=by unfold ao aR;grind
def nf(T:Tg s D)(e:S):e∈de s↔eE (ao s) e.a e.b/\Lft (cT s) e.a e.b:=by
 unfold de eE;rw[bz,lJ,z7,bz,bz,dL,dL,dL];constructor
 .rintro(h|⟨r,hr,h⟩)
  .exact⟨.inl (.inl h),(te T h).1⟩
  .exact⟨.inr (.inr ⟨r,hr,h⟩),(tq T hr h).1⟩
 .rintro⟨(h|⟨r,hr,h⟩)|(h|⟨r,hr,h⟩),g⟩
  .exact .inl h
  .exact absurd g (tq T hr h).2
  .exact absurd g (te T h).2
  .exact .inr ⟨r,hr,h⟩
def VS.CJ(h:VS s):(ao s).Nodup:=by
 have hn:=h.nodup;have e:(ao s).map S.a=bW s:=by
  unfold ao bW;have key:∀l:List aU,(∀r∈l,VR r)->(l.flatMap aW).map S.a=l.flatten:=by
   intro l;induction l with
   |nil=>intro _;rfl
   |cons r l ih=>
    intro hl;rw[fw,dV,mI,ih aH,Pe (by have:=(hl r aH).three;omega)]
  exact key _ λr hr=>h.ring hr
 rw[oS,<-e,kG]at hn;exact oS.2 (hn.imp aH)
def Cc(T:Tg s D):(de s).Nodup:=by have hn:=T.vs.CJ;rw[z7,nK]at hn;unfold de;rw[nK];refine⟨hn.1,Ip hn.2.1,λa ha b hb e=> ?_⟩;subst e;rw[lJ,dL]at hb;obtain⟨r,hr,hb⟩:=hb;have e1:=(jC ha).1;have e2:=(jC hb).2;exact Dd T hr (zL (aR s) T.vs.nodup r (cM _ hr) s.outer cR _ e2 e1)
def Il(T:Tg s D){TL:List T3}(A:All3 (bW s) (sides s D) (cT s) TL)(f:S->Int):
  (TL.map λt=>f ⟨t.a,t.b⟩+f ⟨t.b,t.c⟩+f ⟨t.c,t.a⟩).sum=((de s).map f).sum+(D.map λd=>f d+f (swp d)).sum:=by
 rw[A.sum T.filled (ze T (Cc T) λe he=>((nf T e).1 he).1) (DK T (nf T)) f,PL]
end
def Up(x:V):Prop:=0<x.y\/(x.y=0/\0<x.x)
def Dn(x:V):Prop:=x.y<0\/(x.y=0/\x.x<0)
instance(x:V):Decidable (Up x):=by unfold Up;infer_instance
instance(x:V):Decidable (Dn x):=by unfold Dn;infer_instance
def neg(x:V):V:=⟨-x.x,-x.y⟩
def vj(x:V):Up (neg x)↔Dn x:=by unfold Up Dn neg;grind
def uX(x:V):Dn (neg x)↔Up x:=by unfold Up Dn neg;grind
variable{x:V}
def Up.not(h:Up x):¬Dn x:=by unfold Up Dn at*;omega
def J7(x:V):Up x\/Dn x\/x=⟨0,0⟩:=by
 unfold Up Dn;rcases pX x.y 0 with h|h|h
 .omega
 .rcases pX x.x 0 with g|g|g
  .omega
  .exact .inr (.inr (by cases x;grind))
  omega
 omega
def Dh{y z:V}{α β:Int}(hy:Dn y)(hz:Dn z)(ha:0<=α)(hb:0<β):Dn ⟨α*y.x+β*z.x,α*y.y+β*z.y⟩:=by
 unfold Dn at*;dsimp only;have py:y.y<=0:=aC;have pz:z.y<=0:=aC;have m1:α*y.y<=0:=rS ha py;have m2:β*z.y<=0:=rS aC pz;by_cases g:α*y.y+β*z.y<0
 .exact .inl g
 .have e1:α*y.y=0:=aC;have e2:β*z.y=0:=aC;have z0:z.y=0:=by rcases dI.1 e2 with h|h<;>omega
  have m3:β*z.x<0:=gr hb aC;have m4:α*y.x<=0:=by
   rcases dI.1 e1 with h|h
   .grind
   .exact rS ha aC
  omega
def S3{k:Int}(hk:0<k)(h:Dn ⟨k*x.x,k*x.y⟩):Dn x:=by
 unfold Dn at*;dsimp only at h;rcases h with h|⟨h1,h2⟩
 .refine .inl (nL.1 λg=> ?_);have:=cF (aC:0<=k) g;omega
 .refine .inr ⟨by rcases dI.1 h1 with h|h<;>omega,nL.1 λg=> ?_⟩;have:=cF (aC:0<=k) g;omega
def lf(p q:Int)(x:V):Int:=p*x.x+q*x.y
def Iw{y z:V}{p q:Int}(hx:0<lf p q x)(hy:0<lf p q y)(hz:0<lf p q z)(ux:Up x)(dy:Dn y)(dz:Dn z)(h:0<cross x y):0<cross x z:=by
 refine nL.1 λg=> ?_;have e:cross z y*lf p q x= -(cross x z)*lf p q y+cross x y*lf p q z:=by unfold cross lf;grind
 have p1:=cF (aC:0<= -(cross x z)) (aC:0<=lf p q y);have p2:=bJ h hz;have k:0<cross z y:=nL.1 λg'=>by have:=Bf g' (aC:0<=lf p q x);omega
 refine ux.not (S3 k ?_);have ex:cross z y*x.x= -(cross x z)*y.x+cross x y*z.x:=by unfold cross;grind
 have ey:cross z y*x.y= -(cross x z)*y.y+cross x y*z.y:=by unfold cross;grind
 rw[ex,ey];exact Dh dy dz aC h
def Hc(x y:V):cross (neg x) (neg y)=cross x y:=by unfold cross neg;grind
def Jq(p q:Int)(x:V):lf (-p) (-q) (neg x)=lf p q x:=by unfold lf neg;grind
def Q8{y z:V}{p q:Int}(hx:0<lf p q x)(hy:0<lf p q y)(hz:0<lf p q z)(ux:Dn x)(dy:Up y)(dz:Up z)(h:0<cross x y):0<cross x z:=by rw[<-Hc]at h|-;exact Iw (p:= -p) (q:= -q) (by rw[Jq];exact hx) (by rw[Jq];exact hy) (by rw[Jq];exact hz) ((vj x).2 ux) ((uX y).2 dy) ((uX z).2 dz) h
def iI(x y:V):cross y x= -cross x y:=by unfold cross;grind
def DO{y:V}{p q:Int}(hx:0<lf p q x)(hy:0<lf p q y)(ux:Up x)(dy:Dn y):cross x y≠0:=λh=>by
 have e1:lf p q y*x.x=lf p q x*y.x:=by unfold cross lf at*;grind
 have e2:lf p q y*x.y=lf p q x*y.y:=by unfold cross lf at*;grind
 refine ux.not (S3 hy ?_);have:=Dh dy dy (kY 0) hx;grind
def cr(x y:V):Int:=if Up x↔Up y then 0 else sgn (cross x y)
def p9{y:V}(h:Up x↔Up y):cr x y=0:=if_pos h
def o7{y:V}(h:¬(Up x↔Up y)):cr x y=sgn (cross x y):=if_neg h
def C7(n:Int):sgn (-n)= -sgn n:=by unfold sgn;grind
def Sc{m n:Int}(hm:m≠0)(hn:n≠0)(h:0<m↔0<n):sgn m=sgn n:=by unfold sgn;grind
def JO{y z:V}{p q:Int}(hx:0<lf p q x)(hy:0<lf p q y)(hz:0<lf p q z):cr x y+cr y z=cr x z:=by
 have k:∀{x:V},0<lf p q x->¬Up x->Dn x:=λ{x} h g=>by
  rcases J7 x with e|e|e
  .grind
  .exact e
  .rw[e]at h;unfold lf at h;simp at h
 have pair:∀{x y z:V},0<lf p q x->0<lf p q y->0<lf p q z->¬(Up x↔Up y)->(Up y↔Up z)->sgn (cross x y)=sgn (cross x z):=by
  intro x y z hx hy hz h1 h2;by_cases ux:Up x
  .have dy:Dn y:=aH;have dz:Dn z:=aH;exact Sc (DO hx hy ux dy) (DO hx hz ux dz) ⟨Iw hx hy hz ux dy dz,Iw hx hz hy ux dz dy⟩
  .have dx:=k hx ux;have uy:Up y:=aH;have uz:=h2.1 uy;refine Sc (λg=>DO hy hx uy dx (by rw[iI];omega)) (λg=>DO hz hx uz dx (by rw[iI];omega)) ⟨Q8 hx hy hz dx uy uz,Q8 hx hz hy dx uz uy⟩
 by_cases h1:Up x↔Up y
 .rw[p9 h1,Int.zero_add];by_cases h2:Up y↔Up z
  .rw[p9 h2,p9 (h1.trans h2)]
  .rw[o7 h2,o7 aH,iI z y,iI z x,C7,C7,pair hz hy hx aH h1.symm]
 .by_cases h2:Up y↔Up z
  .rw[p9 h2,pU,o7 h1,o7 aH,pair hx hy hz h1 h2]
  .have h3:Up x↔Up z:=by by_cases a:Up x<;>by_cases b:Up y<;>by_cases c:Up z<;>simp_all
   rw[p9 h3,o7 h1,o7 h2,iI y x,C7,pair hy hx hz aH h3];omega
def Mu{p q:V}(h:cross p q≠0):cr p q=cr p ⟨p.x+q.x,p.y+q.y⟩+cr ⟨p.x+q.x,p.y+q.y⟩ q:=by
 have e1:lf (sgn (cross p q)*(q.y-p.y)) (sgn (cross p q)*(p.x-q.x)) p=sgn (cross p q)*cross p q:=by unfold lf cross;grind
 have e2:lf (sgn (cross p q)*(q.y-p.y)) (sgn (cross p q)*(p.x-q.x)) q=sgn (cross p q)*cross p q:=by unfold lf cross;grind
 have e3:lf (sgn (cross p q)*(q.y-p.y)) (sgn (cross p q)*(p.x-q.x)) ⟨p.x+q.x,p.y+q.y⟩=2*(sgn (cross p q)*cross p q):=by unfold lf cross;grind
 have k:0<sgn (cross p q)*cross p q:=by
  rcases mc h with g|g
  .rw[show sgn (cross p q)= -1 by unfold sgn;omega];omega
  .rw[show sgn (cross p q)=1 by unfold sgn;rw[if_pos g]];omega
 exact(JO (by rw[e1];exact k) aC aC).symm
def fH(f:Nat->Int):Nat->Int
 |0=>0
 |k+1=>fH f k+f k
def Gt{f:Nat->Int}:∀k,(∀i,i<k->f i=0)->fH f k=0
 |0,_=>rfl
 |k+1,h=>by unfold fH;rw[Gt k aH,h k aC];rfl
def CP(f:Nat->Int):∀k,fH f (k+1)=f 0+fH (λi=>f (i+1)) k
 |0=>by simp[fH]
 |k+1=>by
  rw[fH,CP f k];show f 0+fH (λi=>f (i+1)) k+f (k+1)=f 0+(fH (λi=>f (i+1)) k+f (k+1));omega
structure Curve(v:Nat->V)(m:Nat):Prop where
 close:v (m+3)=v 0
 least:∀i,0<i->i<m+3->Up (sub (v i) (v 0))
 turn:∀i,i+1<m+3->cross (sub (v (i+1)) (v i)) (sub (v (i+2)) (v (i+1)))≠0
 turn0:cross (sub (v (m+3)) (v (m+2))) (sub (v 1) (v 0))≠0
 apart:∀i j,i+1<j->j<m+3->¬(i=0/\j=m+2)->∃f:P3,ev f (pt (v i))<0/\ev f (pt (v (i+1)))<0/\0<ev f (pt (v j))/\0<ev f (pt (v (j+1)))
section
variable {v:Nat->V} {m:Nat}
def x9(f:P3)(a b:V):lf f.x f.y (sub a b)=ev f (pt a)-ev f (pt b):=by unfold lf sub ev pt;grind
def sub_neg(a b:V):neg (sub a b)=sub b a:=by unfold neg sub;grind
def Curve.cell(C:Curve v m){i j:Nat}(h1:i+1<j)(h2:j<m+3)(h3:¬(i=0/\j=m+2)):
  cr (sub (v j) (v i)) (sub (v (j+1)) (v i))+cr (sub (v (j+1)) (v i)) (sub (v (j+1)) (v (i+1)))=cr (sub (v j) (v i)) (sub (v j) (v (i+1)))+cr (sub (v j) (v (i+1))) (sub (v (j+1)) (v (i+1))):=by
 obtain⟨f,f1,f2,f3,f4⟩:=C.apart i j h1 h2 h3;rw[JO (p:=f.x) (q:=f.y) (by rw[x9];omega) (by rw[x9];omega) (by rw[x9];omega),JO (p:=f.x) (q:=f.y) (by rw[x9];omega) (by rw[x9];omega) (by rw[x9];omega)]
def Curve.col(C:Curve v m){b j:Nat}(hj:j<m+3)(h:b=0->j≠m+2):∀a,b+a<j->
  fH (λi=>cr (sub (v j) (v (b+i))) (sub (v j) (v (b+i+1)))) a+cr (sub (v j) (v (b+a))) (sub (v (j+1)) (v (b+a)))=
  cr (sub (v j) (v b)) (sub (v (j+1)) (v b))+fH (λi=>cr (sub (v (j+1)) (v (b+i))) (sub (v (j+1)) (v (b+i+1)))) a
 |0,_=>by simp[fH]
 |a+1,ha=>by
  have ih:=C.col hj h a aC;have c:=C.cell (i:=b+a) (j:=j) aC hj aC;rw[fH,fH];grind
def Curve.diag(C:Curve v m){i:Nat}(hi:i+1<m+3):cr (sub (v (i+1)) (v i)) (sub (v (i+2)) (v (i+1)))=cr (sub (v (i+1)) (v i)) (sub (v (i+2)) (v i))+cr (sub (v (i+2)) (v i)) (sub (v (i+2)) (v (i+1))):=by
 rw[Mu (C.turn i hi)];have e:(⟨(sub (v (i+1)) (v i)).x+(sub (v (i+2)) (v (i+1))).x,(sub (v (i+1)) (v i)).y+(sub (v (i+2)) (v (i+1))).y⟩:V)=sub (v (i+2)) (v i):=by unfold sub;simp only[V.mk.injEq];omega
 rw[e]
def Curve.part(C:Curve v m):∀k,k<m+2->fH (λi=>cr (sub (v (i+1)) (v i)) (sub (v (i+2)) (v (i+1)))) k=
  fH (λj=>cr (sub (v (j+1)) (v 0)) (sub (v (j+2)) (v 0))) k+fH (λi=>cr (sub (v (k+1)) (v i)) (sub (v (k+1)) (v (i+1)))) k
 |0,_=>by simp[fH]
 |k+1,hk=>by
  have ih:=C.part k aC;have d:=C.diag (i:=k) aC;have c:=C.col (b:=0) (j:=k+1) aC aC k aC;rw[fH,fH,fH];grind
def Curve.total(C:Curve v m):fH (λi=>cr (sub (v (i+1)) (v i)) (sub (v (i+2)) (v (i+1)))) (m+2)+cr (sub (v (m+3)) (v (m+2))) (sub (v 1) (v 0))=2*sgn (cross (sub (v (m+3)) (v (m+2))) (sub (v 1) (v 0))):=by
 have up:=C.least;have dn:∀i,0<i->i<m+3->¬Up (sub (v (m+3)) (v i)):=λi h1 h2 g=>by rw[C.close,<-sub_neg,vj]at g;exact(up i h1 h2).not g
 have p:=C.part (m+1) aC;have z1:fH (λj=>cr (sub (v (j+1)) (v 0)) (sub (v (j+2)) (v 0))) (m+1)=0:=Gt _ λj hj=>p9 aH;have c:=C.col (b:=1) (j:=m+2) aC aC m aC;have z2:fH (λi=>cr (sub (v (m+2+1)) (v (1+i))) (sub (v (m+2+1)) (v (1+i+1)))) m=0:=Gt _ λi hi=>p9 aH;have d:=C.diag (i:=m+1) aC;have z3:cr (sub (v (m+1+2)) (v (m+1))) (sub (v (m+1+2)) (v (m+1+1)))=0:=p9 aH;have f:=CP (λi=>cr (sub (v (m+1+1)) (v i)) (sub (v (m+1+1)) (v (i+1)))) m;have e0:cross (sub (v (m+2)) (v 0)) (sub (v (m+3)) (v 1))=cross (sub (v (m+3)) (v (m+2))) (sub (v 1) (v 0)):=by rw[C.close];unfold cross sub;grind
 have q:=Mu (p:=sub (v (m+2)) (v 0)) (q:=sub (v (m+3)) (v 1)) (by rw[e0];exact C.turn0);have eq:(⟨(sub (v (m+2)) (v 0)).x+(sub (v (m+3)) (v 1)).x,(sub (v (m+2)) (v 0)).y+(sub (v (m+3)) (v 1)).y⟩:V)=sub (v (m+2)) (v 1):=by rw[C.close];unfold sub;simp only[V.mk.injEq];omega
 have k1:cr (sub (v (m+2)) (v 0)) (sub (v (m+3)) (v 1))=sgn (cross (sub (v (m+3)) (v (m+2))) (sub (v 1) (v 0))):=by rw[o7 aH,e0]
 have k2:cr (sub (v (m+3)) (v (m+2))) (sub (v 1) (v 0))=sgn (cross (sub (v (m+3)) (v (m+2))) (sub (v 1) (v 0))):=
  o7 aH
 rw[k2,fH,p,z1];grind
end
end Geo
namespace Geo
def vv(r:aU)(i:Nat):V:=nth r (i % (aA r))
def Qn{p q:V}(h:cB p q=aE):Up (sub q p):=by unfold cB at h;unfold Up sub;grind
def CN{a b c:V}(h:turn a b c≠0):cross (sub b a) (sub c b)≠0:=by unfold turn at h;rw[Ne,oj]at h;rwa[show cross (sub b a) (sub c b)=cross (sub b a) (sub c a) by unfold cross sub;grind]
def YO{r:aU}(h:VR r)(h0:∀i,0<i->i<aA r->cB (nth r 0) (nth r i)=aE){m:Nat}(hm:aA r=m+3):Curve (vv r) m:=by
 have small:∀i,i<m+3->vv r i=nth r i:=λi hi=>by unfold vv;rw[hm,dK hi]
 have close:vv r (m+3)=vv r 0:=by unfold vv;rw[hm,io,Nat.zero_mod]
 have mem:∀i,(⟨vv r i,vv r (i+1)⟩:S)∈aW r:=λi=>by have:=uN h (i:=i % (aA r)) (cG _ aC);unfold bh nxt at this;rw[kW]at this;exact this
 have N:=h.calm.net;refine⟨close,λi h1 h2=> ?_,λi hi=> ?_,?_,λi j h1 h2 h3=> ?_⟩
 .rw[small i h2,small 0 aC];exact Qn aH
 .have:=h.turn' i aC;have:=CN this;rw[small i aC];exact this
 .have:=CN (h.turn' (m+2) aC);rw[show vv r 1=nth r ((m+2+2) % (aA r)) by unfold vv;rw[hm,(aC:m+2+2=1+(m+3)),mh],<-close,small (m+2) aC];exact this
 .have ne:∀a b,a<m+3->b<m+3->a≠b->vv r a≠vv r b:=λa b ha hb hab e=>by rw[small a ha,small b hb]at e;exact hab (h.inj aC aC e)
  have mi:=mem i;have mj:=mem j;have hno:¬gp ⟨vv r j,vv r (j+1)⟩ (pt (vv r i)) (pt (vv r (i+1))):=by
   rcases N.off (.inl mi) (.inl mj)with⟨_,g⟩|⟨g,_⟩|⟨g,_⟩
   .grind
   .grind
   .grind
  exact sep (aC:(0:Int)<1) (aC:(0:Int)<1) (N.ne (.inl mj)) hno
def tn(r:aU)(i:Nat):Int:=cr (sub (vv r (i+1)) (vv r i)) (sub (vv r (i+2)) (vv r (i+1)))
def YM{r:aU}(h:VR r)(h0:∀i,0<i->i<aA r->cB (nth r 0) (nth r i)=aE):fH (tn r) (aA r)=2*sgn (cross (sub (nth r 0) (nth r (aA r-1))) (sub (nth r 1) (nth r 0))):=by
 have h3:=h.three;obtain⟨m,hm⟩:∃m,aA r=m+3:=⟨aA r-3,aC⟩;have C:=YO h h0 hm;have t:=C.total;have e1:vv r (m+3)=nth r 0:=by unfold vv;rw[hm,io]
 have e2:vv r (m+2)=nth r (aA r-1):=by unfold vv;rw[hm,dK aC];rfl
 have e3:vv r 1=nth r 1:=by unfold vv;rw[hm,dK aC]
 have e4:vv r 0=nth r 0:=by unfold vv;rw[Nat.zero_mod]
 have e5:vv r (m+2+2)=nth r 1:=by unfold vv;congr 1;rw[hm,(aC:m+2+2=1+(m+3)),mh,dK aC]
 rw[hm,fH];unfold tn at*;grind
def On(o:Bool)(v x:V):Prop:=if o=aE then Up (sub x v)else Dn (sub x v)
def yP{v x:V}(h:x≠v)(o:Bool):On o v x\/On (!o) v x:=by
 have:Up (sub x v)\/Dn (sub x v):=by
  rcases J7 (sub x v)with g|g|g
  .exact .inl g
  .exact .inr g
  .exact absurd g (JY h.symm)
 unfold On;grind
def On.not{o:Bool}{v x:V}(h:On o v x):¬On (!o) v x:=by
 unfold On at*;cases o<;>simp at h|-
 .exact λg=>g.not h
 .exact h.not
def tv(o:Bool)(v x:V):V:=if o=aE then sub x v else neg (sub x v)
def sn(o:Bool)(v x:V):On o v x↔Up (tv o v x):=by
 unfold On tv;cases o
 .simp[vj]
 .simp
def DN(o:Bool)(v x y:V):cross (tv o v x) (tv o v y)=ev (lin v x) (pt y):=by
 rw[di];unfold tv;cases o
 .simp[Hc]
 .simp
def Tk{o:Bool}{v x:V}(h:On (!o) v x):Dn (tv o v x):=by
 unfold On at h;unfold tv;cases o
 .simp at h;simp[uX,h]
 grind
def DY{y z:V}{α β:Int}(hy:Up y)(hz:Up z)(ha:0<=α)(hb:0<β):Up ⟨α*y.x+β*z.x,α*y.y+β*z.y⟩:=by rw[<-uX];have:=Dh ((uX y).2 hy) ((uX z).2 hz) ha hb;unfold neg at this|-;grind
def Dy{x:V}{k:Int}(hx:Up x)(h:Up ⟨k*x.x,k*x.y⟩):0<k:=by
 refine nL.1 λg=> ?_;rcases cH k 0 with g'|g'
 .refine h.not ?_;have:=Dh ((uX x).2 hx) ((uX x).2 hx) (kY 0) (aC:0< -k);unfold neg at this;grind
 .have:k=0:=aC;subst this;unfold Up at h;simp at h
def ZN{x y z:V}(_hx:Up x)(hy:Up y)(hz:Up z)(h1:0<cross x y)(h2:0<cross y z):0<cross x z:=by refine Dy hy ?_;have:=DY hz _hx (aC:0<=cross x y) h2;rw[show cross x z*y.x=cross x y*z.x+cross y z*x.x by unfold cross;grind,show cross x z*y.y=cross x y*z.y+cross y z*x.y by unfold cross;grind];exact this
def aEu{t u z:V}(ht:Dn t)(hu:Up u)(hz:Up z)(h1:0<cross t z)(h2:0<cross u z):0<cross t u:=by refine Dy hz ?_;have:=DY hu ((vj t).2 ht) (aC:0<=cross t z) h2;unfold neg at this;rw[show cross t u*z.x=cross t z*u.x+cross u z* -t.x by unfold cross;grind,show cross t u*z.y=cross t z*u.y+cross u z* -t.y by unfold cross;grind];exact this
def aCY{x u y:V}(hx:Up x)(hu:Up u)(hy:Dn y)(h1:0<cross x y)(h2:0<cross x u):0<cross u y:=by refine Dy hx ?_;have:=DY hu ((vj y).2 hy) (aC:0<=cross x y) h2;unfold neg at this;rw[show cross u y*x.x=cross x y*u.x+cross x u* -y.x by unfold cross;grind,show cross u y*x.y=cross x y*u.y+cross x u* -y.y by unfold cross;grind];exact this
def aCZ{x y:V}(hx:Up x)(hy:Up y)(h:cross x y=0):0<x.x*y.x+x.y*y.y:=by
 have e1:(x.x*y.x+x.y*y.y)*x.x=(x.x*x.x+x.y*x.y)*y.x:=by unfold cross at h;grind
 have e2:(x.x*y.x+x.y*y.y)*x.y=(x.x*x.x+x.y*x.y)*y.y:=by unfold cross at h;grind
 refine Dy hx ?_;have k:0<x.x*x.x+x.y*x.y:=by
  have:=ll x.x;have:=ll x.y;unfold Up at hx;rcases hx with g|⟨_,g⟩
  .have:=D3 (aC:x.y≠0);omega
  .have:=D3 (aC:x.x≠0);omega
 have:=DY hy hy (kY 0) k;grind
def JU{α:Type}{R:α->α->Prop}:∀{l:List α},l≠[]->(∀x∈l,∀y∈l,x=y\/R x y\/R y x)->(∀x∈l,∀y∈l,∀z∈l,R x y->R y z->R x z)->∃m∈l,∀y∈l,y=m\/R y m
 |[],h,_,_=>absurd rfl h
 |[x],_,_,_=>⟨x,aH,aH⟩
 |x::y::l,_,ht,hr=>by
  obtain⟨m,hm,h⟩:=JU (l:=y::l) af aH (λa ha b hb c hc=>hr a (cM _ ha) b (cM _ hb) c (cM _ hc));grind
section
variable {W:List V} {side:V->V->Prop} {ins:P3->Bool}
def Ccw(v x y:V):Prop:=0<ev (lin v x) (pt y)
variable{x:V}
def vZ{v y:V}(h:Ccw v x y):¬Ccw v y x:=by unfold Ccw at*;rw[show ev (lin v y) (pt x)= -ev (lin v x) (pt y) by unfold ev lin pt;grind];omega
variable{o:Bool}
def Dq(N:Net W side){v y:V}(hx:side v x)(hy:side v y)(ox:On o v x)(oy:On o v y):x=y\/Ccw v x y\/Ccw v y x:=by
 unfold Ccw;rw[show ev (lin v y) (pt x)= -ev (lin v x) (pt y) by unfold ev lin pt;grind];by_cases h:ev (lin v x) (pt y)=0
 .left;refine(N.ray hx hy h ?_).symm;have d:=aCZ ((sn o v x).1 ox) ((sn o v y).1 oy) (by rw[DN];exact h);have:(tv o v x).x*(tv o v y).x+(tv o v x).y*(tv o v y).y=ev (bG v x) (pt y):=by unfold tv ev bG pt sub neg;cases o<;>simp<;>grind
  omega
 .omega
def O5{v y z:V}(ox:On o v x)(oy:On o v y)(oz:On o v z)(h1:Ccw v x y)(h2:Ccw v y z):Ccw v x z:=by unfold Ccw at*;rw[<-DN o]at*;exact ZN ((sn o v x).1 ox) ((sn o v y).1 oy) ((sn o v z).1 oz) h1 h2
def Tri.sector(N:Net W side){a b c:V}(h:Tri W side ins a b c)(hx:side a x):¬(Ccw a b x/\Ccw a x c):=by
 unfold Ccw;rintro⟨h1,h2⟩;have h2':0<ev (lin c a) (pt x):=by rw[<-ik c a x];exact h2
 obtain⟨f,hf,hle⟩:=h.free N a x hx (1+(ev (lin b c) (pt x)).natAbs) 1 aC aC aC;dsimp only at hle;simp only[bO,cp,or_false]at hf;rcases hf with rfl|rfl|rfl
 .rw[cN,fP]at hle;omega
 .rw[ik a b c]at hle;have:=dg (show 1<=ev (lin a b) (pt c) by have:=h.left;omega) (aC:0<=1+((ev (lin b c) (pt x)).natAbs:Int));omega
 .rw[cU,fP]at hle;omega
def Mid(W:List V)(side:V->V->Prop)(ins:P3->Bool)(o:Bool)(v x:V):Prop:=On o v x/\∃y,Tri W side ins v x y/\On (!o) v y
def Mid.top(N:Net W side){v z:V}(h:Mid W side ins o v x)(hz:side v z)(oz:On o v z):z=x\/Ccw v z x:=by
 obtain⟨ox,y,T,oy⟩:=h;rcases Dq N hz T.ab oz ox with e|e|e
 .exact .inl e
 .exact .inr e
 .refine absurd ⟨e,?_⟩ (T.sector N hz);unfold Ccw at*;have hl:=T.left;rw[<-DN o]at*;exact aCY ((sn o v x).1 ox) ((sn o v z).1 oz) (Tk oy) hl e
def Mid.unique(N:Net W side){v x':V}(h:Mid W side ins o v x)(h':Mid W side ins o v x'):x=x':=by
 obtain⟨_,T,_⟩:=h.2;obtain⟨_,T',_⟩:=h'.2;rcases h.top N T'.1 h'.1 with e|e
 .exact e.symm
 .rcases h'.top N T.1 h.1 with e'|e'
  .exact e'
  .exact absurd e' (vZ e)
open Classical in
def Ni(N:Net W side){v:V}{P:V->Prop}(hx:side v x)(ox:On o v x)(px:P x):∃z,side v z/\On o v z/\P z/\∀y,side v y->On o v y->P y->y=z\/Ccw v y z:=by
 have mm:∀{y},y∈W.filter (λz=>decide (side v z/\On o v z/\P z))↔side v y/\On o v y/\P y:=λ{y}=>
  ⟨aH,λh=>eY.2 ⟨N.mem (N.symm h.1),decide_eq_true h⟩⟩
 obtain⟨z,hz,h⟩:=JU (R:=Ccw v) aH (λa ha b hb=>Dq N (mm.1 ha).1 (mm.1 hb).1 (mm.1 ha).2.1 (mm.1 hb).2.1)
  (λa ha b hb c hc=>O5 (mm.1 ha).2.1 (mm.1 hb).2.1 (mm.1 hc).2.1)
 grind
open Classical in
def Nj(N:Net W side){v:V}{P:V->Prop}(hx:side v x)(ox:On o v x)(px:P x):∃z,side v z/\On o v z/\P z/\∀y,side v y->On o v y->P y->y=z\/Ccw v z y:=by
 have mm:∀{y},y∈W.filter (λz=>decide (side v z/\On o v z/\P z))↔side v y/\On o v y/\P y:=λ{y}=>
  ⟨aH,λh=>eY.2 ⟨N.mem (N.symm h.1),decide_eq_true h⟩⟩
 obtain⟨z,hz,h⟩:=JU (R:=λa b=>Ccw v b a) aH (λa ha b hb=>by
   rcases Dq N (mm.1 ha).1 (mm.1 hb).1 (mm.1 ha).2.1 (mm.1 hb).2.1 with e|e|e
   .exact .inl e
   .grind
   grind)
  (λa ha b hb c hc h1 h2=>O5 (mm.1 hc).2.1 (mm.1 hb).2.1 (mm.1 ha).2.1 h2 h1)
 grind
structure Vtx(W:List V)(side:V->V->Prop)(ins:P3->Bool)(v u w:V):Prop where
 fill:Filled W side ins
 su:side v u
 sw:side v w
 lw:Lft ins v w
 lu:¬Lft ins v u
 out:∀x,side v x->x≠u->Lft ins v x
 inn:∀x,side v x->x≠w->Lft ins x v
variable {v u w:V}
def Qs(X:Vtx W side ins v u w)(hx:side v x)(ox:On o v x)(hu:x≠u)(ht:∀y,side v y->On o v y->y=x\/Ccw v y x):Mid W side ins o v x:=by
 have N:=X.fill.net;obtain⟨y,T⟩:=C5 X.fill hx (X.out x hx hu);refine⟨ox,y,T,?_⟩;have hy:=N.symm T.ca;rcases yP (N.ne T.ca) o with g|g
 .rcases ht y hy g with e|e
  .exact absurd e.symm (N.ne T.bc)
  .exact absurd e (vZ T.left)
 .exact g
def Rk(X:Vtx W side ins v u w)(hu:¬On o v u)(hx:side v x)(ox:On o v x):∃x,Mid W side ins o v x:=by obtain⟨z,z1,z2,_,z3⟩:=Ni X.fill.net (P:=λ_=>True) hx ox trivial;exact⟨z,Qs X z1 z2 aH aH⟩
def OT(X:Vtx W side ins v u w)(hu:On o v u)(hx:side v x)(ox:On o v x)(h:Ccw v u x):∃x,Mid W side ins o v x:=by
 obtain⟨z,z1,z2,_,z3⟩:=Ni X.fill.net (P:=λ_=>True) hx ox trivial;refine⟨z,Qs X z1 z2 (λe=> ?_) aH⟩;subst e;rcases z3 x hx ox trivial with e|e
 .subst e;exact vZ h h
 .exact vZ h e
def ID(X:Vtx W side ins v u w)(hu:On o v u)(hw:On o v w->Ccw v w u):¬∃x,Mid W side ins o v x:=by
 rintro⟨x,M⟩;have N:=X.fill.net;obtain⟨ox,y,T,oy⟩:=id M;have hxu:x≠u:=λe=>X.lu (by rw[<-e];exact T.lft X.fill);have hux:Ccw v u x:=(M.top N X.su hu).resolve_left aH;obtain⟨z,z1,z2,z3,z4⟩:=Nj N (P:=λz=>Ccw v u z) T.ab ox hux;have hzw:z≠w:=λe=>vZ (hw (e▸z2)) (e▸z3);obtain⟨t,T2⟩:=C5 X.fill (N.symm z1) (X.inn z z1 hzw);have T3:Tri W side ins v t z:=T2.rot;have htz:Ccw v t z:=T3.left;have st:=T3.ab;by_cases ot:On o v t
 .rcases Dq N X.su st hu ot with e|e|e
  .exact X.lu (by rw[e];exact T3.lft X.fill)
  .rcases z4 t st ot e with e'|e'
   .exact N.ne T3.bc e'
   .exact vZ htz e'
  .exact T3.sector N X.su ⟨e,z3⟩
 .have ot':=(yP (N.ne (N.symm st)) o).resolve_left ot;refine T3.sector N X.su ⟨?_,z3⟩;unfold Ccw at*;rw[<-DN o]at*;exact aEu (Tk ot') ((sn o v u).1 hu) ((sn o v z).1 z2) htz z3
def aAd(X:Vtx W side ins v u w)(hu:On (!o) v u)(hw:On (!o) v w)(h:Ccw v w u):¬∃x,Mid W side ins o v x:=by
 rintro⟨x,M⟩;have N:=X.fill.net;obtain⟨ox,y,T,oy⟩:=id M;obtain⟨z,z1,z2,_,z4⟩:=Nj N (P:=λ_=>True) T.ab ox trivial;have hzw:z≠w:=λe=>z2.not (e▸hw);obtain⟨t,T2⟩:=C5 X.fill (N.symm z1) (X.inn z z1 hzw);have T3:Tri W side ins v t z:=T2.rot;have st:=T3.ab;have ot':On (!o) v t:=by
  refine(yP (N.ne (N.symm st)) o).resolve_left λot=> ?_;rcases z4 t st ot trivial with e|e
  .exact N.ne T3.bc e
  .exact vZ T3.left e
 exact ID X hu (λ_=>h) ⟨t,ot',z,T3,aH⟩
def YZ(X:Vtx W side ins v u w)(hu:On (!o) v u)(hw:On (!o) v w)(h:Ccw v u w):∃x,Mid W side ins o v x:=by
 have N:=X.fill.net;by_cases hx:∃x,side v x/\On o v x
 .obtain⟨x,h1,h2⟩:=hx;exact Rk X (λg=>g.not hu) h1 h2
 .exfalso;obtain⟨x,ox,y,T,oy⟩:=OT X hu X.sw hw h;rw[FM]at oy;exact hx ⟨y,N.symm T.ca,oy⟩
open Classical in
noncomputable def cnt(W:List V)(side:V->V->Prop)(ins:P3->Bool)(o:Bool)(v:V):Int:=if∃x,Mid W side ins o v x then 1 else 0
def Dp(h:∃x,Mid W side ins o v x):cnt W side ins o v=1:=if_pos h
def xj(h:¬∃x,Mid W side ins o v x):cnt W side ins o v=0:=if_neg h
def yI:Up (sub x v)↔On aE v x:=by unfold On;simp
def Dx:Up (sub v x)↔On aK v x:=by unfold On;rw[<-sub_neg,vj];simp
def Vtx.count(X:Vtx W side ins v u w)(ht:cross (sub v u) (sub w v)≠0):cnt W side ins aE v+cnt W side ins aK v=1-cr (sub v u) (sub w v):=by
 have N:=X.fill.net;have eu:ev (lin v w) (pt u)=cross (sub v u) (sub w v):=by rw[di];unfold cross sub;grind
 have ew:ev (lin v u) (pt w)= -cross (sub v u) (sub w v):=by rw[di];unfold cross sub;grind
 have ou:=yP (N.ne (N.symm X.su));have ow:=yP (N.ne (N.symm X.sw));have diff:∀o,On o v u->On (!o) v w->cnt W side ins o v=0/\cnt W side ins (!o) v=1:=λo h1 h2=>
  ⟨xj (ID X h1 λg=>absurd h2 g.not),Dp (Rk X (λg=>h1.not g) X.sw h2)⟩
 have same:∀o,On o v u->On o v w->cnt W side ins o v+cnt W side ins (!o) v=1-sgn (cross (sub v u) (sub w v)):=λo h1 h2=>by
  have h1':On (!(!o)) v u:=by rw[FM];exact h1
  have h2':On (!(!o)) v w:=by rw[FM];exact h2
  rcases mc ht with g|g
  .have k:Ccw v u w:=by unfold Ccw;rw[ew];omega
   rw[Dp (OT X h1 X.sw h2 k),Dp (YZ X h1' h2' k),show sgn (cross (sub v u) (sub w v))= -1 by unfold sgn;omega];rfl
  .have k:Ccw v w u:=by unfold Ccw;rw[eu];exact g
   rw[xj (ID X h1 λ_=>k),xj (aAd X h1' h2' k),show sgn (cross (sub v u) (sub w v))=1 by unfold sgn;rw[if_pos g]];rfl
 by_cases c:Up (sub v u)↔Up (sub w v)
 .rw[p9 c];rw[Dx,yI]at c;grind
 .rw[o7 c];rw[Dx,yI]at c;grind
end
def Qz(g:V->Int):∀r:aU,(r.map g).sum=fH (λi=>g (nth r i)) (aA r)
 |[] =>rfl
 |x::l=>by
  rw[dU,oT,Qz g l,iE,CP];rfl
def CQ{f g:Nat->Int}:∀k,(∀i,i<k->f i=g i)->fH f k=fH g k
 |0,_=>rfl
 |k+1,h=>by unfold fH;rw[CQ k λi hi=>h i aC,h k aC]
def Pf(g:V->Int)(r:aU):(r.map g).sum=fH (λi=>g (vv r (i+1))) (aA r):=by
 have f:=CP (λi=>g (vv r i)) (aA r);rw[fH]at f;have e:g (vv r (aA r))=g (vv r 0):=by unfold vv;rw[io,Nat.zero_mod]
 rw[Qz,CQ (g:=λi=>g (vv r i)) _ λi hi=>by unfold vv;rw[dK hi]];omega
def Ht(c:Int)(f:Nat->Int)(k:Int):∀n,fH (λi=>c+k*f i) n=c*n+k*fH f n
 |0=>by simp[fH]
 |n+1=>by rw[fH,Ht c f k n,fH];grind
def aFi{x y:V}(hx:x≠⟨0,0⟩)(hy:y≠⟨0,0⟩):cr (neg y) (neg x)= -cr x y:=by
 have k:∀{z:V},z≠⟨0,0⟩->(Up (neg z)↔¬Up z):=λ{z} hz=>by
  rw[vj];rcases J7 z with g|g|g
  .exact⟨λh=>absurd h g.not,aH⟩
  .exact⟨λ_ h=>h.not g,λ_=>g⟩
  grind
 by_cases h:Up x↔Up y
 .rw[p9 h,p9 aH];rfl
 .rw[o7 h,o7 aH,Hc,iI,C7]
def VR.fun_a{r:aU}(h:VR r){e d:S}(he:e∈aW r)(hd:d∈aW r)(g:e.a=d.a):e=d:=by obtain⟨_,i,hi,rfl⟩:=iq.1 he;obtain⟨_,k,hk,rfl⟩:=iq.1 hd;rw[h.inj hi hk g]
def VR.fun_b{r:aU}(h:VR r){e d:S}(he:e∈aW r)(hd:d∈aW r)(g:e.b=d.b):e=d:=by
 obtain⟨_,i,hi,rfl⟩:=iq.1 he;obtain⟨_,k,hk,rfl⟩:=iq.1 hd;have e1:=h.inj (cG (i+1) aH) (cG (k+1) aH) g
 congr 1
 by_cases g1:i+1<aA r<;>by_cases g2:k+1<aA r
 .rw[dK g1,dK g2]at e1;omega
 .rw[dK g1,(aC:k+1=aA r),io]at e1;omega
 .rw[dK g2,(aC:i+1=aA r),io]at e1;omega
 .omega
section
variable {s:Shape} {D:List S}
variable{r:aU}
def uo(T:Tg s D)(hr:r∈aR s){e:S}(he:e∈ao s)(h:e.a∈r\/e.b∈r):e∈aW r:=by obtain⟨q,hq,he⟩:=dL.1 he;obtain⟨h1,h2⟩:=jC he;have u:=zL (aR s) T.vs.nodup q hq r hr;grind
def OO(T:Tg s D){u v w:V}(h1:(⟨u,v⟩:S)∈aW s.outer)(h2:(⟨v,w⟩:S)∈aW s.outer):Vtx (bW s) (sides s D) (cT s) v u w:=by
 have ho:s.outer∈aR s:=cR;have hv:v∈s.outer:=(jC h2).1;have s1:sides s D u v:=qe ho h1;have s2:sides s D v w:=qe ho h2;refine⟨T.filled,s1.symm,s2,(te T h2).1,(te T h1).2,λx hx hu=> ?_,λx hx hw=> ?_⟩
 .rcases hx with hx|hx<;>rcases bz.1 hx with hx|hx
  .exact(te T (uo T ho hx (.inl hv))).1
  .exact(qn T hx).1
  .exact absurd (congrArg S.a (T.vs.outer.fun_b (uo T ho hx (.inr hv)) h1 rfl)) hu
  .exact(qn T hx).2
 .rcases hx with hx|hx<;>rcases bz.1 hx with hx|hx
  .exact absurd (congrArg S.b (T.vs.outer.fun_a (uo T ho hx (.inl hv)) h2 rfl)) hw
  .exact(qn T hx).2
  .exact(te T (uo T ho hx (.inr hv))).1
  .exact(qn T hx).1
def aCe(T:Tg s D)(hr:r∈s.holes){u v w:V}(h1:(⟨u,v⟩:S)∈aW r)(h2:(⟨v,w⟩:S)∈aW r):Vtx (bW s) (sides s D) (cT s) v w u:=by
 have ho:r∈aR s:=cM _ hr;have hv:v∈r:=(jC h2).1;have s1:sides s D u v:=qe ho h1;have s2:sides s D v w:=qe ho h2;have R:=T.vs.ring ho;refine⟨T.filled,s2,s1.symm,(tq T hr h1).1,(tq T hr h2).2,λx hx hu=> ?_,λx hx hw=> ?_⟩
 .rcases hx with hx|hx<;>rcases bz.1 hx with hx|hx
  .exact absurd (congrArg S.b (R.fun_a (uo T ho hx (.inl hv)) h2 rfl)) hu
  .exact(qn T hx).1
  .exact(tq T hr (uo T ho hx (.inr hv))).1
  .exact(qn T hx).2
 .rcases hx with hx|hx<;>rcases bz.1 hx with hx|hx
  .exact(tq T hr (uo T ho hx (.inl hv))).1
  .exact(qn T hx).2
  .exact absurd (congrArg S.a (R.fun_b (uo T ho hx (.inr hv)) h1 rfl)) hw
  .exact(qn T hx).1
def DX(h:VR r)(i:Nat):(⟨vv r i,vv r (i+1)⟩:S)∈aW r:=by have:=uN h (i:=i % (aA r)) (cG _ (by have:=h.three;omega));unfold bh nxt at this;rw[kW]at this;exact this
def Qj(h:VR r)(i:Nat):cross (sub (vv r (i+1)) (vv r i)) (sub (vv r (i+2)) (vv r (i+1)))≠0:=by have:=h.turn' (i % (aA r)) (cG _ (by have:=h.three;omega));rw[kW,kW]at this;exact CN this
def Yd(h:VR r)(h0:∀i,0<i->i<aA r->cB (nth r 0) (nth r i)=aE):sgn (cross (sub (nth r 0) (nth r (aA r-1))) (sub (nth r 1) (nth r 0)))=1:=by
 have h3:=h.three;have hvs:bW ⟨r,[]⟩=r:=by unfold bW aR;simp
 have T:=J9 h.alone (v:=r) aH h.nodup;have e1:(⟨nth r (aA r-1),nth r 0⟩:S)∈aW r:=by have:=uN h (i:=aA r-1) aC;unfold bh nxt at this;rw[(aC:aA r-1+1=aA r),io]at this;exact this
 have e2:(⟨nth r 0,nth r 1⟩:S)∈aW r:=by have:=uN h (i:=0) aC;unfold bh nxt at this;rw[dK aC]at this;exact this
 have X:=OO T (s:=⟨r,[]⟩) e1 e2;have tc:cross (sub (nth r 0) (nth r (aA r-1))) (sub (nth r 1) (nth r 0))≠0:=by have:=CN (h.turn' (aA r-1) aC);rw[(aC:aA r-1+1=aA r),io,show(aA r-1+2) % (aA r)=1 by rw[(aC:aA r-1+2=1+aA r),mh,dK aC]]at this;exact this
 have c:=X.count tc;have N:=X.fill.net;have up:∀i,0<i->i<aA r->On aE (nth r 0) (nth r i):=λi hi hl=>yI.1 (Qn (h0 i hi hl));have low:∀x,sides ⟨r,[]⟩ (oL ⟨r,[]⟩ r) (nth r 0) x->¬On aK (nth r 0) x:=λx hx g=>by
  have hm:=N.mem (N.symm hx);rw[hvs]at hm;obtain⟨i,hi,rfl⟩:=fC.1 hm;by_cases g0:i=0
  .subst g0;exact N.ne hx rfl
  .exact(up i aC hi).not g
 rw[xj (λ⟨x,M⟩=>by obtain⟨_,y,T,oy⟩:=M;exact low y (N.symm T.ca) oy),xj (λ⟨x,M⟩=>by obtain⟨ox,y,T,_⟩:=M;exact low x T.ab ox)]at c;rw[o7 (λg=>by rw[Dx,yI]at g;exact(up (aA r-1) aC aC).not aH)]at c
 omega
def Kd(h:VR r):VR (bo r)/\∀i,0<i->i<aA (bo r)->cB (nth (bo r) 0) (nth (bo r) i)=aE:=by have h3:=h.three;have hl:=nR (r:=r) aC;have hb:VR (bo r):=h.rot (k:=dt r) aC;refine⟨hb,λi h1 h2=> ?_⟩;have hlen:=je r;rw[hlen]at h2;have e:=xR (r:=r) (i:=i) h2;rw[L9 aC,e];have le:=tf r (aA r) ((i+dt r) % (aA r)) (cG _ aC);rw[<-rm]at le;refine zy le λg=> ?_;rw[<-e]at g;have g0:=L9 (r:=r) aC;rw[<-g0]at g;have:=hb.inj aC aC g;omega
def MI(h:VR r):fH (tn (bo r)) (aA (bo r))=2:=by obtain⟨hb,h0⟩:=Kd h;rw[YM hb h0,Yd hb h0];rfl
noncomputable def wQ(s:Shape)(D:List S)(v:V):Int:=cnt (bW s) (sides s D) (cT s) aE v+cnt (bW s) (sides s D) (cT s) aK v
def Z2(T:Tg s D):(s.outer.map (wQ s D)).sum=aA s.outer-2:=by
 have h:=T.vs.outer;obtain⟨hb,_⟩:=Kd h;rw[<-xQ ((oe s.outer).map _),Pf,CQ (g:=λi=>1+(-1)*tn (bo s.outer) i) _ λi hi=> ?_,Ht,MI h,je]
 .omega
 .have m1:=(po s.outer _).1 (DX hb i);have m2:(⟨vv (bo s.outer) (i+1),vv (bo s.outer) (i+2)⟩:S)∈aW s.outer:=(po s.outer _).1 (DX hb (i+1));have:=(OO T m1 m2).count (Qj hb i);unfold wQ tn;omega
def aCf(T:Tg s D)(hr:r∈s.holes):(r.map (wQ s D)).sum=aA r+2:=by
 have h:=T.vs.ring (cM _ hr);obtain⟨hb,_⟩:=Kd h;rw[<-xQ ((oe r).map _),Pf,CQ (g:=λi=>1+1*tn (bo r) i) _ λi hi=> ?_,Ht,MI h,je]
 .omega
 .have m1:=(po r _).1 (DX hb i);have m2:(⟨vv (bo r) (i+1),vv (bo r) (i+2)⟩:S)∈aW r:=(po r _).1 (DX hb (i+1));have t:=Qj hb i;have t':cross (sub (vv (bo r) (i+1)) (vv (bo r) (i+2))) (sub (vv (bo r) i) (vv (bo r) (i+1)))≠0:=by rw[show cross (sub (vv (bo r) (i+1)) (vv (bo r) (i+2))) (sub (vv (bo r) i) (vv (bo r) (i+1)))= -cross (sub (vv (bo r) (i+1)) (vv (bo r) i)) (sub (vv (bo r) (i+2)) (vv (bo r) (i+1))) by unfold cross sub;grind];omega
  have c:=(aCe T hr m1 m2).count t';have n1:sub (vv (bo r) (i+1)) (vv (bo r) i)≠⟨0,0⟩:=λg=>t (by rw[g];unfold cross;simp);have n2:sub (vv (bo r) (i+2)) (vv (bo r) (i+1))≠⟨0,0⟩:=λg=>t (by rw[g];unfold cross;simp);have k:=aFi n1 n2;rw[sub_neg,sub_neg]at k;unfold wQ tn;omega
def ZM(T:Tg s D):((bW s).map (wQ s D)).sum=aA (bW s)+2*aA s.holes-2:=by
 have key:∀l:List aU,(∀r∈l,r∈s.holes)->(l.flatten.map (wQ s D)).sum=aA l.flatten+2*aA l:=by
  intro l;induction l with
  |nil=>intro _;rfl
  |cons r l ih=>
   intro hl;rw[mI,dV,nM,aCf T aH,ih aH,eR,iE];omega
 unfold bW aR;rw[mI,dV,nM,Z2 T,key s.holes (λr hr=>hr),eR];omega
end
open Classical in
noncomputable def i01(p:Prop):Int:=if p then 1 else 0
def xp{p:Prop}(h:p):i01 p=1:=if_pos h
def qz{p:Prop}(h:¬p):i01 p=0:=if_neg h
def vS{p q:Prop}(h:p↔q):i01 p=i01 q:=aH
open Classical in
def Q0{α:Type}(Q:α->Prop)(l:List α):(l.map λx=>i01 (Q x)).sum=aA (l.filter λx=>decide (Q x)):=by
 induction l with
 |nil=>rfl
 |cons x l ih=>
  rw[dU,oT,ih];by_cases h:Q x
  .rw[xp h,vA (by simpa using h),iE];omega
  .rw[qz h,FN (by simpa using h)];omega
open Classical in
def aC5{W:List V}{DS:List S}{P:S->Prop}(hd:DS.Nodup)(hW:W.Nodup)(hm:∀e∈DS,e.a∈W)(hu:∀e∈DS,∀d∈DS,P e->P d->e.a=d.a->e=d):
  (DS.map λe=>i01 (P e)).sum=(W.map λv=>i01 (∃e∈DS,P e/\e.a=v)).sum:=by
 obtain⟨Q,hQ⟩:∃Q:V->Prop,∀v,Q v↔∃e∈DS,P e/\e.a=v:=⟨_,λ_=>Bg⟩;rw[show(W.map λv=>i01 (∃e∈DS,P e/\e.a=v))=W.map λv=>i01 (Q v)from aH,Q0 P DS,Q0 Q W];have p:((DS.filter λe=>decide (P e)).map S.a).Perm (W.filter λv=>decide (Q v)):=by
  refine(List.perm_ext_iff_of_nodup ?_ (hW.filter _)).2 λv=> ?_
  .rw[oS,kG];refine(y5.1 (oS.1 (hd.filter _))).imp ?_;grind
  .grind
 rw[<-p.length_eq,dq]
def Ir{α:Type}(f g:α->Int):∀l:List α,(l.map λx=>f x+g x).sum=(l.map f).sum+(l.map g).sum
 |[] =>rfl
 |x::l=>by simp only[dU,oT,Ir f g l];omega
def zo{α:Type}(c:Int):∀l:List α,(l.map λ_=>c).sum=c*aA l
 |[] =>af
 |x::l=>by simp only[dU,oT,zo c l,iE];grind
section
variable {s:Shape} {D:List S}
noncomputable def oO(s:Shape)(D:List S)(o:Bool)(e:S):Int:=i01 (Mid (bW s) (sides s D) (cT s) o e.a e.b)
def Sm(N:Net (bW s) (sides s D)){a b c:V}(h:Tri (bW s) (sides s D) (cT s) a b c)(o:Bool):Mid (bW s) (sides s D) (cT s) o a b↔On o a b/\On (!o) a c:=by
 constructor
 .rintro⟨h1,y,T,oy⟩;rw[Mz N h T];grind
 .rintro⟨h1,h2⟩;exact⟨h1,c,h,h2⟩
def ZS(N:Net (bW s) (sides s D)){a b c:V}(h:Tri (bW s) (sides s D) (cT s) a b c):(oO s D aE ⟨a,b⟩+oO s D aK ⟨a,b⟩)+(oO s D aE ⟨b,c⟩+oO s D aK ⟨b,c⟩)+(oO s D aE ⟨c,a⟩+oO s D aK ⟨c,a⟩)=1:=by
 have swap:∀{x y:V},On aE x y↔On aK y x:=λ{x y}=>by rw[<-yI,Dx]
 have k:∀{x y:V},x≠y->(On aK x y↔¬On aE x y):=λ{x y} hne=>⟨λh g=>g.not h,λh=>(yP hne.symm aE).resolve_left h⟩;have n1:=N.ne h.ab;have n2:=N.ne h.bc;have n3:=N.ne h.ca;have one:∀{a b c:V},Tri (bW s) (sides s D) (cT s) a b c->a≠b->a≠c->oO s D aE ⟨a,b⟩+oO s D aK ⟨a,b⟩=i01 (¬(On aE a b↔On aE a c)):=λ{a b c} h hb hc=>by
  unfold oO;rw[vS (Sm N h aE),vS (Sm N h aK),vS (p:=On aE a b/\On (!aE) a c) (q:=On aE a b/\¬On aE a c) aH,vS (p:=On aK a b/\On (!aK) a c) (q:=¬On aE a b/\On aE a c) aH];by_cases p:On aE a b<;>by_cases q:On aE a c
  .rw[qz (by simp[p,q]),qz (by simp[p,q]),qz (by simp[p,q])];rfl
  .rw[xp (by simp[p,q]),qz (by simp[p,q]),xp (by simp[p,q])];rfl
  .rw[qz (by simp[p,q]),xp (by simp[p,q]),xp (by simp[p,q])];rfl
  .rw[qz (by simp[p,q]),qz (by simp[p,q]),qz (by simp[p,q])];rfl
 rw[one h n1 n3.symm,one h.rot n2 n1.symm,one h.rot.rot n3 n2.symm];have tr:∀{a b c:V},On aE a b->On aE b c->On aE a c:=λ{a b c} h1 h2=>by rw[<-yI]at*;unfold Up sub at*;grind
 have q1:On aE b a↔¬On aE a b:=by rw[swap,k n1]
 have q2:On aE c b↔¬On aE b c:=by rw[swap,k n2]
 have q3:On aE a c↔¬On aE c a:=by rw[swap,k n3]
 have t2:¬On aE a b->¬On aE b c->On aE c a:=aH;rw[vS (not_congr (iff_congr Bg q3)),vS (not_congr (iff_congr Bg q1)),vS (not_congr (iff_congr Bg q2))];by_cases p:On aE a b<;>by_cases q:On aE b c<;>by_cases r:On aE c a
 .grind
 all_goals first|exact absurd (t2 p q) r|simp[i01,p,q,r]
def Cf(T:Tg s D){TL:List T3}(A:All3 (bW s) (sides s D) (cT s) TL):(aA TL:Int)=aA (bW s)+2*aA s.holes-2:=by
 have H:=T.filled;have N:=H.net;have nd:=ze T (Cc T) λe he=>((nf T e).1 he).1;have md:=DK T (nf T);have one:=A.sum H nd md (λe=>oO s D aE e+oO s D aK e);rw[lg (g:=λ_=>(1:Int)) λt ht=>ZS N (A.tri t ht),zo,Ir]at one;have ind:∀o,((i7 (de s) D).map (oO s D o)).sum=((bW s).map λv=>cnt (bW s) (sides s D) (cT s) o v).sum:=λo=>by
  have:=aC5 (P:=λe=>Mid (bW s) (sides s D) (cT s) o e.a e.b) nd T.vs.nodup (λe he=>N.mem ((md e).1 he).1) λe _ d _ h1 h2 g=>by cases e;dsimp only at*;subst g;rw[h1.unique N h2]
  unfold oO;rw[this]
  congr 1
  refine lg λv _=> ?_;have key:(∃e∈i7 (de s) D,Mid (bW s) (sides s D) (cT s) o e.a e.b/\e.a=v)↔∃x,Mid (bW s) (sides s D) (cT s) o v x:=by refine⟨aH,λ⟨x,h⟩=> ?_⟩;obtain⟨ox,y,t,oy⟩:=id h;exact⟨⟨v,x⟩,(md _).2 ⟨t.ab,t.lft H⟩,h,rfl⟩
  by_cases h:∃x,Mid (bW s) (sides s D) (cT s) o v x
  .rw[Dp h,xp (key.2 h)]
  .rw[xj h,qz aH]
 rw[ind,ind,<-Ir,show((bW s).map λv=>cnt (bW s) (sides s D) (cT s) aE v+cnt (bW s) (sides s D) (cT s) aK v)=(bW s).map (wQ s D)from rfl,ZM T]at one;omega
def Xr(T:Tg s D):aA (de s)=aA (bW s):=by
 have key:∀l:List aU,(∀r∈l,VR r)->aA (l.flatMap aW)=aA l.flatten:=by
  intro l;induction l with
  |nil=>intro _;rfl
  |cons r l ih=>
   intro hl;rw[fw,eR,mI,eR,ih aH];unfold aW;rw[if_neg (by have:=(hl r aH).three;omega),dq,List.length_range]
 have:=key (aR s) λr hr=>T.vs.ring hr;unfold de bW;rw[eR,dq,<-eR,<-z7];exact this
def Y3(T:Tg s D){TL:List T3}(A:All3 (bW s) (sides s D) (cT s) TL):(aA D:Int)=aA (bW s)+3*aA s.holes-3:=by have t:=Cf T A;have c:=Il T A (λ_=>1);rw[zo,zo,zo,Xr T]at c;omega
end
end Geo
namespace Geo
def MZ{a b c w:V}(na:bF a 2000=aE)(nb:bF b 2000=aE)(nc:bF c 2000=aE)(nw:bF w 2000=aE)(h:0<ev (lin a b) (pt c)):
  dB [a,b,c] w=0↔¬(0<=ev (lin a b) (pt w)/\0<=ev (lin b c) (pt w)/\0<=ev (lin c a) (pt w)):=by
 have m4:∀{x:V},bF x 2000=aE->bF x 4000=aE:=λh=>mM h aC;have hv:dC [a,b,c] =aE:=(uR (uc na nb nc)).2 (by unfold turn;rw[sF,<-di];exact h);have hp:dP (fL w)=aE:=by rw[B9];exact m4 nw
 have e2:dB [a,b,c] w=2↔0<ev (lin a b) (pt w)/\0<ev (lin b c) (pt w)/\0<ev (lin c a) (pt w):=by unfold dB;rw[m4 nw];have:=aEt hv (fL w) hp (by rw[<-di];exact h);unfold kP at this;rw[sU]at this;simp only[Bool.not_true,mf,if_false];rw[this];simp only[dU,qV,bO,cp,or_false,forall_eq_or_imp,forall_eq];exact Bg
 have on1:(∃e∈aW [a,b,c],onS e w=aE)->dB [a,b,c] w=1:=by
  rintro⟨e,he,ho⟩;have ve:bX e=aE:=by rw[sU]at he;simp only[bO,cp,or_false]at he;rcases he with rfl|rfl|rfl<;>simp[bX,m4 na,m4 nb,m4 nc]
  unfold dB cE;rw[m4 nw,hv,hp];exact AU ⟨e,he,(IA e w).2 ((ii ve).1 ho)⟩
 have r1:ev (lin b c) (pt a)=ev (lin a b) (pt c):=ik a b c;have r2:ev (lin c a) (pt b)=ev (lin a b) (pt c):=by unfold ev lin pt;grind
 constructor
 .rintro h0 ⟨h1,h2,h3⟩;have seg:∀{x y z:V},bF x 4000=aE->bF y 4000=aE->0<ev (lin x y) (pt z)->ev (lin x y) (pt w)=0->0<=ev (lin y z) (pt w)->0<=ev (lin z x) (pt w)->onS ⟨x,y⟩ w=aE:=λ{x y z} hx hy hd h0 h1 h2=>by have g:=sJ (c:=z) h0;exact OQ hx hy h1 h2 hd (by rw[g];unfold cmb pt;simp)
  by_cases z1:ev (lin a b) (pt w)=0
  .have:=on1 ⟨⟨a,b⟩,by rw[sU];simp,aH⟩;omega
  .by_cases z2:ev (lin b c) (pt w)=0
   .have:=on1 ⟨⟨b,c⟩,by rw[sU];simp,aH⟩;omega
   .by_cases z3:ev (lin c a) (pt w)=0
    .have:=on1 ⟨⟨c,a⟩,by rw[sU];simp,aH⟩;omega
    omega
 .intro hno;rcases MD [a,b,c] w with g|g|g
  .exact g
  .obtain⟨e,he,ho⟩:=MY g;have comb:∀{x y:V},x≠y->bF x 4000=aE->bF y 4000=aE->onS ⟨x,y⟩ w=aE->∀f:P3,0<=ev f (pt x)->0<=ev f (pt y)->0<=ev f (pt w):=λ{x y} hne hx hy ho f h1 h2=>by obtain⟨s,t,k,p1,p2,p3,p4,p5⟩:=I8 (by simp[bX,hx,hy]) hne ho;have e:=congrArg (ev f) p5;rw[bB,bB]at e;have:=mpp p1 h1;have:=mpp p2 h2;refine nnl p3 ?_;grind
   have nab:a≠b:=λg=>by rw[g,show ev (lin b b) (pt c)=0 by unfold ev lin pt;grind]at h;omega
   have nbc:b≠c:=λg=>by rw[g,cU]at h;omega
   have nca:c≠a:=λg=>by rw[g,cN]at h;omega
   have la:0<=ev (lin a b) (pt a)/\0<=ev (lin b c) (pt a)/\0<=ev (lin c a) (pt a):=⟨by rw[cN];omega,aC,by rw[cU];omega⟩;have lb:0<=ev (lin a b) (pt b)/\0<=ev (lin b c) (pt b)/\0<=ev (lin c a) (pt b):=⟨by rw[cU];omega,by rw[cN];omega,aC⟩;have lc:0<=ev (lin a b) (pt c)/\0<=ev (lin b c) (pt c)/\0<=ev (lin c a) (pt c):=⟨aC,by rw[cU];omega,by rw[cN];omega⟩;rw[sU]at he;grind
  omega
def aFh(a b c:V):∃k:Int,0<k/\ctr a b c=⟨k*(p3 (gg a b c)).x,k*(p3 (gg a b c)).y,k*(p3 (gg a b c)).d⟩:=by
 unfold gg;split
 .rename_i h;refine⟨3,aC,?_⟩;unfold ctr p3;grind
 .refine⟨1,aC,?_⟩;unfold ctr p3;grind
def Np(a b c:V):0<(gg a b c).den:=by unfold gg;grind
section
variable {s:Shape} {D:List S}
def Rz{k:Int}(hk:0<k)(p:P3):cT s ⟨k*p.x,k*p.y,k*p.d⟩=cT s p:=by
 unfold cT;rw[AY hk]
 congr 1
 rw[gR,cC,cC];constructor
 .intro g r hr;rw[<-AY hk];exact g r hr
 .intro g r hr;rw[AY hk];exact g r hr
def HB(h:VS s){p:Pt}(hp:dP p=aE)(ho:∀e∈ao s,onP e p=aK):fm s p=2↔cT s (p3 p)=aE:=by
 have w:∀r∈aR s,cE r p=if cY r (p3 p)then 2 else 0:=λr hr=>Cd (h.ring hr) hp λe he=>ho e (dL.2 ⟨r,hr,he⟩);rw[CD];unfold cT;rw[cD,cC,w _ cR];have hv:=(rj s).2 h;constructor
 .rintro⟨_,h1,h2⟩;refine⟨aH,λq hq=> ?_⟩;have:=h2 q hq;rw[w q (cM _ hq)]at this;grind
 .rintro⟨h1,h2⟩;refine⟨hv,by rw[h1];rfl,λq hq=> ?_⟩;rw[w q (cM _ hq)];grind
def ZK(h:VS s){p:Pt}(hp:dP p=aE)(hw:fm s p=2):∀e∈ao s,onP e p=aK:=by
 intro e he;obtain⟨r,hr,he⟩:=dL.1 he;refine pZ.2 λho=> ?_;have one:cE r p=1:=by unfold cE;rw[(ig _).2 (h.ring hr),hp];exact AU ⟨e,he,ho⟩
 rw[CD]at hw;rcases bO.1 hr with e1|hr
 .grind
 grind
def m6(a b c:V):T3:=if turn a b c<0 then⟨a,c,b⟩else⟨a,b,c⟩
def Xw(a b c:V):gg a c b=gg a b c:=by rw[<-CY,<-CY];exact MO aH
def Ny(T:Tg s D){v:List V}(hv:∀x,x∈v↔x∈bW s){a b c:V}(hab:sides s D a b)(hbc:sides s D b c)(hca:sides s D c a)(hl:0<ev (lin a b) (pt c)):
  ((∀w∈v,w=a\/w=b\/w=c\/dB [a,b,c] w=0)/\fm s (gg a b c)=2)↔Tri (bW s) (sides s D) (cT s) a b c:=by
 have N:=T.filled.net;have near:=λ{x} (hx:x∈bW s)=>lF T.vs hx;have na:=near (N.mem hab);have nb:=near (N.mem hbc);have nc:=near (N.mem hca);have hp:=L5 na nb nc;obtain⟨k,hk,ek⟩:=aFh a b c;have em:∀g:(∀w∈v,w=a\/w=b\/w=c\/dB [a,b,c] w=0),∀w∈bW s,0<=ev (lin a b) (pt w)->0<=ev (lin b c) (pt w)->0<=ev (lin c a) (pt w)->w=a\/w=b\/w=c:=λg w hw h1 h2 h3=>by
  rcases g w ((hv w).2 hw)with e|e|e|e
  .exact .inl e
  .grind
  .grind
  .exact absurd ⟨h1,h2,h3⟩ ((MZ na nb nc (near hw) hl).1 e)
 constructor
 .rintro⟨g1,g2⟩;refine⟨hab,hbc,hca,hl,em g1,?_⟩;show cT s (ctr a b c)=aE;rw[ek,Rz hk];exact(HB T.vs hp (ZK T.vs hp g2)).1 g2
 .intro X;refine⟨λw hw=> ?_,?_⟩
  .by_cases g:0<=ev (lin a b) (pt w)/\0<=ev (lin b c) (pt w)/\0<=ev (lin c a) (pt w)
   .rcases X.empty w ((hv w).1 hw) g.1 g.2.1 g.2.2 with e|e|e
    .exact .inl e
    .grind
    grind
   .exact .inr (.inr (.inr ((MZ na nb nc aH hl).2 g)))
  .refine(HB T.vs hp λe he=>pZ.2 λho=> ?_).2 ?_
   .obtain⟨x,y,m,h1,h2,h3,h4,h5⟩:=EA (Np a b c) (T.vs.p8 he) ho;have cd:=Np a b c;have pm:=bJ h3 cd;obtain⟨f,hf,hle⟩:=X.free N e.a e.b (.inl (iS _ he)) x y h1 h2 aC;dsimp only at hle;have q:=(BA hl).2 f hf;rw[ek,show ev f ⟨k*(p3 (gg a b c)).x,k*(p3 (gg a b c)).y,k*(p3 (gg a b c)).d⟩=k*ev f (p3 (gg a b c)) by unfold ev;grind]at q;have q2:0<ev f (p3 (gg a b c)):=kK hk q;have e1:x*ev f (pt e.a)+y*ev f (pt e.b)=m*ev f (p3 (gg a b c)):=by rw[<-bB,h5];unfold ev p3;grind
    have:=bJ h3 q2;omega
   .have:=X.mid;change cT s (ctr a b c)=aE at this;rw[ek,Rz hk]at this;exact this
end
def CU{a b c:V}(h:0<turn a b c):m6 a b c=⟨a,b,c⟩:=by unfold m6;grind
def GV{a b c:V}(h:0<turn a b c):m6 a c b=⟨a,b,c⟩:=by unfold m6;rw[if_pos (by rw[th];omega)]
def Hq{a b c:V}:0<turn a b c↔0<ev (lin a b) (pt c):=by unfold turn;rw[sF,di]
def PF(a b c:V):turn c b a= -turn a b c:=by rw[tz,tz,th]
section
variable {s:Shape} {D:List S}
def Ow(T:Tg s D){v:List V}(hv:∀x,x∈v↔x∈bW s)(hn:v.Nodup){i j k:Nat}(hij:i<j)(hjk:j<k)(hk:k<aA v)
  (h1:sides s D (nth v i) (nth v j)) (h2:sides s D (nth v j) (nth v k)) (h3:sides s D (nth v i) (nth v k)):
  m7 s v i j k=aE↔(turn (nth v i) (nth v j) (nth v k)≠0/\Tri (bW s) (sides s D) (cT s) (m6 (nth v i) (nth v j) (nth v k)).a (m6 (nth v i) (nth v j) (nth v k)).b (m6 (nth v i) (nth v j) (nth v k)).c):=by
 have N:=T.filled.net;have near:=λ{x} (hx:x∈bW s)=>lF T.vs hx;have na:=near (N.mem h1);have nb:=near (N.mem h2);have nc:=near (N.mem (N.symm h2));have idx:∀n,n<aA v->∀m,m<aA v->(n≠m↔nth v n≠nth v m):=λn h1 m h2=>⟨λh e=>h (gU hn h1 h2 e),aH⟩;have all:∀R:aU,(∀w,dB (db (nth v i) (nth v j) (nth v k)) w=dB R w)->(((bT (aA v)).all λn=> !(n !=i&&n !=j&&n !=k&&dB (db (nth v i) (nth v j) (nth v k)) (nth v n) !=0))=aE↔∀w∈v,w=nth v i\/w=nth v j\/w=nth v k\/dB R w=0):=λR hR=>by
  rw[cC];constructor
  .intro g w hw;obtain⟨n,hn',rfl⟩:=fC.1 hw;grind
  .intro g n hn';have hn':=cP.1 hn';have:=g (nth v n) (dh hn');grind
 unfold m7;rw[cD,cD,bne_iff_ne,beq_iff_eq];generalize hA:nth v i=a at*;generalize hB:nth v j=b at*;generalize hC:nth v k=c at*;rcases pX (turn a b c) 0 with g|g|g
 .have g':0<turn a c b:=by rw[th];omega
  have hl:=Hq.1 g';have hval:VR [a,c,b] :=(ig _).1 ((uR (uc na nc nb)).2 g');have eT:db a b c=bo [a,c,b] :=by unfold db dX;rw[if_pos g,if_pos ((ig _).2 hval)]
  have hw:∀w,dB (db a b c) w=dB [a,c,b] w:=λw=>by rw[eT];exact Mx hval (by have:=nR (r:=[a,c,b]) af;omega) w
  have eo:m6 a b c=⟨a,c,b⟩:=by unfold m6;rw[if_pos g]
  rw[eo,<-Ny T hv h3 (N.symm h2) (N.symm h1) hl,<-Xw a b c,all _ hw];grind
 .simp[g]
 .have hl:=Hq.1 g;have hval:VR [a,b,c] :=(ig _).1 ((uR (uc na nb nc)).2 g);have eT:db a b c=bo [a,b,c] :=by unfold db dX;rw[if_neg aC,if_pos ((ig _).2 hval)]
  have hw:∀w,dB (db a b c) w=dB [a,b,c] w:=λw=>by rw[eT];exact Mx hval (by have:=nR (r:=[a,b,c]) af;omega) w
  rw[CU g,<-Ny T hv h1 h2 (N.symm h3) hl,all _ hw];grind
structure Idx(s:Shape)(D:List S)(v:List V)(L:List (Nat×Nat×Nat)):Prop where
 nodup:L.Nodup
 mem:∀i j k,(i,j,k)∈L↔i<j/\j<k/\k<(aA v)/\sides s D (nth v i) (nth v j)/\sides s D (nth v i) (nth v k)/\sides s D (nth v j) (nth v k)/\m7 s v i j k=aE
def q8(v:List V)(p:Nat×Nat×Nat):T3:=m6 (nth v p.1) (nth v p.2.1) (nth v p.2.2)
def Idx.all3(T:Tg s D){v:List V}(hv:∀x,x∈v↔x∈bW s)(hn:v.Nodup){L:List (Nat×Nat×Nat)}(I:Idx s D v L):All3 (bW s) (sides s D) (cT s) (L.map (q8 v)):=by
 have N:=T.filled.net;have get:∀{p},p∈L->p.1<p.2.1/\p.2.1<p.2.2/\p.2.2<(aA v)/\turn (nth v p.1) (nth v p.2.1) (nth v p.2.2)≠0/\Tri (bW s) (sides s D) (cT s) (q8 v p).a (q8 v p).b (q8 v p).c:=λ{p} hp=>by obtain⟨i,j,k⟩:=p;obtain⟨h1,h2,h3,h4,h5,h6,h7⟩:=(I.mem i j k).1 hp;obtain⟨g1,g2⟩:=(Ow T hv hn h1 h2 h3 h4 h6 h5).1 h7;exact⟨h1,h2,h3,g1,g2⟩
 refine⟨λt ht=> ?_,λa b c h=> ?_,?_⟩
 .grind
 ·
  have put:∀{i j k:Nat} {t:T3},i<j->j<k->k<aA v->sides s D (nth v i) (nth v j)->sides s D (nth v i) (nth v k)->sides s D (nth v j) (nth v k)->turn (nth v i) (nth v j) (nth v k)≠0->m6 (nth v i) (nth v j) (nth v k)=t->Tri (bW s) (sides s D) (cT s) t.a t.b t.c->t∈L.map (q8 v):=λ{i j k t} h1 h2 h3 h4 h5 h6 h7 h8 h9=>by subst h8;exact bn.2 ⟨(i,j,k),(I.mem i j k).2 ⟨h1,h2,h3,h4,h5,h6,(Ow T hv hn h1 h2 h3 h4 h6 h5).2 ⟨h7,h9⟩⟩,rfl⟩
  have ht:0<turn a b c:=Hq.2 h.left;have ht1:0<turn b c a:=by rw[<-tz];exact ht
  have ht2:0<turn c a b:=by rw[<-tz];exact ht1
  have f1:turn a c b≠0:=by rw[th];omega
  have f2:turn b a c≠0:=by rw[th];omega
  have f3:turn c b a≠0:=by rw[th];omega
  have ab:=h.ab;have bc:=h.bc;have ca:=h.ca;obtain⟨i,hi,rfl⟩:=fC.1 ((hv a).2 (N.mem ab));obtain⟨j,hj,rfl⟩:=fC.1 ((hv b).2 (N.mem bc));obtain⟨k,hk,rfl⟩:=fC.1 ((hv c).2 (N.mem ca));have n1:i≠j:=λe=>N.ne ab (by rw[e]);have n2:j≠k:=λe=>N.ne bc (by rw[e]);have n3:k≠i:=λe=>N.ne ca (by rw[e]);rcases FO n1 with g1|g1<;>rcases FO n2 with g2|g2<;>rcases FO n3 with g3|g3
  .omega
  .exact .inl (put g1 g2 hk ab (N.symm ca) bc aC (CU ht) h)
  .exact .inr (.inr (put g3 g1 hj ca (N.symm bc) ab aC (CU ht2) h.rot.rot))
  .exact .inl (put g3 g2 hj (N.symm ca) ab (N.symm bc) f1 (GV ht) h)
  .exact .inr (.inl (put g2 g3 hi bc (N.symm ab) ca aC (CU ht1) h.rot))
  .exact .inr (.inl (put g1 g3 hk (N.symm ab) bc (N.symm ca) f2 (GV ht1) h.rot))
  .exact .inr (.inr (put g2 g1 hi (N.symm bc) ca (N.symm ab) f3 (GV ht2) h.rot.rot))
  .omega
 .rw[kG];refine(y5.1 (oS.1 I.nodup)).imp ?_;rintro⟨i,j,k⟩ ⟨i',j',k'⟩ ⟨hp,hq,hne⟩;obtain⟨a1,a2,a3,_,_⟩:=get hp;obtain⟨b1,b2,b3,_,_⟩:=get hq;dsimp only at a1 a2 a3 b1 b2 b3;have vs:∀{i j k:Nat} (x:V),(x=(q8 v (i,j,k)).a\/x=(q8 v (i,j,k)).b\/x=(q8 v (i,j,k)).c)↔(x=nth v i\/x=nth v j\/x=nth v k):=λ{i j k} x=>by unfold q8 m6;grind
  have same:(∀x,(x=nth v i\/x=nth v j\/x=nth v k)->(x=nth v i'\/x=nth v j'\/x=nth v k'))->False:=λg=>by
   have k1:∀n,n<aA v->(nth v n=nth v i'\/nth v n=nth v j'\/nth v n=nth v k')->n=i'\/n=j'\/n=k':=λn hn' h=>by
    rcases h with h|h|h
    .exact .inl (gU hn hn' aC h)
    .exact .inr (.inl (gU hn hn' aC h))
    .exact .inr (.inr (gU hn hn' aC h))
   have m1:=k1 i aC (g _ (.inl rfl));have m2:=k1 j aC (g _ (.inr (.inl rfl)));have m3:=k1 k aC (g _ (.inr (.inr rfl)));grind
  refine⟨λe=>same λx hx=> ?_,λe=>same λx hx=> ?_,λe=>same λx hx=> ?_⟩
  .rw[<-vs x]at hx|-;grind
  .rw[<-vs x]at hx|-;rw[e]at hx;unfold T3.rot at hx;grind
  .rw[<-vs x]at hx|-;rw[e]at hx;unfold T3.rot at hx;grind
end
section
variable (s:Shape) (v:List V) (T:Tab)
def kL(i j:Nat):Nat->List (Nat×Nat×Nat)
 |0=>[]
 |m+1=>kL i j m++(if T i (j+1+m)&&(T j (j+1+m)&&m7 s v i j (j+1+m))then [(i,j,j+1+m)]else [])
def jL(i:Nat):Nat->List (Nat×Nat×Nat)
 |0=>[]
 |m+1=>jL i m++(if T i (i+1+m)then kL s v T i (i+1+m) (aA v-(i+1+m+1))else [])
def iL:Nat->List (Nat×Nat×Nat)
 |0=>[]
 |i+1=>iL i++jL s v T i (aA v-(i+1))
variable {s v T}
def Az{i j:Nat}:∀{m:Nat} {a b c:Nat},(a,b,c)∈kL s v T i j m↔a=i/\b=j/\j<c/\c<j+1+m/\T i c=aE/\T j c=aE/\m7 s v i j c=aE
 |0,a,b,c=>by
  unfold kL;grind
 |m+1,a,b,c=>by
  unfold kL;rw[bz,Az];grind
def QD{i j:Nat}:∀m,(kL s v T i j m).Nodup
 |0=>FL
 |m+1=>by
  unfold kL;rw[nK];refine⟨QD m,aH,?_⟩;rintro⟨a,b,c⟩ hp q hq e;have:=Az.1 hp;grind
def EF{i:Nat}:∀{m:Nat} {a b c:Nat},(a,b,c)∈jL s v T i m↔a=i/\i<b/\b<i+1+m/\b<c/\c<(aA v)/\T i b=aE/\T i c=aE/\T b c=aE/\m7 s v i b c=aE
 |0,a,b,c=>by
  unfold jL;grind
 |m+1,a,b,c=>by
  unfold jL;rw[bz,EF];constructor
  .rintro(⟨h1,h2,h3,h4⟩|h)
   .grind
   .split at h
    .obtain⟨h1,rfl,h3,h4,h5,h6,h7⟩:=Az.1 h;grind
    .cases h
  .rintro⟨h1,h2,h3,h4,h5,h6,h7,h8,h9⟩;by_cases g:b=i+1+m
   .subst g;right;rw[if_pos h6];exact Az.2 aH
   grind
def QE{i:Nat}:∀m,(jL s v T i m).Nodup
 |0=>FL
 |m+1=>by
  unfold jL;rw[nK];refine⟨QE m,by split;exact QD _;simp,?_⟩;rintro⟨a,b,c⟩ hp q hq e;subst e;have:=EF.1 hp;split at hq
  .have:=Az.1 hq;omega
  .cases hq
def Jt:∀{n:Nat} {a b c:Nat},(a,b,c)∈iL s v T n↔a<n/\a<b/\b<c/\c<(aA v)/\T a b=aE/\T a c=aE/\T b c=aE/\m7 s v a b c=aE
 |0,a,b,c=>by
  unfold iL;grind
 |n+1,a,b,c=>by
  unfold iL;rw[bz,Jt,EF];grind
def QH:∀n,(iL s v T n).Nodup
 |0=>FL
 |n+1=>by
  unfold iL;rw[nK];refine⟨QH n,QE _,?_⟩;rintro⟨a,b,c⟩ hp q hq e;subst e;have:=Jt.1 hp;have:=EF.1 hq;omega
end
def Xc{l:List S}{a b:V}:jh l a b=aE↔eE l a b:=by
 unfold jh eE;rw[List.any_eq_true];constructor
 .rintro⟨e,he,h⟩;simp only[Bool.or_eq_true,cD,beq_iff_eq]at h;rcases h with⟨h1,h2⟩|⟨h1,h2⟩
  .left;rw[<-h1,<-h2];exact he
  .right;rw[<-h1,<-h2];exact he
 grind
section
variable {s:Shape} {v:List V} {T:Tab}
def aE7{D:List S}(hT:∀i k,i<aA v->k<aA v->(T i k=aE↔sides s D (nth v i) (nth v k))):Idx s D v (iL s v T (aA v)):=by refine⟨QH _,λi j k=> ?_⟩;rw[Jt];grind
end
def T3.ring(t:T3):aU:=[t.a,t.b,t.c]
def Em(r:aU):T3:=⟨nth r 0,nth r 1,nth r 2⟩
def Rt(t u:T3):Prop:=t=u\/t=u.rot\/t=u.rot.rot
def aFk(t:T3):∃u:T3,Rt u t/\bo t.ring=u.ring:=by
 have h:=nR (r:=t.ring) (by simp[T3.ring]);unfold bo;generalize dt t.ring=n at h;match n,h with
 |0,_=>exact⟨t,.inl rfl,rfl⟩
 |1,_=>exact⟨t.rot,.inr (.inl rfl),rfl⟩
 |2,_=>exact⟨t.rot.rot,.inr (.inr rfl),rfl⟩
def bgn(t:T3):T3:=Em (bo t.ring)
def S9(t:T3):Rt (bgn t) t/\bo t.ring=(bgn t).ring:=by
 obtain⟨u,h1,h2⟩:=aFk t;have:bgn t=u:=by unfold bgn;rw[h2];rfl
 grind
def Rt.symm{t u:T3}(h:Rt t u):Rt u t:=by
 rcases h with rfl|rfl|rfl
 .exact .inl rfl
 .exact .inr (.inr rfl)
 .exact .inr (.inl rfl)
def Rt.trans{t u w:T3}(h:Rt t u)(g:Rt u w):Rt t w:=by
 rcases h with rfl|rfl|rfl<;>rcases g with rfl|rfl|rfl
 .exact .inl rfl
 .exact .inr (.inl rfl)
 .exact .inr (.inr rfl)
 .exact .inr (.inl rfl)
 .exact .inr (.inr rfl)
 .exact .inl rfl
 .exact .inr (.inr rfl)
 .exact .inl rfl
 .exact .inr (.inl rfl)
section
variable {W:List V} {side:V->V->Prop} {ins:P3->Bool}
def Tri.rt{t u:T3}(h:Tri W side ins t.a t.b t.c)(g:Rt u t):Tri W side ins u.a u.b u.c:=by
 rcases g with rfl|rfl|rfl
 .exact h
 .exact h.rot
 .exact h.rot.rot
def Jg{t u:T3}:¬Rt t u↔(t≠u/\t≠u.rot/\t≠u.rot.rot):=by unfold Rt;grind
def All3.rots{TL:List T3}(A:All3 W side ins TL){f:T3->T3}(hf:∀t,Rt (f t) t):All3 W side ins (TL.map f):=by
 refine⟨λt ht=> ?_,λa b c h=> ?_,?_⟩
 .obtain⟨u,hu,rfl⟩:=bn.1 ht;exact(A.tri u hu).rt (hf u)
 .have key:∀u:T3,u∈TL->Rt u ⟨a,b,c⟩->(⟨a,b,c⟩:T3)∈TL.map f\/(⟨b,c,a⟩:T3)∈TL.map f\/(⟨c,a,b⟩:T3)∈TL.map f:=λu hu hr=>by
   have m:=List.mem_map_of_mem (f:=f) hu;rcases(hf u).trans hr with e|e|e
   .grind
   .rw[e]at m;exact .inr (.inl m)
   .rw[e]at m;exact .inr (.inr m)
  rcases A.all a b c h with h|h|h
  .exact key _ h (.inl rfl)
  .exact key _ h (.inr (.inl rfl))
  .exact key _ h (.inr (.inr rfl))
 .rw[kG];refine A.once.imp λ{t u} h=> ?_;rw[<-Jg]at h|-;exact λg=>h (((hf t).symm.trans g).trans (hf u))
def All3.perm'{TL TM:List T3}(A:All3 W side ins TL)(p:TL.Perm TM):All3 W side ins TM:=by
 refine⟨λt ht=>A.tri t (p.mem_iff.2 ht),λa b c h=> ?_,?_⟩
 .simp only[<-p.mem_iff];exact A.all a b c h
 .refine(p.pairwise_iff λ{t u} h=> ?_).1 A.once;rw[<-Jg]at h|-;exact λg=>h g.symm
def aFx{a b c x y z:V}(hab:a≠b)(hbc:b≠c)(hca:c≠a)(ha:a=x\/a=y\/a=z)(hb:b=x\/b=y\/b=z)(hc:c=x\/c=y\/c=z)(h1:0<ev (lin a b) (pt c))(h2:0<ev (lin x y) (pt z)):Rt ⟨a,b,c⟩ ⟨x,y,z⟩:=by
 rcases ha with rfl|rfl|rfl<;>rcases hb with rfl|rfl|rfl<;>rcases hc with rfl|rfl|rfl
 all_goals first|exact aH|exact .inl rfl|exact .inr (.inl rfl)|exact .inr (.inr rfl)|skip
 all_goals exfalso;unfold ev lin pt at h1 h2;grind
def aDW(N:Net W side){t u:T3}(ht:Tri W side ins t.a t.b t.c)(hu:Tri W side ins u.a u.b u.c){p q:P3}(hp:In [lin t.a t.b,lin t.b t.c,lin t.c t.a] p)(hpu:In [lin u.a u.b,lin u.b u.c,lin u.c u.a] p)
  (hq:In [lin t.a t.b,lin t.b t.c,lin t.c t.a] q):∀g∈[lin u.a u.b,lin u.b u.c,lin u.c u.a],0<ev g q:=by
 have P:=aA9 (u:=u.a) (v:=u.b) (w:=u.c) (by rw[<-di];exact hu.left);obtain⟨m,n,hm,hn,hmn,h1,h2⟩:=KW p q hp.1 hq.1 _ hpu.2;rcases h2 with h2|h2
 .have hd:0<(cmb m p n q).d:=by
   show 0<m*p.d+n*q.d;have a1:=cF hm (fZ hp.1);have a2:=cF hn (fZ hq.1);rcases cH 0 m with h|h
   .have:=bJ h hp.1;omega
   .have:=bJ (aC:0<n) hq.1;omega
  obtain⟨s,hs,x,y,k,hx,hy,hk,e⟩:=P.side _ hd h2 h1;have hside:side s.a s.b:=by
   simp only[bO,cp,or_false]at hs;rcases hs with rfl|rfl|rfl
   .exact hu.ab
   .exact hu.bc
   .exact hu.ca
  have pos:∀f∈[lin t.a t.b,lin t.b t.c,lin t.c t.a],0<ev f (cmb m p n q):=λf hf=>by
   rw[bB];have a1:=cF hm (fZ (hp.2 f hf));have a2:=cF hn (fZ (hq.2 f hf));rcases cH 0 m with h|h
   .have:=bJ h (hp.2 f hf);omega
   .have:=bJ (aC:0<n) (hq.2 f hf);omega
  have hxy:0<x+y:=by refine dS λh=> ?_;have e1:=e (lin t.a t.b);have e2:=bJ hk (pos (lin t.a t.b) af);rw[(aC:x=0),(aC:y=0),wX,wX]at e1;omega
  obtain⟨f,hf,g⟩:=ht.free N s.a s.b hside x y hx hy hxy;have e2:=bJ hk (pos f hf);grind
 .exact h2.2
def Z8{A B:Int}(h:∀n:Int,0<=n->0<n*A+B):0<=A:=by refine dS λg=> ?_;have:=h (B.natAbs) aC;have h2:(B.natAbs:Int)*A<=(B.natAbs:Int)*(-1):=dg aC aC;omega
def Hd(N:Net W side){t u:T3}(ht:Tri W side ins t.a t.b t.c)(hu:Tri W side ins u.a u.b u.c){p:P3}(hp:In [lin t.a t.b,lin t.b t.c,lin t.c t.a] p)(hpu:In [lin u.a u.b,lin u.b u.c,lin u.c u.a] p):
  t.a=u.a\/t.a=u.b\/t.a=u.c:=by
 have e:∀x y z:V,ev (lin x y) (pt z)=ev (lin y z) (pt x):=λu v w=>by unfold ev lin pt;grind
 have hl:=ht.left;have key:∀g∈[lin u.a u.b,lin u.b u.c,lin u.c u.a],0<=ev g (pt t.a):=λg hg=>by
  refine Z8 (B:=ev g p) λn hn=> ?_;have:=aDW N ht hu hp hpu (q:=cmb n (pt t.a) 1 p) ⟨by show 0<n*1+1*p.d;have:=hp.1;omega,λf hf=> ?_⟩ g hg
  .rw[bB]at this;omega
  .have h0:0<=ev f (pt t.a):=by
    simp only[bO,cp,or_false]at hf;rcases hf with rfl|rfl|rfl
    .rw[cN];omega
    .grind
    .rw[cU];omega
   have h1:=hp.2 f hf;have h2:=cF hn h0;rw[bB];omega
 exact hu.empty _ (N.mem ht.ab) (key _ af) (key _ af) (key _ af)
def aDy(N:Net W side){t u:T3}(ht:Tri W side ins t.a t.b t.c)(hu:Tri W side ins u.a u.b u.c){p:P3}(hp:In [lin t.a t.b,lin t.b t.c,lin t.c t.a] p)(hpu:In [lin u.a u.b,lin u.b u.c,lin u.c u.a] p):Rt t u:=by have i:∀{x y z:V},In [lin x y,lin y z,lin z x] p->In [lin y z,lin z x,lin x y] p:=λh=>⟨h.1,λf hf=>h.2 f aH⟩;exact aFx (N.ne ht.ab) (N.ne ht.bc) (N.ne ht.ca) (Hd N ht hu hp hpu) (Hd (t:=t.rot) N ht.rot hu (i hp) hpu) (Hd (t:=t.rot.rot) N ht.rot.rot hu (i (i hp)) hpu) ht.left hu.left
end
def DU{r:aU}(h:2<=aA r):area r=((aW r).map λe=>cross e.a e.b).sum:=by unfold area aW;rw[if_neg aC,du];rfl
def YN(t:T3):aW t.ring=t.sides:=sU _ _ _
def Sb(x e:S):Bool:=decide (e=x)||decide (e=swp x)
def C2{x:S}(hx:x≠swp x):∀{l:List S},l.Nodup->l.countP (Sb x)=(if x∈l then 1 else 0)+(if swp x∈l then 1 else 0)
 |[],_=>af
 |e::l,h=>by
  rw[mo]at h;rw[List.countP_cons,C2 hx h.2];unfold Sb;grind
section
variable {s:Shape} {D:List S}
def OE(t:T3):area t.ring=cross t.a t.b+cross t.b t.c+cross t.c t.a:=by rw[DU (by simp[T3.ring]),YN];unfold T3.sides;grind
def Oh:∀{hs:List aU},(∀r∈hs,2<=aA r)->(((hs.flatMap aW).map swp).map λe=>cross e.a e.b).sum= -(hs.map area).sum
 |[],_=>rfl
 |r::hs,h=>by
  have c:∀l:List S,((l.map swp).map λe=>cross e.a e.b).sum= -(l.map λe=>cross e.a e.b).sum:=λl=>by
   induction l with
   |nil=>rfl
   |cons e l ih=>
    simp only[dU,oT,ih];have:cross (swp e).a (swp e).b= -cross e.a e.b:=by show cross e.b e.a=_;unfold cross;grind
    omega
  rw[fw,dV,dV,nM,Oh aH,c,<-DU aH,dU,oT];omega
def ZQ(T:Tg s D){TL:List T3}(A:All3 (bW s) (sides s D) (cT s) TL):((TL.map T3.ring).map area).sum=area s.outer-(s.holes.map area).sum:=by have h:(TL.map λt=>cross t.a t.b+cross t.b t.c+cross t.c t.a).sum=_:=Il T A λe=>cross e.a e.b;rw[AC (f:=λd:S=>cross d.a d.b+cross (swp d).a (swp d).b) (λd _=>by show cross d.a d.b+cross d.b d.a=0;unfold cross;grind)]at h;unfold de at h;rw[dV,nM,Oh (λr hr=>by have:=(T.vs.ring (cM _ hr)).three;omega),<-DU (by have:=T.vs.outer.three;omega)]at h;rw[du,show(area∘T3.ring)=λt:T3=>cross t.a t.b+cross t.b t.c+cross t.c t.a from funext OE];omega
def aA7(T:Tg s D){v:List V}(hv:∀x,x∈v↔x∈bW s)(hn:v.Nodup){L:List (Nat×Nat×Nat)}(I:Idx s D v L){R:List aU}(p:R.Perm (L.map λq=>db (nth v q.1) (nth v q.2.1) (nth v q.2.2))):
  ∃TL,All3 (bW s) (sides s D) (cT s) TL/\R=TL.map T3.ring:=by
 have N:=T.filled.net;have e:(L.map λq=>db (nth v q.1) (nth v q.2.1) (nth v q.2.2))=((L.map (q8 v)).map bgn).map T3.ring:=by
  rw[du,du];refine lg λq hq=> ?_;obtain⟨i,j,k⟩:=q;obtain⟨h1,h2,h3,sij,sik,sjk,he⟩:=(I.mem i j k).1 hq;have na:=lF T.vs (N.mem sij);have nb:=lF T.vs (N.mem sjk);have nc:=lF T.vs (N.mem (N.symm sjk));have ht:turn (nth v i) (nth v j) (nth v k)≠0:=by unfold m7 at he;rw[cD,cD,bne_iff_ne]at he;exact he.1.1
  show db (nth v i) (nth v j) (nth v k)=(bgn (m6 (nth v i) (nth v j) (nth v k))).ring;rw[<-(S9 _).2];unfold db dX m6;by_cases g:turn (nth v i) (nth v j) (nth v k)<0
  .rw[if_pos g,if_pos g,if_pos ((uR (uc na nc nb)).2 (by rw[th];omega))];rfl
  .rw[if_neg g,if_neg g,if_pos ((uR (uc na nb nc)).2 aC)];rfl
 rw[e]at p;have q:=p.map Em;rw[du,show(Em∘T3.ring)=id from rfl,List.map_id]at q;refine⟨R.map Em,((I.all3 T hv hn).rots λt=>(S9 t).1).perm' q.symm,?_⟩;rw[du]
 conv=>lhs;rw[<-List.map_id R]
 refine lg λr hr=> ?_;obtain⟨t,_,rfl⟩:=bn.1 (p.mem_iff.1 hr);rfl
end
def Bet(q:P3)(a b:V):Prop:=∃x y k:Int,0<=x/\0<=y/\0<k/\cmb x (pt a) y (pt b)=cmb k q 0 q
def aDB{e:S}{q:Pt}(hq:0<q.den)(hne:e.a≠e.b):onP e q=aE↔Bet (p3 q) e.a e.b:=by
 constructor
 .intro h;obtain⟨x,y,k,h1,h2,h3,_,h5⟩:=EA hq hne h;exact⟨x,y,k,h1,h2,h3,by rw[h5];unfold cmb p3;simp⟩
 .rintro⟨x,y,k,h1,h2,h3,h4⟩;have hx:x*e.a.x+y*e.b.x=k*q.x:=by have:=congrArg P3.x h4;simpa[cmb,pt,p3]using this
  have hy:x*e.a.y+y*e.b.y=k*q.y:=by have:=congrArg P3.y h4;simpa[cmb,pt,p3]using this
  have hd:x+y=k*q.den:=by have:=congrArg P3.d h4;simpa[cmb,pt,p3]using this
  have box:∀u v w:Int,x*u+y*v=k*w->min u v*q.den<=w/\w<=max u v*q.den:=λu v w h=>by
   have l1:=dg (Int.min_le_left u v) h1;have l2:=dg (Int.min_le_right u v) h2;have l3:=dg (Int.le_max_left u v) h1;have l4:=dg (Int.le_max_right u v) h2;have e1:k*(min u v*q.den)=(x+y)*min u v:=by rw[hd];grind
   have e2:k*(max u v*q.den)=(x+y)*max u v:=by rw[hd];grind
   rw[rT]at e1 e2;exact⟨Int.le_of_mul_le_mul_left aC h3,Int.le_of_mul_le_mul_left aC h3⟩
  rw[KR e q hq];unfold onR;simp only[cD,decide_eq_true_eq,beq_iff_eq,oj];refine⟨⟨⟨⟨(box _ _ _ hx).1,(box _ _ _ hx).2⟩,(box _ _ _ hy).1⟩,(box _ _ _ hy).2⟩,?_⟩;have h0:ev (lin e.a e.b) (p3 q)=0:=by
   have:=congrArg (ev (lin e.a e.b)) h4;rw[bB,bB,cN,cU]at this;rcases dI.1 (aC:k*ev (lin e.a e.b) (p3 q)=0)with h|h
   .omega
   .exact h
  rw[<-h0];unfold gi cross sub toV ev lin p3;grind
section
variable {s:Shape} {D:List S}
end
section
variable {s:Shape} {D:List S}
def aCK{W:List V}{side:V->V->Prop}{ins:P3->Bool}(N:Net W side){t:T3}(ht:Tri W side ins t.a t.b t.c){p:P3}(hp:In [lin t.a t.b,lin t.b t.c,lin t.c t.a] p){a b:V}(hab:side a b):¬Bet p a b:=by rintro⟨x,y,k,hx,hy,hk,e⟩;have hd:=congrArg P3.d e;have hd:x*1+y*1=k*p.d+0*p.d:=hd;have:=bJ hk hp.1;obtain⟨f,hf,g⟩:=ht.free N a b hab x y hx hy aC;have h1:=congrArg (ev f) e;rw[bB,bB]at h1;have h2:=bJ hk (hp.2 f hf);grind
variable (T:Tg s D) {q:Pt} (hq:dP q=aE) (hqd:0<q.den)
include T hq hqd
end
def i6(v:V):Prop:=0<v.y\/(v.y=0/\0<v.x)
instance(v:V):Decidable (i6 v):=by unfold i6;infer_instance
def dot(a b:V):Int:=a.x*b.x+a.y*b.y
def alt(a b:V):Prop:=(i6 a/\¬i6 b)\/((i6 a↔i6 b)/\0<cross a b)
instance(a b:V):Decidable (alt a b):=by unfold alt;infer_instance
def yR(f t:V):Int:=if 0<cross f t then 0 else if cross f t<0 then 2 else if dot f t<0 then 1 else 3
def si(f a b:V):Bool:=decide (yR f a<yR f b)||(decide (yR f a=yR f b)&&decide (0<cross a b))
def nz(v:V):Prop:=¬(v.x=0/\v.y=0)
def gh(a b:V):Prop:=¬(cross a b=0/\0<=dot a b)
def aCC(a b:V):dot b a=dot a b:=by unfold dot;grind
def I4{a:V}(ha:i6 a){k:Int}(hk:0<=k):0<=k*a.y/\(k*a.y=0->0<=k*a.x/\(k*a.x=0->k=0)):=by
 rcases ha with h|⟨h,h2⟩
 .refine⟨cF hk aC,λh0=> ?_⟩;rcases dI.1 h0 with h1|h1
  .grind
  .omega
 .rw[h,fP];refine⟨kY _,λ_=>⟨cF hk aC,λh0=> ?_⟩⟩;rcases dI.1 h0 with h1|h1
  .exact h1
  .omega
def aF6{a b c:V}(ha:i6 a)(hb:i6 b)(hc:i6 c){i j k:Int}(hi:0<=i)(hj:0<=j)(hk:0<=k)(hx:i*a.x+j*b.x+k*c.x=0)(hy:i*a.y+j*b.y+k*c.y=0):i=0/\j=0/\k=0:=by obtain⟨a1,a2⟩:=I4 ha hi;obtain⟨b1,b2⟩:=I4 hb hj;obtain⟨c1,c2⟩:=I4 hc hk;omega
def eV(v:V):Int:=if i6 v then 1 else-1
def Jz{v:V}(h:nz v):i6 ⟨eV v*v.x,eV v*v.y⟩:=by
 unfold eV nz at*;by_cases hp:i6 v
 .simp_all
 .unfold i6 at*;grind
def Kb(v:V):eV v*eV v=1:=by unfold eV;split<;>rfl
def aEw(u v w:V):cross u v*w.x+cross v w*u.x+cross w u*v.x=0/\cross u v*w.y+cross v w*u.y+cross w u*v.y=0:=by unfold cross;grind
def vO{u v w:V}(hu:nz u)(hv:nz v)(hw:nz w)(h1:0<=eV w*cross u v)(h2:0<=eV u*cross v w)(h3:0<=eV v*cross w u):cross u v=0/\cross v w=0/\cross w u=0:=by obtain⟨x,y⟩:=aEw u v w;have sw:=Kb w;have su:=Kb u;have sv:=Kb v;have key:=aF6 (Jz hw) (Jz hu) (Jz hv) h1 h2 h3 aH aH;grind
def xG{u v w:V}(hu:nz u)(hv:nz v)(hw:nz w)(h1:eV w*cross u v<=0)(h2:eV u*cross v w<=0)(h3:eV v*cross w u<=0):cross u v=0/\cross v w=0/\cross w u=0:=by have:=vO hv hu hw (by rw[iI u v,oU];omega) (by rw[iI w u,oU];omega) (by rw[iI v w,oU];omega);rw[iI u v,iI w u,iI v w]at this;omega
def nW{u v:V}(hu:nz u)(hv:nz v)(h:cross u v=0):(0<dot u v/\(i6 u↔i6 v))\/(dot u v<0/\(i6 u↔¬i6 v)):=by
 have e1:dot u u*v.x=dot u v*u.x:=by unfold dot cross at*;grind
 have e2:dot u u*v.y=dot u v*u.y:=by unfold dot cross at*;grind
 have hd:0<dot u u:=by
  unfold dot nz at*;have sq:∀x:Int,0<=x*x:=λx=>by
   rcases Int.le_total 0 x with h|h
   .exact cF h h
   .have:=cF (aC:0<= -x) (aC:0<= -x);grind
  have h1:=sq u.x;have h2:=sq u.y;by_cases hx:u.x=0
  .have hy:u.y≠0:=aH;have:u.y*u.y≠0:=λh=>by rcases dI.1 h with h|h<;>exact hy h
   omega
  .have:u.x*u.x≠0:=λh=>by rcases dI.1 h with h|h<;>exact hx h
   omega
 generalize dot u u=d at*;generalize dot u v=k at*;have sg:∀a b:Int,d*a=k*b->(0<k->(0<a↔0<b)/\(a=0↔b=0))/\(k<0->(0<a↔b<0)/\(a=0↔b=0)/\(a<0↔0<b))/\(k=0->a=0):=by
  intro a b e;obtain⟨p1,p2,p3,p4,p5,p6⟩:=jm d a;obtain⟨q1,q2,q3,q4,q5,q6⟩:=jm k b;refine⟨λhk=> ?_,λhk=> ?_,λhk=> ?_⟩
  .grind
  .grind
  .grind
 obtain⟨x1,x2,x3⟩:=sg _ _ e1;obtain⟨y1,y2,y3⟩:=sg _ _ e2;rcases pX k 0 with hk|hk|hk
 .unfold i6 nz at*;omega
 .exact absurd aH hv
 .unfold i6;omega
def LC(u v w:V):Prop:=(alt u v/\alt v w)\/(alt v w/\alt w u)\/(alt w u/\alt u v)
def aBp{u v w:V}(hu:nz u)(hv:nz v)(hw:nz w)(_h1:gh u v)(_h2:gh v w)(_h3:gh w u):si u v w=aE↔LC u v w:=by have t1:=vO hu hv hw;have t2:=xG hu hv hw;have l1:=nW hu hv;have l3:=nW hw hu;have d3:=aCC w u;have c3:=iI w u;unfold gh at _h1 _h2 _h3;unfold eV at t1 t2;unfold si LC alt yR;generalize cross u v=a at*;grind
def If{a b:V}(h:alt a b):¬alt b a:=by have c:=iI a b;unfold alt at*;grind
def uh(p q:V)(cw:Bool)(b:V):List V->V
 |[] =>b
 |x::l=>if x=q then uh p q cw b l else if b=q\/si (sub q p) (sub x p) (sub b p)≠cw then uh p q cw x l else uh p q cw b l
def fW(l:List V)(p q:V)(cw:Bool):V:=uh p q cw q l
def pw{p q m:V}{cw:Bool}(hm:m≠q){S:V->Prop}(H1:∀x,S x->x≠q->x≠m->si (sub q p) (sub m p) (sub x p)≠cw)(H2:∀x,S x->x≠q->x≠m->¬si (sub q p) (sub x p) (sub m p)≠cw):
  ∀(l:List V) (b:V),(∀x∈l,S x)->(b=q\/S b)->(b=m\/m∈l)->uh p q cw b l=m
 |[],b,_,_,h=>by
  rcases h with h|h
  .exact h
  .cases h
 |x::l,b,hl,hb,h=>by
  have hl':∀y∈l,S y:=aH;have hx:=hl x cR;unfold uh;by_cases e1:x=q
  .rw[if_pos e1];refine pw hm H1 H2 l b hl' hb ?_;grind
  .rw[if_neg e1];by_cases e2:x=m
   .subst e2;by_cases e3:b=x
    .subst e3;split
     .exact pw hm H1 H2 l b hl' (.inr hx) (.inl rfl)
     .exact pw hm H1 H2 l b hl' (.inr hx) (.inl rfl)
    .rw[if_pos]
     .exact pw hm H1 H2 l x hl' (.inr hx) (.inl rfl)
     grind
   .by_cases e3:b=m
    .subst e3;rw[if_neg]
     .exact pw hm H1 H2 l b hl' hb (.inl rfl)
     grind
    .have hml:m∈l:=by
      rcases h with h|h
      .grind
      .grind
     split
     .exact pw hm H1 H2 l x hl' (.inr hx) (.inr hml)
     .exact pw hm H1 H2 l b hl' hb (.inr hml)
def CL{p q:V}{cw:Bool}:∀(l:List V),(∀x∈l,x=q)->uh p q cw q l=q
 |[],_=>rfl
 |x::l,h=>by
  unfold uh;rw[if_pos (h x aH)];exact CL l aH
structure Fan(p:V)(L:List V):Prop where
 nz:∀x∈L,nz (sub x p)
 apart:∀x∈L,∀y∈L,x≠y->gh (sub x p) (sub y p)
 sorted:L.Pairwise λa b=>alt (sub a p) (sub b p)
def SP(a:V):¬alt a a:=λh=>If h h
section
variable {p:V} {L:List V}
def Fan.nodup(F:Fan p L):L.Nodup:=LY (R:=λa b=>alt (sub a p) (sub b p)) (λ{a b} h (e:a=b)=>by subst e;exact SP _ h) F.sorted
def Fan.lt(F:Fan p L){i j:Nat}(hi:i<aA L)(hj:j<aA L)(h:i<j):alt (sub L[i] p) (sub L[j] p):=u5.1 F.sorted i j hi hj h
def Fan.ix(F:Fan p L){i j:Nat}(hi:i<aA L)(hj:j<aA L):alt (sub L[i] p) (sub L[j] p)↔i<j:=by
 constructor
 .intro h;rcases Bd i j with h1|h1|h1
  .exact h1
  .subst h1;exact absurd h (SP _)
  .exact absurd h (If (F.lt hj hi h1))
 .exact F.lt hi hj
def Fan.ne(F:Fan p L){i j:Nat}(hi:i<aA L)(hj:j<aA L)(h:i≠j):L[i]≠L[j] :=by
 rcases FO h with h1|h1
 .exact u5.1 F.nodup i j hi hj h1
 .exact(u5.1 F.nodup j i hj hi h1).symm
def Fan.soon(F:Fan p L){i j k:Nat}(hi:i<aA L)(hj:j<aA L)(hk:k<aA L)(h1:i≠j)(h2:j≠k)(h3:k≠i):
  si (sub L[i] p) (sub L[j] p) (sub L[k] p)=aE↔(i<j/\j<k)\/(j<k/\k<i)\/(k<i/\i<j):=by
 have m:∀{i:Nat} (hi:i<aA L),L[i]∈L:=aH;rw[aBp (F.nz _ (m hi)) (F.nz _ (m hj)) (F.nz _ (m hk)) (F.apart _ (m hi) _ (m hj) (F.ne hi hj h1)) (F.apart _ (m hj) _ (m hk) (F.ne hj hk h2)) (F.apart _ (m hk) _ (m hi) (F.ne hk hi h3))];unfold LC;rw[F.ix hi hj,F.ix hj hk,F.ix hk hi]
def Fan.next(F:Fan p L){l:List V}(hl:∀x,x∈l↔x∈L){i:Nat}(hi:i<aA L){j:Nat}(hj:j<aA L)(hij:j=(i+1) % (aA L)):fW l p L[i] aK=L[j] :=by
 by_cases h1:aA L=1
 .have e:j=i:=by rw[hij,h1];omega
  subst e;refine CL l λx hx=> ?_;obtain⟨k,hk,rfl⟩:=gv.1 ((hl x).1 hx);grind
 .have hc:(j=i+1/\i+1<aA L)\/(j=0/\i+1=aA L):=by
   by_cases h:i+1<aA L
   .rw[hij,dK h];omega
   .have:i+1=aA L:=aC;simp_all
  have hne:j≠i:=aC;refine pw (S:=λx=>x∈L) (F.ne hj hi hne) ?_ ?_ l _ aH (.inl rfl) aH
  .intro x hx e1 e2;obtain⟨k,hk,rfl⟩:=gv.1 hx;have k1:k≠i:=aH;have k2:k≠j:=aH;rw[(F.soon hi hj hk (kZ hne) (kZ k2) k1).2 aC];simp
  .intro x hx e1 e2;obtain⟨k,hk,rfl⟩:=gv.1 hx;have k1:k≠i:=aH;have k2:k≠j:=aH;have:=mt (F.soon hi hk hj (kZ k1) k2 hne).1 aC;grind
def Fan.prev(F:Fan p L){l:List V}(hl:∀x,x∈l↔x∈L){i:Nat}(hi:i<aA L){j:Nat}(hj:j<aA L)(hij:j=(i+aA L-1) % (aA L)):fW l p L[i] aE=L[j] :=by
 by_cases h1:aA L=1
 .have e:j=i:=aC;subst e;refine CL l λx hx=> ?_;obtain⟨k,hk,rfl⟩:=gv.1 ((hl x).1 hx);grind
 .have hc:(i=j+1)\/(i=0/\j+1=aA L):=by
   by_cases h:i=0
   .rw[hij,dK aC];omega
   .rw[hij,(aC:i+aA L-1=(i-1)+aA L),mh,dK aC];omega
  have hne:j≠i:=aC;refine pw (S:=λx=>x∈L) (F.ne hj hi hne) ?_ ?_ l _ aH (.inl rfl) aH
  .intro x hx e1 e2;obtain⟨k,hk,rfl⟩:=gv.1 hx;have k1:k≠i:=aH;have k2:k≠j:=aH;have:=mt (F.soon hi hj hk (kZ hne) (kZ k2) k1).1 aC;omega
  .intro x hx e1 e2;obtain⟨k,hk,rfl⟩:=gv.1 hx;have k1:k≠i:=aH;have k2:k≠j:=aH;rw[(F.soon hi hk hj (kZ k1) k2 hne).2 aC];simp
end
section
variable {W:List V} {side:V->V->Prop}
def mQ{a p:V}(h:a≠p):nz (sub a p):=λ⟨h1,h2⟩=>h (by obtain⟨ax,ay⟩:=a;obtain⟨px,py⟩:=p;unfold sub at h1 h2;grind)
def Net.fanApart(N:Net W side){p x y:V}(hx:side p x)(hy:side p y)(hne:x≠y):gh (sub x p) (sub y p):=λ⟨h1,h2⟩=>hne (by
 symm;refine N.ray hx hy (by rw[di];exact h1) ?_;have e:ev (bG p x) (pt y)=dot (sub x p) (sub y p):=by unfold ev bG pt dot sub;grind
 omega)
def aFc(N:Net W side){p:V}{L:List V}(h:∀x∈L,side p x)(hs:L.Pairwise λa b=>alt (sub a p) (sub b p)):Fan p L where
 nz:=λx hx=>mQ (N.ne (h x hx)).symm
 apart:=λx hx y hy hne=>N.fanApart (h x hx) (h y hy) hne
 sorted:=hs
end
def aA1{a b c:V}(ha:nz a)(hb:nz b)(hc:nz c)(h1:alt a b)(h2:alt b c):alt a c:=by have t1:=vO ha hb hc;have t2:=xG ha hb hc;have c3:=iI a c;unfold eV at t1 t2;unfold alt at*;grind
def aEs{a b:V}(ha:nz a)(hb:nz b)(h:gh a b)(h1:¬alt a b):alt b a:=by have l:=nW ha hb;have c:=iI a b;unfold gh at h;unfold alt at*;grind
def cS:V->List V->List S
 |_,[] =>[]
 |a,x::l=>⟨a,x⟩::cS x l
def cyc:List V->List S
 |[] =>[]
 |a::l=>cS a (l++[a])
def w9:∀(a:V) (l:List V) (x:V) (m:List V),cS a (l++x::m)=cS a (l++[x])++cS x m
 |a,[],x,m=>rfl
 |a,y::l,x,m=>by
  show(⟨a,y⟩:S)::cS y (l++x::m)=(⟨a,y⟩:S)::(cS y (l++[x])++cS x m);rw[w9 y l x m]
def Co:∀(a:V) (l:List V) (x:V),(cS a (l++[x])).map S.a=a::l
 |a,[],x=>rfl
 |a,y::l,x=>by
  show a::(cS y (l++[x])).map S.a=_;rw[Co y l x]
def Cp:∀(a:V) (l:List V),(cS a l).map S.b=l
 |a,[] =>rfl
 |a,y::l=>by
  show y::(cS y l).map S.b=_;rw[Cp y l]
def uH:∀r:List V,(cyc r).map S.a=r
 |[] =>rfl
 |a::l=>Co a l a
def Hb{r:List V}(h:r.Nodup):(cyc r).Nodup:=by rw[<-uH r]at h;exact LY aH (kG.1 h)
def oM{r:List V}{e:S}(h:e∈cyc r):e.a∈r:=by rw[<-uH r];grind
def nD{r:List V}{e:S}(h:e∈cyc r):e.b∈r:=by
 cases r with
 |nil=>cases h
 |cons a l=>
  have:e.b∈(cS a (l++[a])).map S.b:=bn.2 ⟨e,h,rfl⟩;rw[Cp]at this;grind
def SI(a:V)(l:List V):(cyc (l++[a])).Perm (cyc (a::l)):=by
 cases l with
 |nil=>exact .refl _
 |cons x m=>
  show(cS x (m++[a] ++[x])).Perm (⟨a,x⟩::cS x (m++[a]));rw[kw,FP,w9];exact(yu (l₁:=cS x (m++[a])) (l₂:=cS a [x]))
structure CX(r:List V):Prop where
 three:3<=aA r
 nodup:r.Nodup
 left:∀e∈cyc r,∀v∈r,0<=ev (lin e.a e.b) (pt v)
def CX.rot{a:V}{l:List V}(h:CX (a::l)):CX (l++[a]) where
 three:=by have:=h.three;grind
 nodup:=(yu (l₁:=l) (l₂:=[a])).nodup_iff.2 h.nodup
 left:=λe he v hv=>h.left e ((SI a l).mem_iff.1 he) v (by grind)
def Xs{u p q:V}(hu:nz u)(hp:nz p)(hq:nz q)(h1:gh u p)(h2:gh u q)(h3:gh p q)(a:0<=cross u p)(b:cross u q<=0)(c:cross p q<=0):0<cross u p/\cross u q<0:=by have t1:=vO hu hp hq;have t2:=xG hu hp hq;have l1:=nW hu hp;have l2:=nW hu hq;have l3:=nW hp hq;have c3:=iI u q;unfold eV at t1 t2;unfold gh at h1 h2 h3;grind
def SJ{f:P3}{o w u v:V}(h0:ev f (pt o)=0)(hw:0<=ev f (pt w))(hu:0<=ev f (pt u))(hD:0<ev (lin o w) (pt u))(h1:0<=ev (lin o w) (pt v))(h2:0<=ev (lin u o) (pt v)):0<=ev f (pt v):=by
 have e:ev (lin o w) (pt u)*ev f (pt v)=ev (lin u o) (pt v)*ev f (pt w)+ev (lin o w) (pt v)*ev f (pt u)+(ev (lin o w) (pt u)-ev (lin u o) (pt v)-ev (lin o w) (pt v))*ev f (pt o):=by unfold ev lin pt;grind
 have a:=cF h2 hw;have b:=cF h1 hu;rw[h0,fP]at e;by_cases hn:ev f (pt v)<0
 .have:=gr hD hn;omega
 .omega
section
variable {W:List V} {side:V->V->Prop}
def aCN{i j v p:V}{f k1 k2:P3}(hij:i≠j)(h1i:ev k1 (pt i)=0)(h1j:0<ev k1 (pt j))(h2j:ev k2 (pt j)=0)(h2i:0<ev k2 (pt i))(fi:0<=ev f (pt i))(fj:0<=ev f (pt j))
  (hv:ev (lin i j) (pt v)<=0) (v1:0<=ev k1 (pt v)) (v2:0<=ev k2 (pt v)) (hp:0<ev (lin i j) (pt p)) (p1:0<=ev k1 (pt p)) (p2:0<=ev k2 (pt p)) (fp:ev f (pt p)=0):0<=ev f (pt v):=by
 have hL:=jw hij;have hQ:ev (lin i j) (cmb (ev (lin i j) (pt p)) (pt v) (-ev (lin i j) (pt v)) (pt p))=0:=by rw[bB,Int.neg_mul,gu];omega
 have g:=mr hQ;have e:∀k:P3,ev k (cmb (ev (lin i j) (pt p)) (pt v) (-ev (lin i j) (pt v)) (pt p))=ev (lin i j) (pt p)*ev k (pt v)+ -ev (lin i j) (pt v)*ev k (pt p):=λk=>bB ..;generalize cmb (ev (lin i j) (pt p)) (pt v) (-ev (lin i j) (pt v)) (pt p)=Q at*;have m:∀k:P3,(cL i j*Q.d-ev (bG i j) Q)*ev k (pt i)+ev (bG i j) Q*ev k (pt j)=cL i j*ev k Q:=λk=>by rw[<-bB,g];unfold ev;grind
 generalize ev (bG i j) Q=t at*;generalize cL i j*Q.d-t=s at*;generalize cL i j=L at*;have q1:0<=ev k1 Q:=by rw[e k1];exact Int.add_nonneg (cF aC v1) (cF aC p1)
 have q2:0<=ev k2 Q:=by rw[e k2];exact Int.add_nonneg (cF aC v2) (cF aC p2)
 have m1:=m k1;have m2:=m k2;have m3:=m f;rw[h1i,fP]at m1;rw[h2j,fP]at m2;have t0:0<=t:=by
  have:=cF (aC:0<=L) q1;by_cases hn:t<0
  .have:=mH hn h1j;omega
  .omega
 have s0:0<=s:=by
  have:=cF (aC:0<=L) q2;by_cases hn:s<0
  .have:=mH hn h2i;omega
  .omega
 have f0:0<=L*ev f Q:=by rw[<-m3];exact Int.add_nonneg (cF s0 fi) (cF t0 fj)
 rw[e f,fp,fP,pU]at f0;by_cases hn:ev f (pt v)<0
 .have:=gr hL (gr hp hn);omega
 .omega
def Net.onSide(N:Net W side){i j a:V}{k1 k2:P3}(hij:side i j)(ha:a∈W)(h1i:ev k1 (pt i)=0)(h1j:0<ev k1 (pt j))(h2j:ev k2 (pt j)=0)(h2i:0<ev k2 (pt i))(h0:ev (lin i j) (pt a)=0)(a1:0<=ev k1 (pt a))(a2:0<=ev k2 (pt a)):a=i\/a=j:=by
 have hL:=jw (N.ne hij);have g:=mr h0;have m:∀k:P3,(cL i j*(pt a).d-ev (bG i j) (pt a))*ev k (pt i)+ev (bG i j) (pt a)*ev k (pt j)=cL i j*ev k (pt a):=λk=>by rw[<-bB,g];unfold ev;grind
 have m1:=m k1;have m2:=m k2;rw[h1i,fP]at m1;rw[h2j,fP]at m2;refine N.clear hij ha (cL i j*(pt a).d-ev (bG i j) (pt a)) (ev (bG i j) (pt a)) (cL i j) ?_ ?_ (by rw[g];unfold cmb pt;simp) hL
 .by_cases hn:cL i j*(pt a).d-ev (bG i j) (pt a)<0
  .have:=mH hn h2i;have:=cF (aC:0<=cL i j) a2;omega
  .omega
 .by_cases hn:ev (bG i j) (pt a)<0
  .have:=mH hn h1j;have:=cF (aC:0<=cL i j) a1;omega
  .omega
end
structure Jn(W:List V)(side:V->V->Prop)(r1 r2:List V)(i j x y z w:V):Prop where
 net:Net W side
 c1:CX r1
 c2:CX r2
 s1:∀e∈cyc r1,side e.a e.b
 s2:∀e∈cyc r2,side e.a e.b
 ij:(⟨i,j⟩:S)∈cyc r1
 jx:(⟨j,x⟩:S)∈cyc r1
 yi:(⟨y,i⟩:S)∈cyc r1
 ji:(⟨j,i⟩:S)∈cyc r2
 iw:(⟨i,w⟩:S)∈cyc r2
 zj:(⟨z,j⟩:S)∈cyc r2
 t1:0<=ev (lin y i) (pt w)
 t2:0<=ev (lin z j) (pt x)
 yw:y≠w
 zx:z≠x
 yj:y≠j
 xi:x≠i
 zi:z≠i
 wj:w≠j
section
variable {W:List V} {side:V->V->Prop} {r1 r2:List V} {i j x y z w:V}
def Jn.symm(J:Jn W side r1 r2 i j x y z w):Jn W side r2 r1 j i w z y x:=
 ⟨J.net,J.c2,J.c1,J.s2,J.s1,J.ji,J.iw,J.zj,J.ij,J.jx,J.yi,J.t2,J.t1,J.zx,J.yw,J.zi,J.wj,J.yj,J.xi⟩
def Jn.corner(J:Jn W side r1 r2 i j x y z w):0<ev (lin i j) (pt y)/\ev (lin i j) (pt w)<0:=by
 have N:=J.net;have sj:=J.s1 _ J.ij;have sy:=N.symm (J.s1 _ J.yi);have sw:=J.s2 _ J.iw;dsimp only at sj sy sw;have a:=J.c1.left _ J.ij y (oM J.yi);have b:=J.c2.left _ J.ji w (nD J.iw);have c:=J.t1;dsimp only at a b;rw[jf]at b c;have k:=Xs (mQ (N.ne sj).symm) (mQ (N.ne sy).symm) (mQ (N.ne sw).symm) (N.fanApart sj sy J.yj.symm) (N.fanApart sj sw J.wj.symm) (N.fanApart sy sw J.yw)
  (by rw[<-di];exact a) (by rw[<-di];omega) (by rw[<-di];omega)
 rw[<-di,<-di]at k;exact k
def Jn.ends(J:Jn W side r1 r2 i j x y z w):0<ev (lin y i) (pt j)/\0<ev (lin j x) (pt i)/\0<ev (lin i w) (pt j)/\0<ev (lin j i) (pt z):=by
 obtain⟨a,b⟩:=J.corner;obtain⟨c,d⟩:=J.symm.corner;refine⟨by rw[<-ik];exact a,?_,?_,c⟩
 .rw[ik,jf];omega
 .rw[ik,jf];omega
def Jn.pos(J:Jn W side r1 r2 i j x y z w){a:V}(ha:a∈r1):a=i\/a=j\/0<ev (lin i j) (pt a):=by
 obtain⟨e1,e2,_,_⟩:=J.ends;have h:=J.c1.left _ J.ij a ha;dsimp only at h;by_cases h0:ev (lin i j) (pt a)=0
 .have m:a∈W:=by rw[<-uH r1]at ha;obtain⟨e,he,rfl⟩:=bn.1 ha;exact J.net.mem (J.s1 e he)
  rcases J.net.onSide (J.s1 _ J.ij) m (cU y i) e1 (cN j x) e2 h0 (J.c1.left _ J.yi a ha) (J.c1.left _ J.jx a ha)with e|e
  .exact .inl e
  grind
 omega
def Jn.half(J:Jn W side r1 r2 i j x y z w){e:S}(he:e∈cyc r1)(hne:e≠⟨i,j⟩){v:V}(hv:v∈r2):0<=ev (lin e.a e.b) (pt v):=by
 obtain⟨e1,e2,e3,e4⟩:=J.ends;have hi:=oM J.ij;have hj:=nD J.ij;have vji:=J.c2.left _ J.ji v hv;have viw:=J.c2.left _ J.iw v hv;have vzj:=J.c2.left _ J.zj v hv;dsimp only at vji viw vzj;have v1:0<=ev (lin y i) (pt v):=SJ (cU y i) J.t1 aC e3 viw vji;have v2:0<=ev (lin j x) (pt v):=SJ (cN j x) aC (by rw[ik];exact J.t2) e4 vji vzj;have vij:ev (lin i j) (pt v)<=0:=by rw[jf]at vji;omega
 have key:∀p∈r1,ev (lin e.a e.b) (pt p)=0->0<ev (lin i j) (pt p)->0<=ev (lin e.a e.b) (pt v):=λp hp h0 h1=>
  aCN (J.net.ne (J.s1 _ J.ij)) (cU y i) e1 (cN j x) e2 (J.c1.left e he i hi) (J.c1.left e he j hj) vij v1 v2 h1 (J.c1.left _ J.yi p hp) (J.c1.left _ J.jx p hp) h0
 have ka:=key e.a (oM he) (cN _ _);have kb:=key e.b (nD he) (cU _ _);rcases J.pos (oM he)with h|h|h
 .rcases J.pos (nD he)with g|g|g
  .exact absurd (h.trans g.symm) (J.net.ne (J.s1 e he))
  .exact absurd (by cases e;grind) hne
  .exact kb g
 .rcases J.pos (nD he)with g|g|g
  .grind
  .exact absurd (h.trans g.symm) (J.net.ne (J.s1 e he))
  .exact kb g
 .exact ka h
end
def DL(i j:V)(A B:List V):cyc (i::(B++j::A))=cS i (B++[j])++cS j (A++[i]):=by show cS i (B++j::A++[i])=_;rw[kw,k8,w9]
def CX.join{W:List V}{side:V->V->Prop}{i j x y z w:V}{A B:List V}(J:Jn W side (i::j::A) (j::i::B) i j x y z w):CX (i::(B++j::A)):=by
 have n1:=J.c1.nodup;have n2:=J.c2.nodup;have q1:=mo.1 (Hb J.c1.nodup);have q2:=mo.1 (Hb J.c2.nodup);have dis:∀a∈A,∀b∈B,a≠b:=λa ha b hb e=>by subst e;have p1:=J.pos (a:=a) aH;have p2:=J.symm.pos (a:=a) aH;rw[jf]at p2;grind
 refine⟨?_,?_,?_⟩
 .have h1:=J.c1.three;grind
 .grind
 .intro e he v hv;have vv:v∈i::j::A\/v∈j::i::B:=by
   rcases bO.1 hv with h|h
   .grind
   .grind
  rw[DL]at he;rcases bz.1 he with he|he
  .have h2:e∈cyc (j::i::B):=cM _ he;rcases vv with h|h
   .exact J.symm.half h2 (λg=>q2.1 (g▸he)) h
   .exact J.c2.left e h2 v h
  .have h1:e∈cyc (i::j::A):=cM _ he;rcases vv with h|h
   .exact J.c1.left e h1 v h
   .exact J.half h1 (λg=>q1.1 (g▸he)) h
def kh:∀(k l:List V),(cyc (l++k)).Perm (cyc (k++l))
 |[],l=>aH
 |a::k,l=>by
  have h1:=kh k (l++[a]);rw[kw,FP,<-kw]at h1;exact h1.trans (SI a (k++l))
def CX.swap:∀{k l:List V},CX (k++l)->CX (l++k)
 |[],l,h=>aH
 |a::k,l,h=>by
  have h1:=CX.rot (a:=a) (l:=k++l) h;rw[kw]at h1;have h2:=CX.swap h1;grind
def NX{α β:Type}{f:α->β}:∀{l:List α},(l.map f).Nodup->∀{a b:α},a∈l->b∈l->f a=f b->a=b
 |x::l,h,a,b,ha,hb,e=>by
  rw[dU,mo]at h;rcases bO.1 ha with ha|ha<;>rcases bO.1 hb with hb|hb
  .rw[ha,hb]
  .grind
  .grind
  .exact NX h.2 ha hb e
def Dm{r:List V}(h:r.Nodup){e f:S}(he:e∈cyc r)(hf:f∈cyc r)(g:e.a=f.a):e=f:=
 NX (f:=S.a) (by rw[uH];exact h) he hf g
def An{r:List V}(h:CX r){i j:V}(hm:(⟨i,j⟩:S)∈cyc r):∃k l A,r=k++l/\l++k=i::j::A:=by
 have hi:=oM hm;obtain⟨k,l,rfl⟩:=wh hi;have h2:=h.swap;have hp:=(kh k (i::l)).mem_iff (a:=(⟨i,j⟩:S));have hm2:=hp.2 hm;have h3:=h2.three;rw[k8]at h2 hm2 h3;match e:l++k with
 |[] =>grind
 |j'::A=>
  rw[e]at hm2 h2;have:=Dm h2.nodup hm2 (show(⟨i,j'⟩:S)∈cyc (i::j'::A)from cR) rfl;grind
structure Faces(nx:S->V)(H:S->Prop)(F:List (List V)):Prop where
 cx:∀r∈F,CX r
 once:(F.flatMap cyc).Nodup
 all:∀e,e∈F.flatMap cyc↔H e
 next:∀r∈F,∀e∈cyc r,∀f∈cyc r,e.b=f.a->nx e=f.b
variable{F:List (List V)}
def Faces.perm{nx:S->V}{H:S->Prop}{G:List (List V)}(h:Faces nx H F)(p:F.Perm G):Faces nx H G where
 cx:=λr hr=>h.cx r (p.mem_iff.2 hr)
 once:=(p.flatMap_right cyc).nodup_iff.1 h.once
 all:=λe=>by rw[<-(p.flatMap_right cyc).mem_iff];exact h.all e
 next:=λr hr=>h.next r (p.mem_iff.2 hr)
def Faces.rotF{nx:S->V}{H:S->Prop}{k l:List V}(h:Faces nx H ((k++l)::F)):Faces nx H ((l++k)::F):=by
 have p:(((k++l)::F).flatMap cyc).Perm (((l++k)::F).flatMap cyc):=by rw[fw,fw];exact(kh l k).append_right _
 refine⟨λr hr=> ?_,p.nodup_iff.1 h.once,λe=>by rw[<-p.mem_iff];exact h.all e,λr hr e he f hf=> ?_⟩
 .rcases bO.1 hr with e|hr
  .subst e;exact(h.cx _ aH).swap
  .exact h.cx r aH
 .rcases bO.1 hr with g|hr
  .subst g;exact h.next _ aH e ((kh k l).mem_iff.1 he) f ((kh k l).mem_iff.1 hf)
  .exact h.next r aH e he f hf
def BC(i j:V)(F F':List (List V)):Prop:=∃r q A B F2,F.Perm (r::q::F2)/\(∃k l,r=k++l/\l++k=i::j::A)/\(∃k l,q=k++l/\l++k=j::i::B)/\F'=(i::(B++j::A))::F2
def BC.len{i j:V}{F':List (List V)}(h:BC i j F F'):aA F=aA F'+1:=by obtain⟨r,q,A,B,F2,p,_,_,rfl⟩:=h;rw[p.length_eq];simp
def Faces.drop{W:List V}{side:V->V->Prop}(N:Net W side){nx nx':S->V}{H:S->Prop}(Fc:Faces nx H F)(hs:∀e,H e->side e.a e.b){i j:V}(hij:H ⟨i,j⟩)(hji:H ⟨j,i⟩)
  (h1:∀e,H e->e.b=i->nx e=j->nx' e=nx ⟨j,i⟩) (h2:∀e,H e->e.b=j->nx e=i->nx' e=nx ⟨i,j⟩)
  (h3:∀e,H e->e≠⟨i,j⟩->e≠⟨j,i⟩->¬(e.b=i/\nx e=j)->¬(e.b=j/\nx e=i)->nx' e=nx e)
  (t1:∀y,H ⟨y,i⟩->nx ⟨y,i⟩=j->y≠nx ⟨j,i⟩/\0<=ev (lin y i) (pt (nx ⟨j,i⟩))) (t2:∀z,H ⟨z,j⟩->nx ⟨z,j⟩=i->z≠nx ⟨i,j⟩/\0<=ev (lin z j) (pt (nx ⟨i,j⟩))):
  ∃F',Faces nx' (λe=>H e/\e≠⟨i,j⟩/\e≠⟨j,i⟩) F'/\BC i j F F':=by
 obtain⟨A,F1,G1,r0,p1,r1⟩:∃A F1,Faces nx H ((i::j::A)::F1)/\∃r,F.Perm (r::F1)/\∃k l,r=k++l/\l++k=i::j::A:=by obtain⟨r,hr,hm⟩:=dL.1 ((Fc.all _).2 hij);obtain⟨k,l,A,e1,e2⟩:=An (Fc.cx r hr) hm;have p:=V9 hr;have g:=Fc.perm p;rw[e1]at g;have g2:=g.rotF;rw[e2]at g2;exact⟨A,_,g2,r,by rw[e1]at p|-;exact p,k,l,e1,e2⟩
 have c1:=G1.cx _ cR;have ij1:(⟨i,j⟩:S)∈cyc (i::j::A):=cR;have n1:=c1.nodup;rw[mo,mo]at n1;obtain⟨n3,n4,n5⟩:=n1;obtain⟨x,A',eA⟩:∃x A',A=x::A':=by
  match A,c1.three with
  |x::A',_=>grind
 obtain⟨y,A2,eA2⟩:∃y A2,A=A2++[y] :=by
  rcases WA A with e|⟨A2,y,e⟩
  .grind
  grind
 have jx1:(⟨j,x⟩:S)∈cS j (A++[i]):=by rw[eA];exact cR
 have yi1:(⟨y,i⟩:S)∈cS j (A++[i]):=by rw[eA2,kw,FP,w9];exact iF _ cR
 have up1:∀{e},e∈cS j (A++[i])->e∈cyc (i::j::A):=λh=>cM _ h;obtain⟨B,F2,G2,q0,p2,r2⟩:∃B F2,Faces nx H ((i::j::A)::(j::i::B)::F2)/\∃q,F1.Perm (q::F2)/\∃k l,q=k++l/\l++k=j::i::B:=by
  obtain⟨r,hr,hm⟩:=dL.1 ((G1.all _).2 hji);rcases bO.1 hr with e|hr
  .rw[e]at hm;have:=Dm c1.nodup hm (up1 jx1) rfl;grind
  .obtain⟨k,l,B,e1,e2⟩:=An (G1.cx r aH) hm;have p:=V9 hr;have g:=(G1.perm (p.cons _)).perm (List.Perm.swap _ _ _);rw[e1]at g;have g2:=g.rotF;rw[e2]at g2;exact⟨B,_,g2.perm (List.Perm.swap _ _ _),r,by rw[e1]at p|-;exact p,k,l,e1,e2⟩
 clear G1;have m1:(i::j::A)∈(i::j::A)::(j::i::B)::F2:=aH;have m2:(j::i::B)∈(i::j::A)::(j::i::B)::F2:=aH;have m3:∀{r},r∈F2->r∈(i::j::A)::(j::i::B)::F2:=aH;have c2:=G2.cx _ m2;have ji2:(⟨j,i⟩:S)∈cyc (j::i::B):=cR;have n1:=c2.nodup;rw[mo,mo]at n1;obtain⟨k3,k4,k5⟩:=n1;obtain⟨w,B',eB⟩:∃w B',B=w::B':=by
  match B,c2.three with
  |w::B',_=>grind
 obtain⟨z,B2,eB2⟩:∃z B2,B=B2++[z] :=by
  rcases WA B with e|⟨B2,z,e⟩
  .grind
  grind
 have iw2:(⟨i,w⟩:S)∈cS i (B++[j]):=by rw[eB];exact cR
 have zj2:(⟨z,j⟩:S)∈cS i (B++[j]):=by rw[eB2,kw,FP,w9];exact iF _ cR
 have up2:∀{e},e∈cS i (B++[j])->e∈cyc (j::i::B):=λh=>cM _ h;have hm:∀{r e},r∈(i::j::A)::(j::i::B)::F2->e∈cyc r->H e:=λhr he=>(G2.all _).1 aH;have xA:x∈A:=by rw[eA];grind
 have yA:y∈A:=by rw[eA2];grind
 have wB:w∈B:=by rw[eB];grind
 have zB:z∈B:=by rw[eB2];grind
 have nij:nx ⟨i,j⟩=x:=G2.next _ m1 _ ij1 _ (up1 jx1) rfl;have nji:nx ⟨j,i⟩=w:=G2.next _ m2 _ ji2 _ (up2 iw2) rfl;have nyi:nx ⟨y,i⟩=j:=G2.next _ m1 _ (up1 yi1) _ ij1 rfl;have nzj:nx ⟨z,j⟩=i:=G2.next _ m2 _ (up2 zj2) _ ji2 rfl;have T1:=t1 y (hm m1 (up1 yi1)) nyi;have T2:=t2 z (hm m2 (up2 zj2)) nzj;rw[nji]at T1;rw[nij]at T2;have J:Jn W side (i::j::A) (j::i::B) i j x y z w:=⟨N,c1,c2,aH,aH,ij1,up1 jx1,up1 yi1,ji2,up2 iw2,up2 zj2,T1.2,T2.2,T1.1,T2.1,
  aH,aH,aH,aH⟩
 have cj:=CX.join J;have nj:=cj.nodup;rw[mo,bz,nK]at nj;have P:(((i::j::A)::(j::i::B)::F2).flatMap cyc).Perm (⟨i,j⟩::⟨j,i⟩::(((i::(B++j::A))::F2).flatMap cyc)):=by rw[fw,fw,fw,DL];show(⟨i,j⟩::(cS j (A++[i])++(⟨j,i⟩::(cS i (B++[j])++F2.flatMap cyc)))).Perm _;refine List.Perm.cons _ (List.perm_middle.trans (List.Perm.cons _ ?_));rw[<-kw];exact yu.append_right _
 have nd:=P.nodup_iff.1 G2.once;rw[mo,mo,bO]at nd;obtain⟨d1,d2,d3⟩:=nd;have d4:(⟨i,j⟩:S)∉((i::(B++j::A))::F2).flatMap cyc:=aH;have keep:∀r∈(i::j::A)::(j::i::B)::F2,∀e∈cyc r,∀f∈cyc r,e.b=f.a->e≠⟨i,j⟩->e≠⟨j,i⟩->f≠⟨i,j⟩->f≠⟨j,i⟩->nx' e=f.b:=λr hr e he f hf g e1 e2 f1 f2=>by
  have hn:=G2.next r hr e he f hf g;rw[<-hn];refine h3 e (hm hr he) e1 e2 ?_ ?_
  .rintro⟨p1,p2⟩;cases f;grind
  .rintro⟨p1,p2⟩;cases f;grind
 refine⟨(i::(B++j::A))::F2,⟨λr hr=> ?_,d3,λe=> ?_,λr hr e he f hf g=> ?_⟩,r0,q0,A,B,F2,p1.trans (p2.cons _),r1,r2,rfl⟩
 .rcases bO.1 hr with e|hr
  .grind
  .exact G2.cx r (m3 hr)
 .rw[<-G2.all,P.mem_iff,bO,bO];constructor
  .intro h;exact⟨.inr (.inr h),aH,aH⟩
  grind
 .have ne:∀{e},e∈cyc r->e≠⟨i,j⟩/\e≠⟨j,i⟩:=λh=>⟨λg=>d4 (g▸dL.2 ⟨_,hr,h⟩),λg=>d2 (g▸dL.2 ⟨_,hr,h⟩)⟩;obtain⟨e1,e2⟩:=ne he;obtain⟨f1,f2⟩:=ne hf;rcases bO.1 hr with hr|hr
  .subst hr;rw[DL]at he hf;have sB:∀{f},f∈cS i (B++[j])->f.a=i\/f.a∈B:=λ{f} h=>by have:f.a∈(cS i (B++[j])).map S.a:=aH;rw[Co]at this;grind
   have sA:∀{f},f∈cS j (A++[i])->f.a=j\/f.a∈A:=λ{f} h=>by have:f.a∈(cS j (A++[i])).map S.a:=aH;rw[Co]at this;grind
   have tB:∀{f},f∈cS i (B++[j])->f.b∈B\/f.b=j:=λ{f} h=>by have:f.b∈(cS i (B++[j])).map S.b:=aH;rw[Cp]at this;grind
   have tA:∀{f},f∈cS j (A++[i])->f.b∈A\/f.b=i:=λ{f} h=>by have:f.b∈(cS j (A++[i])).map S.b:=aH;rw[Cp]at this;grind
   have AB:∀v,v∈A->v∈B->False:=λv ha hb=>nj.2.2.2 v hb v aH rfl;rcases bz.1 he with he|he<;>rcases bz.1 hf with hf|hf
   .grind
   .have ej:e.b=j:=by
     rcases tB he with h|h
     .grind
     .exact h
    rw[h2 e (hm m2 (up2 he)) ej (G2.next _ m2 e (up2 he) _ ji2 ej)];exact G2.next _ m1 _ ij1 f (up1 hf) (ej.symm.trans g)
   .have ei:e.b=i:=by
     rcases tA he with h|h
     .grind
     .exact h
    rw[h1 e (hm m1 (up1 he)) ei (G2.next _ m1 e (up1 he) _ ij1 ei)];exact G2.next _ m2 _ ji2 f (up2 hf) (ei.symm.trans g)
   grind
  grind
end Geo
namespace Geo
def Mc{u v t:V}(hu:nz u)(hv:nz v)(ht:nz t)(h1:gh u t)(h2:gh v t)(hc:0<cross v u)(hs:¬(0<cross v t/\0<cross t u)):si u t v=aE/\si u v t≠aE:=by have t1:=vO hv ht hu;have t2:=xG hv ht hu;have l2:=nW hv ht;have c1:=iI v u;have c2:=iI t u;have c3:=iI v t;unfold gh at h1 h2;unfold eV at t1 t2;unfold si yR;grind
section
variable {W:List V} {side:V->V->Prop} {ins:P3->Bool}
def Tri.next(N:Net W side){a b c:V}(T:Tri W side ins a b c){l:List V}(hl:∀x,x∈l↔side b x):fW l b a aE=c:=by
 have ba:=N.symm T.ab;have bc:=T.bc;have hc:c≠a:=N.ne T.ca;have hcr:0<cross (sub c b) (sub a b):=by rw[<-di,ik];exact T.left
 refine pw (S:=λx=>side b x) hc ?_ ?_ l a aH (.inl rfl) aH
 .intro x hx e1 e2;exact(Mc (mQ (N.ne ba).symm) (mQ (N.ne bc).symm) (mQ (N.ne hx).symm) (N.fanApart ba hx e1.symm) (N.fanApart bc hx e2.symm) hcr (by have:=T.rot.sector N hx;unfold Ccw at this;rw[di,di]at this;exact this)).2
 .intro x hx e1 e2;have:=(Mc (mQ (N.ne ba).symm) (mQ (N.ne bc).symm) (mQ (N.ne hx).symm) (N.fanApart ba hx e1.symm) (N.fanApart bc hx e2.symm) hcr (by have:=T.rot.sector N hx;unfold Ccw at this;rw[di,di]at this;exact this)).1
  grind
def Tri.cx(N:Net W side){a b c:V}(T:Tri W side ins a b c):CX [a,b,c] where
 three:=af
 nodup:=by have h1:=N.ne T.ab;have h2:=N.ne T.bc;have h3:=N.ne T.ca;grind
 left:=by intro e he v hv;have l:=T.left;have l2:=T.rot.left;have l3:=T.rot.rot.left;have he:e∈([⟨a,b⟩,⟨b,c⟩,⟨c,a⟩] :List S):=he;simp only[bO,cp,or_false]at he hv;rcases he with rfl|rfl|rfl<;>rcases hv with rfl|rfl|rfl<;>first|(rw[cN];exact kY _)|(rw[cU];exact kY _)|grind
def aFd(H:Filled W side ins){TL:List T3}(A:All3 W side ins TL){DS:List S}(hn:DS.Nodup)(hm:∀e:S,e∈DS↔side e.a e.b/\Lft ins e.a e.b){nx:S->V}(hx:∀a b c,Tri W side ins a b c->nx ⟨a,b⟩=c):
  Faces nx (λe=>e∈DS) (TL.map λt=>[t.a,t.b,t.c]):=by
 have N:=H.net;have P:=A.perm H hn hm;have e:(TL.map λt=>[t.a,t.b,t.c]).flatMap cyc=TL.flatMap T3.sides:=by rw[LZ];rfl
 refine⟨λr hr=> ?_,aH,λf=>aH,λr hr f hf g hg h=> ?_⟩
 .obtain⟨t,ht,rfl⟩:=bn.1 hr;exact(A.tri t ht).cx N
 .obtain⟨t,ht,rfl⟩:=bn.1 hr;have T:=A.tri t ht;have h1:=N.ne T.ab;have h2:=N.ne T.bc;have h3:=N.ne T.ca;have hf:f∈([⟨t.a,t.b⟩,⟨t.b,t.c⟩,⟨t.c,t.a⟩] :List S):=hf;have hg:g∈([⟨t.a,t.b⟩,⟨t.b,t.c⟩,⟨t.c,t.a⟩] :List S):=hg;simp only[bO,cp,or_false]at hf hg;rcases hf with rfl|rfl|rfl<;>rcases hg with rfl|rfl|rfl<;>dsimp only at h|-
  .grind
  .grind
  .grind
  .grind
  .grind
  .exact hx _ _ _ T.rot
  .exact hx _ _ _ T.rot.rot
  .grind
  grind
end
section
variable {p:V} {L l l':List V}
def aDr{n a m:Nat}(ha:a<n)(h:m=(a+n-1) % n):(1<=a/\m+1=a)\/(a=0/\m+1=n):=by
 by_cases h0:a=0
 .rw[h,dK aC];omega
 .rw[h,(aC:a+n-1=(a-1)+n),mh,dK aC];omega
def aDG{n a m:Nat}(ha:a<n)(h:m=(a+1) % n):(a+1<n/\m=a+1)\/(a+1=n/\m=0):=by
 by_cases h0:a+1<n
 .rw[h,dK h0];omega
 .have:a+1=n:=aC;simp_all
def Fan.prevAt(F:Fan p L)(hl:∀x,x∈l↔x∈L){a:Nat}(ha:a<aA L):∃m,∃hm:m<aA L,fW l p L[a] aE=L[m]/\((1<=a/\m+1=a)\/(a=0/\m+1=aA L)):=
 ⟨(a+aA L-1) % (aA L),cG _ aC,F.prev hl ha (cG _ aC) rfl,aDr ha rfl⟩
def Fan.nextAt(F:Fan p L)(hl:∀x,x∈l↔x∈L){a:Nat}(ha:a<aA L):∃m,∃hm:m<aA L,fW l p L[a] aK=L[m]/\((a+1<(aA L)/\m=a+1)\/(a+1=(aA L)/\m=0)):=
 ⟨(a+1) % (aA L),cG _ aC,F.next hl ha (cG _ aC) rfl,aDG ha rfl⟩
def Fan.Zv(F:Fan p L)(hl:∀x,x∈l↔x∈L)(hl':∀x,x∈l'↔x∈L){q:V}(hq:q∈L):fW l' p q aE=fW l p q aE:=by obtain⟨a,ha,rfl⟩:=gv.1 hq;rw[F.prev hl ha (cG _ aC) rfl,F.prev hl' ha (cG _ aC) rfl]
def Fan.RP(F:Fan p L)(hl:∀x,x∈l↔x∈L){q:V}(hq:q∈L)(h:2<=aA L):fW l p q aE≠q:=by obtain⟨a,ha,rfl⟩:=gv.1 hq;obtain⟨m,hm,e,h2⟩:=F.prevAt hl ha;rw[e];exact F.ne hm ha aC
def Fan.OJ(F:Fan p L)(hl:∀x,x∈l↔x∈L){q j:V}(hq:q∈L)(h:fW l p q aE=j):fW l p j aK=q:=by obtain⟨a,ha,rfl⟩:=gv.1 hq;obtain⟨m,hm,e,h2⟩:=F.prevAt hl ha;obtain⟨k,hk,e3,h3⟩:=F.nextAt hl hm;grind
def Fan.SS(F:Fan p L)(hl:∀x,x∈l↔x∈L){j:V}(hj:j∈L)(h:3<=aA L):fW l p j aK≠fW l p j aE:=by obtain⟨a,ha,rfl⟩:=gv.1 hj;obtain⟨m,hm,e,h2⟩:=F.prevAt hl ha;obtain⟨k,hk,e3,h3⟩:=F.nextAt hl ha;rw[e,e3];exact F.ne hk hm aC
def Fan.dropNext(F:Fan p L){j q:V}(hl:∀x,x∈l↔x∈L)(hl':∀x,x∈l'↔x∈L/\x≠j)(hq:q∈L)(hj:j∈L)(hne:q≠j):fW l' p q aE=if fW l p q aE=j then fW l p j aE else fW l p q aE:=by
 obtain⟨a,ha,rfl⟩:=gv.1 hq;obtain⟨b,hb,rfl⟩:=gv.1 hj;obtain⟨m,hm,e,h2⟩:=F.prevAt hl ha;obtain⟨c,hc,e3,h3⟩:=F.prevAt hl hb;rw[e,e3];have key:∀g (hg:g<aA L),g≠a->g≠b->(∀d,d<aA L->d≠a->d≠b->d≠g->((a<d/\d<g)\/(d<g/\g<a)\/(g<a/\a<d)))->fW l' p L[a] aE=L[g] :=λg hg h1 h2 h3=>by
  refine pw (S:=λx=>x∈L/\x≠L[b]) (F.ne hg ha h1) ?_ ?_ l' _ aH (.inl rfl) (.inr ((hl' _).2 ⟨aH,F.ne hg hb h2⟩))
  .rintro x ⟨hx,hxb⟩ e1 e2;obtain⟨d,hd,rfl⟩:=gv.1 hx;have k1:d≠a:=aH;have k2:d≠g:=aH;have k3:d≠b:=aH;have:=h3 d hd k1 k3 k2;exact mt (F.soon ha hg hd (kZ h1) (kZ k2) k1).1 aC
  .rintro x ⟨hx,hxb⟩ e1 e2;obtain⟨d,hd,rfl⟩:=gv.1 hx;have k1:d≠a:=aH;have k2:d≠g:=aH;have k3:d≠b:=aH;have:=h3 d hd k1 k3 k2;rw[(F.soon ha hd hg (kZ k1) k2 h1).2 aC];simp
 by_cases hmb:m=b
 .subst hmb;rw[if_pos rfl];by_cases hca:c=a
  .subst hca;refine CL l' λx hx=> ?_;obtain⟨hx,hxb⟩:=(hl' x).1 hx;obtain⟨d,hd,rfl⟩:=gv.1 hx;grind
  grind
 .rw[if_neg (F.ne hm hb hmb)];grind
end
def Qo{a b c:V}(h:0<=turn a b c):0<=ev (lin a b) (pt c):=by rw[di];unfold turn sgn at h;omega
def Faces.dropR{W:List V}{side:V->V->Prop}(N:Net W side){l l' L:V->List V}{H:S->Prop}{F:List (List V)}{i j:V}
  (Fc:Faces (λe=>fW (l e.b) e.b e.a aE) H F) (fan:∀p,Fan p (L p)) (hl:∀p x,x∈l p↔x∈L p) (hs:∀e,H e->side e.a e.b) (hH:∀e,H e->e.a∈L e.b)
  (hl':∀p x,x∈l' p↔x∈L p/\¬((p=i/\x=j)\/(p=j/\x=i))) (hij:H ⟨i,j⟩) (hji:H ⟨j,i⟩) (hi:3<=aA (L i)) (hj:3<=aA (L j))
  (n1:0<=turn i (fW (l i) i j aE) (fW (l i) i j aK)) (n2:0<=turn j (fW (l j) j i aE) (fW (l j) j i aK)):
  ∃F',Faces (λe=>fW (l' e.b) e.b e.a aE) (λe=>H e/\e≠⟨i,j⟩/\e≠⟨j,i⟩) F'/\BC i j F F':=by
 have ji:j∈L i:=hH _ hji;have ij:i∈L j:=hH _ hij;have li':∀x,x∈l' i↔x∈L i/\x≠j:=aH;have lj':∀x,x∈l' j↔x∈L j/\x≠i:=aH;refine Fc.drop N hs hij hji ?_ ?_ ?_ ?_ ?_
 .rintro⟨q,p⟩ he hb hn;dsimp only at hb hn|-;subst hb;have hq:q∈L p:=hH _ he;have hqj:q≠j:=λe=>by subst e;exact(fan p).RP (hl p) hq aC hn
  rw[(fan p).dropNext (hl p) li' hq ji hqj,if_pos hn]
 .rintro⟨q,p⟩ he hb hn;dsimp only at hb hn|-;subst hb;have hq:q∈L p:=hH _ he;have hqj:q≠i:=λe=>by subst e;exact(fan p).RP (hl p) hq aC hn
  rw[(fan p).dropNext (hl p) lj' hq ij hqj,if_pos hn]
 .rintro⟨q,p⟩ he e1 e2 g1 g2;have hq:q∈L p:=hH _ he;by_cases hp:p=i
  .subst hp;rw[(fan p).dropNext (hl p) li' hq ji aH,if_neg aH]
  .by_cases hp2:p=j
   .subst hp2;rw[(fan p).dropNext (hl p) lj' hq ij aH,if_neg aH]
   .exact(fan p).Zv (hl p) aH hq
 .intro y hy hn;have e:=(fan i).OJ (hl i) (hH _ hy) hn;refine⟨λh=>(fan i).SS (hl i) ji hi (e.trans h),?_⟩;rw[e]at n1;rw[<-ik];exact Qo n1
 .intro z hz hn;have e:=(fan j).OJ (hl j) (hH _ hz) hn;refine⟨λh=>(fan j).SS (hl j) ij hj (e.trans h),?_⟩;rw[e]at n2;rw[<-ik];exact Qo n2
def tr(nx:S->V):Nat->List S->S->List V->List S×List V
 |0,U,_,r=>(U,r)
 |f+1,U,e,r=>if e∈U then(U,r)else tr nx f (U++[e]) ⟨e.b,nx e⟩ (r++[e.a])
def EQ{nx:S->V}{f:Nat}{U:List S}{e:S}{r:List V}(h:e∈U):tr nx f U e r=(U,r):=by
 cases f with
 |zero=>rfl
 |succ f=>exact if_pos h
def JT{nx:S->V}{f:Nat}{U:List S}{e:S}{r:List V}(h:e∉U):tr nx (f+1) U e r=tr nx f (U++[e]) ⟨e.b,nx e⟩ (r++[e.a]):=if_neg h
def Qq{nx:S->V}:∀(l:List V) (a x:V) (m:List V) (z:V) (f:Nat) (U:List S) (r:List V),l++[z] =x::m->(∀e∈cS a (l++[z]),e∉U)->(cS a (l++[z])).Nodup->
  (∀e∈cS a (l++[z]),∀g∈cS a (l++[z]),e.b=g.a->e.b≠z->nx e=g.b)->(a::l).Nodup->z∉l->
  ∃y,(⟨y,z⟩:S)∈cS a (l++[z])/\tr nx (f+(aA l+1)) U ⟨a,x⟩ r=tr nx f (U++cS a (l++[z])) ⟨z,nx ⟨y,z⟩⟩ (r++a::l)
 |[],a,x,m,z,f,U,r,e,hU,hn,hx,_,_=>by
  obtain⟨rfl,_⟩:=List.cons.inj e;exact⟨a,cR,JT (hU ⟨a,z⟩ cR)⟩
 |b::l,a,x,m,z,f,U,r,e,hU,hn,hx,hd,hz=>by
  obtain⟨rfl,em⟩:=List.cons.inj e;have hzb:b≠z:=aH;have hn2:(⟨a,b⟩:S)∉cS b (l++[z])/\(cS b (l++[z])).Nodup:=mo.1 hn;obtain⟨x2,m2,e2⟩:∃x2 m2,l++[z] =x2::m2:=by
   cases l with
   |nil=>grind
   |cons x2 l=>grind
  have hd2:=(mo.1 hd).2;obtain⟨y,hy,h⟩:=Qq l b x2 m2 z f (U++[⟨a,b⟩]) (r++[a]) e2 (λe he h=>by
    rcases bz.1 h with h|h
    .exact hU e (cM _ he) h
    grind) hn2.2
   (λe he g hg=>hx e (cM _ he) g (cM _ hg)) hd2 aH
  refine⟨y,cM _ hy,?_⟩;have h0:=hU ⟨a,b⟩ cR;have hnx:nx ⟨a,b⟩=x2:=hx ⟨a,b⟩ cR ⟨b,x2⟩ (cM _ (show(⟨b,x2⟩:S)∈cS b (l++[z]) by rw[e2];exact cR)) rfl hzb;have st:tr nx (f+(aA (b::l)+1)) U ⟨a,b⟩ r=tr nx (f+(aA l+1)) (U++[⟨a,b⟩]) ⟨b,nx ⟨a,b⟩⟩ (r++[a]):=by rw[show f+(aA (b::l)+1)=f+(aA l+1)+1 by grind];exact JT h0
  rw[st,hnx,h,kw,kw];rfl
def Faces.trace{nx:S->V}{H:S->Prop}{F:List (List V)}(Fc:Faces nx H F){r:List V}(hr:r∈F){e:S}(he:e∈cyc r){U:List S}(hU:∀g∈cyc r,g∉U){f:Nat}(hf:aA r<=f):
  ∃k l,r=k++l/\tr nx f U e [] =(U++cyc (l++k),l++k):=by
 obtain⟨i,j⟩:=e;obtain⟨k,l,A,e1,e2⟩:=An (Fc.cx r hr) he;refine⟨k,l,e1,?_⟩;have c:=Fc.cx r hr;have hp:(cyc (l++k)).Perm (cyc r):=by rw[e1];exact kh k l
 have c2:CX (l++k):=by rw[e1]at c;exact c.swap
 have hl:aA (l++k)=aA r:=by rw[e1,eR,eR];omega
 rw[e2]at hp c2 hl|-;have hn:=c2.nodup;obtain⟨y,hy,h⟩:=Qq (nx:=nx) (j::A) i j (A++[i]) i (f-(aA A+2)) U [] rfl (λg hg=>hU g (hp.mem_iff.1 hg)) (Hb hn)
  (λe he g hg h _=>Fc.next r hr e (hp.mem_iff.1 he) g (hp.mem_iff.1 hg) h) hn aH
 have ef:f-(aA A+2)+(aA (j::A)+1)=f:=by simp only[iE]at hl|-;omega
 rw[ef]at h;have first:(⟨i,j⟩:S)∈cyc (i::j::A):=aH
 have hnx:nx ⟨y,i⟩=j:=Fc.next r hr ⟨y,i⟩ (hp.mem_iff.1 hy) ⟨i,j⟩ aH rfl;rw[h,hnx];exact EQ (iF _ first)
def qQ(nx:S->V)(f:Nat)(g:List V->List V):List S->List S×List (List V)->List S×List (List V)
 |[],x=>x
 |e::l,x=>qQ nx f g l ((tr nx f x.1 e []).1,if 0<(aA (tr nx f x.1 e []).2) then x.2++[g (tr nx f x.1 e []).2]else x.2)
def G0{nx:S->V}{H:S->Prop}{F:List (List V)}(Fc:Faces nx H F){f:Nat}(hf:∀r∈F,aA r<=f){g:List V->List V}(hg:∀r∈F,∀k l,r=k++l->g (l++k)=g r):
  ∀(l:List S) (x:List S×List (List V)) (F1 F2:List (List V)),(∀e∈l,H e)->F.Perm (F1++F2)->(∀e,e∈x.1↔e∈F1.flatMap cyc)->x.2.Perm (F1.map g)->
   (∀r∈F2,∀e∈cyc r,e∈l)->(qQ nx f g l x).2.Perm (F.map g)
 |[],x,F1,F2,_,hP,_,hx2,hl=>by
  have:F2=[] :=by
   cases F2 with
   |nil=>rfl
   |cons r F2=>
    have c:=Fc.cx r aH;match r,c.three with
    |a::b::r,_=>exact absurd (hl _ cR ⟨a,b⟩ cR) af
  subst this;rw[List.append_nil]at hP;exact hx2.trans (hP.symm.map g)
 |e::l,x,F1,F2,hH,hP,hx1,hx2,hl=>by
  unfold qQ;have he:e∈F.flatMap cyc:=(Fc.all e).2 aH;by_cases h1:e∈x.1
  .have t:tr nx f x.1 e [] =(x.1,[]):=EQ h1;rw[t];refine G0 Fc hf hg l _ F1 F2 aH hP hx1 hx2 λr hr g hg=> ?_;rcases bO.1 (hl r hr g hg)with h|h
   .have nd:=(hP.flatMap_right cyc).nodup_iff.1 Fc.once;grind
   .exact h
  .have h2:e∈F2.flatMap cyc:=by
    have:=(hP.flatMap_right cyc).mem_iff.1 he;rw[wi]at this;rcases bz.1 this with h|h
    .grind
    .exact h
   obtain⟨r,hr,her⟩:=dL.1 h2;have hP2:=V9 hr;have hP3:F.Perm ((r::F1)++F2.erase r):=aH;have hrF:r∈F:=aH;have nd:=(hP3.flatMap_right cyc).nodup_iff.1 Fc.once;rw[k8,fw,wi,nK]at nd;have dis:∀g∈cyc r,g∉x.1:=aH;obtain⟨k,m,e1,t⟩:=Fc.trace hrF her dis (hf r hrF);have hp:(cyc (m++k)).Perm (cyc r):=by rw[e1];exact kh k m
   have hlen:0<aA (m++k):=by have:=(Fc.cx r hrF).three;rw[e1,eR]at this;rw[eR];omega
   rw[t];rw[if_pos hlen,hg r hrF k m e1];refine G0 Fc hf hg l _ (r::F1) (F2.erase r) aH hP3 (λq=> ?_) ?_ λr2 hr2 q hq=> ?_
   .rw[bz,hx1,hp.mem_iff,fw,bz,or_comm]
   .grind
   grind
def DR{x y:List V}{u:V}(h:∀v∈x++u::y,leV u v)(hx:u∉x):bo (x++u::y)=u::(y++x):=by
 have hn:nth (x++u::y) (aA x)=u:=by unfold nth;rw[List.getD_eq_getElem?_getD,mg (bR _),Nat.sub_self];rfl
 have e:aA x=dt (x++u::y):=Wk aH (λi hi=>by rw[hn];exact h _ (dh hi)) λi hi g=>by rw[hn]at g;apply hx;rw[<-g];unfold nth;grind
 unfold bo;grind
variable{r:List V}
def IK(h:r≠[]):∃u∈r,∀v∈r,leV u v:=by have hp:0<aA r:=aH;refine⟨_,dh (nR hp),λv hv=> ?_⟩;obtain⟨i,hi,rfl⟩:=fC.1 hv;exact tf r (aA r) i hi
def Nq{k l:List V}(hn:(k++l).Nodup):bo (l++k)=bo (k++l):=by
 by_cases h0:k++l=[]
 .simp_all
 .obtain⟨u,hu,hle⟩:=IK h0;have hle2:∀v∈l++k,leV u v:=aH;have hn2:(l++k).Nodup:=aH;rcases bz.1 hu with h|h
  .obtain⟨x,y,rfl⟩:=wh h;have e1:(x++u::y)++l=x++u::(y++l):=af;have e2:l++(x++u::y)=(l++x)++u::y:=af;rw[e1]at hn hle|-;rw[e2]at hn2 hle2|-;rw[DR hle aH,DR hle2 aH];simp
  .obtain⟨x,y,rfl⟩:=wh h;have e1:(x++u::y)++k=x++u::(y++k):=af;have e2:k++(x++u::y)=(k++x)++u::y:=af;rw[e1]at hn2 hle2|-;rw[e2]at hn hle|-;rw[DR hle aH,DR hle2 aH];simp
noncomputable def eI(r:List V)(u:V):Bool:= @decide (∃a b,(⟨a,u⟩:S)∈cyc r/\(⟨u,b⟩:S)∈cyc r/\turn a u b≠0) (Classical.propDecidable _)
def qo{u:V}:eI r u=aE↔∃a b,(⟨a,u⟩:S)∈cyc r/\(⟨u,b⟩:S)∈cyc r/\turn a u b≠0:=by unfold eI;grind
def aAM(k l:List V):eI (l++k)=eI (k++l):=by
 funext u
 rw[gR,qo,qo];simp only[(kh k l).mem_iff]
noncomputable def dQ(r:List V):List V:=bo (r.filter (eI r))
def aAL{k l:List V}(hn:(k++l).Nodup):dQ (l++k)=dQ (k++l):=by unfold dQ;rw[aAM,mJ,mJ];refine Nq ?_;grind
def CX.noBack(c:CX r){a b:V}(h:(⟨a,b⟩:S)∈cyc r):(⟨b,a⟩:S)∉cyc r:=λg=>by
 obtain⟨k,l,A,e1,e2⟩:=An c h;have hp:(cyc (l++k)).Perm (cyc r):=by rw[e1];exact kh k l
 have c2:CX (l++k):=by rw[e1]at c;exact c.swap
 rw[e2]at hp c2;have hn:=c2.nodup;match A,c2.three with
 |x::A,_=>
  have hx:(⟨b,x⟩:S)∈cyc (a::b::x::A):=cM _ cR;have:=Dm hn (hp.mem_iff.2 g) hx rfl;grind
def CX.around(c:CX r){u:V}(h:u∈r):∃a b,(⟨a,u⟩:S)∈cyc r/\(⟨u,b⟩:S)∈cyc r:=by
 have h1:u∈(cyc r).map S.a:=by rw[uH];exact h
 obtain⟨⟨x,b⟩,hb,rfl⟩:=bn.1 h1;obtain⟨k,l,rfl⟩:=wh h;have hp:=kh k (x::l);have hm:(⟨x,b⟩:S)∈cyc (k++x::l):=hb;rcases WA (l++k)with e|⟨m,y,e⟩
 .have:=c.three;simp_all
 .rw[List.concat_eq_append]at e;refine⟨y,b,hp.mem_iff.1 ?_,hm⟩;rw[k8,e];show(⟨y,x⟩:S)∈cS x (m++[y] ++[x]);rw[kw,FP,w9];exact iF _ cR
def D8{u v:V}(h:leV u v)(hne:v≠u):i6 (sub v u):=by unfold leV at h;unfold i6 sub;obtain⟨ux,uy⟩:=u;obtain⟨vx,vy⟩:=v;grind
def CX.corner{W:List V}{side:V->V->Prop}(N:Net W side)(c:CX r)(hs:∀e∈cyc r,side e.a e.b):r.filter (eI r)≠[] :=by
 obtain⟨u,hu,hle⟩:=IK (r:=r) (λe=>by have:=c.three;grind);obtain⟨a,b,ha,hb⟩:=c.around hu;have ua:=N.symm (hs _ ha);have ub:=hs _ hb;have hab:a≠b:=λe=>by subst e;exact c.noBack ha hb
 have pa:=D8 (hle a (oM ha)) (N.ne ua).symm;have pb:=D8 (hle b (nD hb)) (N.ne ub).symm;have:u∈r.filter (eI r):=eY.2 ⟨hu,qo.2 ⟨a,b,ha,hb,λh0=> ?_⟩⟩
 .grind
 .have hcr:cross (sub a u) (sub b u)=0:=by
   have e:cross (sub u a) (sub b a)= -cross (sub a u) (sub b u):=by unfold cross sub;grind
   unfold turn sgn at h0;split at h0
   .cases h0
   .omega
  have:=nW (mQ (N.ne ua).symm) (mQ (N.ne ub).symm) hcr;have ap:=N.fanApart ua ub hab;unfold gh at ap;grind
end Geo
namespace Geo
def Sl{α:Type}(f:α->Int):∀l:List α,l≠[]->∃x∈l,∀y∈l,f x<=f y
 |[],h=>absurd rfl h
 |[x],_=>⟨x,cR,λy hy=>jc⟩
 |x::z::l,_=>by
  obtain⟨m,hm,h⟩:=Sl f (z::l) af;by_cases c:f x<=f m
  .exact⟨x,cR,λy hy=>by rcases bO.1 hy with rfl|hy;omega;have:=h y hy;omega⟩
  .exact⟨m,cM _ hm,λy hy=>by rcases bO.1 hy with rfl|hy;omega;exact h y hy⟩
section
variable {W:List V} {side:V->V->Prop}
def CX.hull(N:Net W side){r:List V}(c:CX r)(hs:∀e∈cyc r,side e.a e.b)(f:P3)(h:∀v∈r.filter (eI r),0<=ev f (pt v)):∀v∈r,0<=ev f (pt v):=by
 have h0:r≠[] :=λe=>by have:=c.three;simp_all
 obtain⟨m,hm,hmin⟩:=Sl (λv=>ev f (pt v)) r h0;obtain⟨u,hu,hle⟩:=IK (r:=r.filter λv=>decide (ev f (pt v)=ev f (pt m))) (λe=>by have:m∈r.filter λv=>decide (ev f (pt v)=ev f (pt m)):=eY.2 ⟨hm,decide_eq_true rfl⟩;rw[e]at this;cases this)
 obtain⟨hur,hum⟩:=eY.1 hu;have hum:=of_decide_eq_true hum;obtain⟨a,b,ha,hb⟩:=c.around hur;have ua:=N.symm (hs _ ha);have ub:=hs _ hb;have hab:a≠b:=λe=>by subst e;exact c.noBack ha hb
 have fa:=hmin a (oM ha);have fb:=hmin b (nD hb);have hc:u∈r.filter (eI r):=by
  refine eY.2 ⟨hur,qo.2 ⟨a,b,ha,hb,λh0=> ?_⟩⟩;have hcr:cross (sub a u) (sub b u)=0:=by
   have e:cross (sub u a) (sub b a)= -cross (sub a u) (sub b u):=by unfold cross sub;grind
   unfold turn sgn at h0;split at h0
   .cases h0
   .omega
  have ap:=N.fanApart ua ub hab;have hd:dot (sub a u) (sub b u)<0:=by unfold gh at ap;grind
  have na:=mQ (N.ne ua).symm;have nb:=mQ (N.ne ub).symm;have ld:=nW na nb hcr;have key:dot (sub a u) (sub a u)*(ev f (pt b)-ev f (pt u))=dot (sub a u) (sub b u)*(ev f (pt a)-ev f (pt u)):=by unfold ev pt dot sub cross at*;grind
  have pos:0<dot (sub a u) (sub a u):=by
   unfold nz at na;unfold dot;rcases pX (sub a u).x 0 with g|g|g
   .have:=yp g g;have:=ll (sub a u).y;omega
   .have:(sub a u).y≠0:=λe=>na ⟨g,e⟩;rcases mc this with k|k
    .have:=yp k k;rw[g];omega
    .have:=bJ k k;rw[g];omega
   .have:=bJ g g;have:=ll (sub a u).y;omega
  have fa':0<=ev f (pt a)-ev f (pt u):=aC;have fb':0<=ev f (pt b)-ev f (pt u):=aC;have p1:=cF (fZ pos) fb';have p2:dot (sub a u) (sub b u)*(ev f (pt a)-ev f (pt u))<=0:=Bf (fZ hd) fa';have eb:ev f (pt b)=ev f (pt u):=by have:dot (sub a u) (sub a u)*(ev f (pt b)-ev f (pt u))=0:=aC;rcases dI.1 this with g|g<;>omega
  have ea:ev f (pt a)=ev f (pt u):=by
   have:dot (sub a u) (sub b u)*(ev f (pt a)-ev f (pt u))=0:=by rw[<-key,eb];simp
   rcases dI.1 this with g|g<;>omega
  have pa:=D8 (hle a (eY.2 ⟨oM ha,decide_eq_true aC⟩)) (N.ne ua).symm;have pb:=D8 (hle b (eY.2 ⟨nD hb,decide_eq_true aC⟩)) (N.ne ub).symm;grind
 intro v hv;have:=h u hc;have:=hmin v hv;omega
def CX.common(N:Net W side){r q:List V}(c:CX r)(d:CX q)(hr:∀e∈cyc r,side e.a e.b)(hq:∀e∈cyc q,side e.a e.b)(h:∀v,v∈r.filter (eI r)↔v∈q.filter (eI q)):∃e,e∈cyc r/\e∈cyc q:=by
 obtain⟨a,ha⟩:=Bh _ (c.corner N hr);have ha2:=(h a).1 ha;obtain⟨har,hac⟩:=eY.1 ha;obtain⟨p,x,hp,hx,ht⟩:=qo.1 hac;obtain⟨_,y,_,hy⟩:=d.around (eY.1 ha2).1;have cr:∀v∈r.filter (eI r),0<=ev (lin a x) (pt v):=λv hv=>c.left _ hx v (eY.1 hv).1;have cq:∀v∈q.filter (eI q),0<=ev (lin a y) (pt v):=λv hv=>d.left _ hy v (eY.1 hv).1;have h1:=d.hull N hq (lin a x) (λv hv=>cr v ((h v).2 hv)) y (nD hy);have h2:=c.hull N hr (lin a y) (λv hv=>cq v ((h v).1 hv)) x (nD hx);have sx:=hr _ hx;have sy:=hq _ hy;by_cases e:x=y
 .subst e;exact⟨_,hx,hy⟩
 .exfalso;have ap:=N.fanApart sx sy e;rw[di]at h1 h2;have h0:cross (sub x a) (sub y a)=0:=by
   have:cross (sub y a) (sub x a)= -cross (sub x a) (sub y a):=by unfold cross;grind
   omega
  have hd:dot (sub x a) (sub y a)<0:=by unfold gh at ap;grind
  have z:∀v∈r.filter (eI r),0<=ev (lin x a) (pt v):=λv hv=>by
   have g1:=cr v hv;have g2:=cq v ((h v).1 hv);rw[di]at g1 g2;rw[jf,di];have key:dot (sub x a) (sub x a)*cross (sub y a) (sub v a)=dot (sub x a) (sub y a)*cross (sub x a) (sub v a):=by unfold dot cross sub at*;grind
   have pos:0<=dot (sub x a) (sub x a):=by unfold dot;have:=ll (sub x a).x;have:=ll (sub x a).y;omega
   have k1:=cF pos g2;have k2:¬0<cross (sub x a) (sub v a):=λg=>by have:=mH hd g;omega
   omega
  have zp:=c.hull N hr (lin x a) z p (oM hp);have wp:=c.left _ hx p (oM hp);rw[jf]at zp;have w0:ev (lin a x) (pt p)=0:=by have wp:0<=ev (lin a x) (pt p):=wp;omega
  rw[di]at w0;apply ht;have:cross (sub a p) (sub x p)=0:=by unfold cross sub at*;grind
  unfold turn;rw[this];rfl
end
def Faces.corners{W:List V}{side:V->V->Prop}(N:Net W side){nx:S->V}{H:S->Prop}{F:List (List V)}(h:Faces nx H F)(hs:∀e,H e->side e.a e.b):(F.map dQ).Nodup:=by
 have hr:∀r∈F,∀e∈cyc r,side e.a e.b:=λr hr e he=>hs e ((h.all e).1 (dL.2 ⟨r,hr,he⟩));have o:=h.once;rw[LV,rV,LX]at o;rw[rV,kG];have o2:=kG.1 o.2;refine(y5.1 o2).imp λ{a b} ⟨ha,hb,hab⟩ he=> ?_;have hm:∀v,v∈a.filter (eI a)↔v∈b.filter (eI b):=λv=>by rw[<-(oe (a.filter (eI a))).mem_iff,<-(oe (b.filter (eI b))).mem_iff];show v∈dQ a↔v∈dQ b;rw[he]
 obtain⟨e,e1,e2⟩:=(h.cx a ha).common N (h.cx b hb) (hr a ha) (hr b hb) hm;exact hab e e1 e e2 rfl
def LW(r:List V)(q:P3):Prop:=∀e∈cyc r,0<=ev (lin e.a e.b) q
def LS(r:List V)(q:P3):Prop:=∀e∈cyc r,0<ev (lin e.a e.b) q
def T3.l(t:T3):List V:=[t.a,t.b,t.c]
def T3.Kc(t:T3):cyc t.l=t.sides:=rfl
def pI(TL:List T3)(F:List (List V)):Prop:=∃G:List (List V×List T3),(G.map Prod.fst).Perm F/\(G.flatMap Bi).Perm TL/\∀g∈G,(∀t∈g.2,∀v∈t.l,v∈g.1)/\∀q:P3,LW g.1 q->∃t∈g.2,LW t.l q
def pI.start(TL:List T3):pI TL (TL.map T3.l):=by
 refine⟨TL.map λt=>(t.l,[t]),by rw[du];exact .refl _,?_,λg hg=> ?_⟩
 .rw[LZ];simp
 .obtain⟨t,_,rfl⟩:=bn.1 hg;exact⟨af,λq h=>⟨t,af,h⟩⟩
def MJ{α β:Type}{f:α->β}{G:List α}{x:β}{L:List β}(h:(G.map f).Perm (x::L)):∃g G',G.Perm (g::G')/\f g=x/\(G'.map f).Perm L:=by obtain⟨g,hg,e⟩:=bn.1 (h.mem_iff.2 cR);obtain⟨a,b,rfl⟩:=wh hg;have p:(a++g::b).Perm (g::(a++b)):=List.perm_middle;refine⟨g,a++b,p,e,?_⟩;have:=(p.map f).symm.trans h;rw[dU,e]at this;exact this.cons_inv
def LW.turn{k l:List V}{q:P3}:LW (k++l) q↔LW (l++k) q:=by unfold LW;simp only[(kh k l).mem_iff]
def pI.joined{TL:List T3}{F F':List (List V)}{i j:V}(h:pI TL F)(J:BC i j F F'):pI TL F':=by
 obtain⟨G,g1,g2,g3⟩:=h;obtain⟨r,q,A,B,F2,p,⟨k,l,e1,e2⟩,⟨k',l',e3,e4⟩,rfl⟩:=J;obtain⟨a,G1,p1,ea,q1⟩:=MJ (g1.trans p);obtain⟨b,G2,p2,eb,q2⟩:=MJ q1;have P:G.Perm (a::b::G2):=p1.trans (p2.cons _);have ma:=g3 a (P.mem_iff.2 cR);have mb:=g3 b (P.mem_iff.2 (cM _ cR));have va:∀v,v∈a.1->v∈i::j::A:=λv h=>by rw[ea,e1]at h;rw[<-e2];grind
 have vb:∀v,v∈b.1->v∈j::i::B:=λv h=>by rw[eb,e3]at h;rw[<-e4];grind
 have wa:∀q,LW (i::j::A) q->LW a.1 q:=λq h=>by rw[ea,e1,LW.turn,e2];exact h
 have wb:∀q,LW (j::i::B) q->LW b.1 q:=λq h=>by rw[eb,e3,LW.turn,e4];exact h
 refine⟨(i::(B++j::A),a.2++b.2)::G2,q2.cons _,?_,λg hg=> ?_⟩
 .refine List.Perm.trans ?_ ((P.flatMap_right Bi).symm.trans g2);simp only[fw,kw];exact .refl _
 .rcases bO.1 hg with rfl|hg
  .refine⟨λt ht v hv=> ?_,λq h=> ?_⟩
   .rcases bz.1 ht with ht|ht
    .have:=va v (ma.1 t ht v hv);grind
    .have:=vb v (mb.1 t ht v hv);grind
   .have h:∀e∈cyc (i::(B++j::A)),0<=ev (lin e.a e.b) q:=h;rw[DL]at h;by_cases c:0<=ev (lin i j) q
    .obtain⟨t,ht,g⟩:=ma.2 q (wa q λe he=>by
      rcases bO.1 he with rfl|he
      .exact c
      .exact h e (iF _ he))
     exact⟨t,iS _ ht,g⟩
    .obtain⟨t,ht,g⟩:=mb.2 q (wb q λe he=>by
      rcases bO.1 he with rfl|he
      .show 0<=ev (lin j i) q;rw[jf];omega
      .exact h e (iS _ he))
     exact⟨t,iF _ ht,g⟩
  .exact g3 g (P.mem_iff.2 (cM _ (cM _ hg)))
def wT(F:List (List V))(U:List S):Prop:=∃F1 F2,F.Perm (F1++F2)/\∀e,e∈U↔e∈F1.flatMap cyc
def Qr{nx:S->V}{H:S->Prop}{F:List (List V)}(Fc:Faces nx H F){f:Nat}(hf:∀r∈F,aA r<=f){U:List S}(I:wT F U){e:S}(he:H e):
  (tr nx f U e [] =(U,[]))\/∃r∈F,∃k l,r=k++l/\tr nx f U e [] =(U++cyc (l++k),l++k)/\wT F (U++cyc (l++k)):=by
 obtain⟨F1,F2,hP,hU⟩:=I;by_cases h1:e∈U
 .exact .inl (EQ h1)
 .right;have h2:e∈F2.flatMap cyc:=by
   have:=(hP.flatMap_right cyc).mem_iff.1 ((Fc.all e).2 he);rw[wi]at this;rcases bz.1 this with h|h
   .grind
   .exact h
  obtain⟨r,hr,her⟩:=dL.1 h2;have hP3:F.Perm ((r::F1)++F2.erase r):=aH;have hrF:r∈F:=aH;have nd:=(hP3.flatMap_right cyc).nodup_iff.1 Fc.once;rw[k8,fw,wi,nK]at nd;have dis:∀g∈cyc r,g∉U:=aH;obtain⟨k,m,e1,t⟩:=Fc.trace hrF her dis (hf r hrF);have hp:(cyc (m++k)).Perm (cyc r):=by rw[e1];exact kh k m
  refine⟨r,hrF,k,m,e1,t,r::F1,F2.erase r,hP3,λq=> ?_⟩;grind
def Mh(nx:S->V)(f:Nat)(g:List V->List V):∀(l:List S) (e:S) (x:List S×List (List V)),qQ nx f g (l++[e]) x=
  ((tr nx f (qQ nx f g l x).1 e []).1,if 0<(aA (tr nx f (qQ nx f g l x).1 e []).2) then(qQ nx f g l x).2++[g (tr nx f (qQ nx f g l x).1 e []).2]else(qQ nx f g l x).2)
 |[],_,_=>rfl
 |_::l,e,_=>Mh nx f g l e _
def Ps{nx:S->V}{H:S->Prop}{F:List (List V)}(Fc:Faces nx H F){f:Nat}(hf:∀r∈F,aA r<=f){g:List V->List V}:
  ∀(l:List S) (x:List S×List (List V)),wT F x.1->(∀e∈l,H e)->wT F (qQ nx f g l x).1
 |[],x,I,_=>I
 |e::l,x,I,h=>by
  refine Ps Fc hf l _ ?_ aH;rcases Qr Fc hf I (h e cR)with t|⟨r,_,k,m,_,t,J⟩
  .grind
  grind
def wT.nil(F:List (List V)):wT F [] :=⟨[],F,.refl _,λe=>af⟩
def IX{a b:V}{q f:P3}(h:Bet q a b)(ha:0<=ev f (pt a))(hb:0<=ev f (pt b)):0<=ev f q:=by obtain⟨x,y,k,hx,hy,hk,e⟩:=h;have g:=congrArg (ev f) e;rw[bB,bB]at g;have:=cF hx ha;have:=cF hy hb;exact nnl hk (by rw[gu];omega)
section
variable {W:List V} {side:V->V->Prop} {ins:P3->Bool}
def Tri.lines{t:T3}(h:Tri W side ins t.a t.b t.c):∀e∈t.sides,∀v∈t.l,0<=ev (lin e.a e.b) (pt v):=by
 have l:=h.left;have r1:ev (lin t.b t.c) (pt t.a)=ev (lin t.a t.b) (pt t.c):=ik _ _ _;have r2:ev (lin t.c t.a) (pt t.b)=ev (lin t.a t.b) (pt t.c):=by unfold ev lin pt;grind
 intro e he v hv;unfold T3.sides at he;unfold T3.l at hv;simp only[bO,cp,or_false]at he hv;rcases he with rfl|rfl|rfl<;>rcases hv with rfl|rfl|rfl<;>simp only[cN,cU] <;>omega
def Td{t:T3}{q:P3}(h:LW t.l q):0<=ev (lin t.a t.b) q/\0<=ev (lin t.b t.c) q/\0<=ev (lin t.c t.a) q:=
 ⟨h ⟨t.a,t.b⟩ (by rw[T3.Kc];unfold T3.sides;simp),h ⟨t.b,t.c⟩ (by rw[T3.Kc];unfold T3.sides;simp),h ⟨t.c,t.a⟩ (by rw[T3.Kc];unfold T3.sides;simp)⟩
def J2{a b c:V}{q:P3}(hl:0<ev (lin a b) (pt c))(h0:ev (lin a b) q=0)(h1:0<=ev (lin b c) q)(h2:0<=ev (lin c a) q):Bet q a b:=by refine⟨ev (lin b c) q,ev (lin c a) q,ev (lin a b) (pt c),h1,h2,hl,?_⟩;unfold ev lin at h0;unfold cmb ev lin pt;simp only[P3.mk.injEq];refine⟨?_,?_,?_⟩<;>grind
def aFA{t:T3}(h:Tri W side ins t.a t.b t.c){q:P3}(hq:0<q.d)(g:LW t.l q)(off:∀a b,side a b->¬Bet q a b):In [lin t.a t.b,lin t.b t.c,lin t.c t.a] q:=by
 obtain⟨g1,g2,g3⟩:=Td g;have l:=h.left;have r1:ev (lin t.b t.c) (pt t.a)=ev (lin t.a t.b) (pt t.c):=ik _ _ _;have r2:ev (lin t.c t.a) (pt t.b)=ev (lin t.a t.b) (pt t.c):=by unfold ev lin pt;grind
 have n1:ev (lin t.a t.b) q≠0:=λe=>off _ _ h.ab (J2 l e g2 g3);have n2:ev (lin t.b t.c) q≠0:=λe=>off _ _ h.bc (J2 aC e g3 g1);have n3:ev (lin t.c t.a) q≠0:=λe=>off _ _ h.ca (J2 aC e g1 g2);refine⟨hq,λf hf=> ?_⟩;simp only[bO,cp,or_false]at hf;rcases hf with rfl|rfl|rfl<;>omega
def far(c q:P3):∀L:List S,(∀e∈L,0<ev (lin e.a e.b) q)->∃n:Int,0<n/\∀e∈L,0<n*ev (lin e.a e.b) q+ev (lin e.a e.b) c
 |[],_=>⟨1,aC,af⟩
 |e::L,h=>by
  obtain⟨n,hn,g⟩:=far c q L λf hf=>h f (cM _ hf);have he:=h e cR;refine⟨n+((ev (lin e.a e.b) c).natAbs+1:Nat),aC,λf hf=> ?_⟩;rcases bO.1 hf with rfl|hf
  .have:=dg (aC:(1:Int)<=ev (lin f.a f.b) q) (aC:(0:Int)<=n+((ev (lin f.a f.b) c).natAbs+1:Nat));omega
  .have h1:=g f hf;have h2:=cF (aC:(0:Int)<=((ev (lin e.a e.b) c).natAbs+1:Nat)) (fZ (h f (cM _ hf)));rw[rT];omega
def RT{α:Type}{R:α->α->Prop}(sy:∀a b,R a b->R b a):∀{l:List α},l.Pairwise R->∀a∈l,∀b∈l,a≠b->R a b
 |[],_,a,ha,_,_,_=>by cases ha
 |x::l,h,a,ha,b,hb,hne=>by
  obtain⟨h1,h2⟩:=List.pairwise_cons.1 h;rcases bO.1 ha with e1|k1
  .rcases bO.1 hb with e2|k2
   .exact absurd (e1.trans e2.symm) hne
   .rw[e1];exact h1 b k2
  .rcases bO.1 hb with e2|k2
   .rw[e2];exact sy _ _ (h1 a k1)
   .exact RT sy h2 a k1 b k2 hne
def pI.one(N:Net W side){TL:List T3}{F:List (List V)}(A:All3 W side ins TL)(P:pI TL F){r r':List V}(hr:r∈F)(hr':r'∈F)(hne:r≠r'){q:P3}(hq:0<q.d)(h:LS r q)(h':LW r' q):False:=by
 obtain⟨G,g1,g2,g3⟩:=P;obtain⟨g,hg,rfl⟩:=bn.1 (g1.mem_iff.2 hr);obtain⟨g',hg',rfl⟩:=bn.1 (g1.mem_iff.2 hr');obtain⟨u,hu,hw⟩:=(g3 g' hg').2 q h';have U:=A.tri u (g2.mem_iff.1 (dL.2 ⟨g',hg',hu⟩));obtain⟨n,hn,far⟩:=far (ctr u.a u.b u.c) q (cyc g.1) h;have ci:=BA U.left;have e1:∀f,ev f (cmb n q 1 (ctr u.a u.b u.c))=n*ev f q+ev f (ctr u.a u.b u.c):=λf=>by rw[bB];omega
 have hd:0<(cmb n q 1 (ctr u.a u.b u.c)).d:=by have:=bJ hn hq;show 0<n*q.d+1*(ctr u.a u.b u.c).d;have:=ci.1;omega
 have hI:In [lin u.a u.b,lin u.b u.c,lin u.c u.a] (cmb n q 1 (ctr u.a u.b u.c)):=by
  refine⟨hd,λf hf=> ?_⟩;have c:=ci.2 f hf;have w:0<=ev f q:=by obtain⟨w1,w2,w3⟩:=Td hw;simp only[bO,cp,or_false]at hf;rcases hf with rfl|rfl|rfl<;>assumption
  have:=cF (fZ hn) w;rw[e1];omega
 obtain⟨t,ht,hw2⟩:=(g3 g hg).2 (cmb n q 1 (ctr u.a u.b u.c)) λe he=>by rw[e1];exact fZ (far e he)
 have T:=A.tri t (g2.mem_iff.1 (dL.2 ⟨g,hg,ht⟩));have hT:=aFA T hd hw2 λa b hs=>aCK N U hI hs;have R:=aDy N T U hT hI;have o:(G.flatMap Bi).Pairwise λt u=>¬Rt t u:=
  (g2.pairwise_iff λ{x y} hxy hr=>hxy hr.symm).2 (A.once.imp λ{a b} k=>Jg.2 k)
 rw[LV,LX]at o;have o2:=kG.1 o.2;have o3:=RT (R:=λa b:List V×List T3=>∀x∈a.2,∀y∈b.2,¬Rt x y) (λa b k x hx y hy hr=>k y hy x hx hr.symm) o2 g hg g' hg' (λe=>hne (by rw[e]));exact o3 t ht u hu R
end
section
variable {s:Shape} {D:List S}
variable (T:Tg s D) {q:Pt} (hq:dP q=aE) (hqd:0<q.den)
include T hq hqd
omit hqd in
end
def Fwd(c a x:V):Prop:=cross (sub a c) (sub x a)=0/\0<dot (sub x a) (sub a c)
def Kp(b:Bool)(x:Int):Prop:=if b=aE then 0<x else 0<=x
def JJ{u v:V}(h:0<dot u v):0<dot v v:=by
 have:v.x≠0\/v.y≠0:=by refine dS λc=> ?_;unfold dot at h;grind
 unfold dot;have h1:=ll v.x;have h2:=ll v.y;rcases this with g|g
 .have:v.x*v.x≠0:=λe=>by rcases dI.1 e with e|e<;>exact g e
  omega
 .have:v.y*v.y≠0:=λe=>by rcases dI.1 e with e|e<;>exact g e
  omega
def Fwd.trans{c a x n:V}(h:Fwd c a x)(g:Fwd a x n):Fwd c x n:=by
 obtain⟨h1,h2⟩:=h;obtain⟨g1,g2⟩:=g;have p:=JJ g2;have k1:dot (sub x a) (sub x a)*cross (sub x c) (sub n x)=dot (sub x a) (sub x a)*0:=by unfold dot cross sub at*;grind
 have k2:dot (sub x a) (sub x a)*dot (sub n x) (sub x c)=dot (sub x a) (sub x a)*dot (sub n x) (sub x a)+dot (sub n x) (sub x a)*dot (sub x a) (sub a c):=by unfold dot cross sub at*;grind
 refine⟨?_,?_⟩
 .rcases dI.1 (k1.trans af)with e|e<;>omega
 .have m1:=bJ p g2;have m2:=bJ g2 h2;refine dS λno=> ?_;have:=rS (fZ p) (aC:dot (sub n x) (sub x c)<=0);omega
def Fwd.ne{c a x:V}(h:Fwd c a x):x≠c:=λe=>by
 subst e;have:dot (sub x a) (sub a x)= -dot (sub a x) (sub a x):=by unfold dot sub;grind
 have p:=JJ h.2;have:=h.2;omega
def Fwd.k{c a x:V}(h:Fwd c a x)(b:Bool)(q:P3):(Kp b (ev (lin c a) q)/\Kp b (ev (lin a x) q))↔Kp b (ev (lin c x) q):=by
 obtain⟨h1,h2⟩:=h;have p:=JJ h2;have e1:ev (lin c x) q=ev (lin c a) q+ev (lin a x) q:=by unfold cross sub at h1;unfold ev lin;grind
 have e2:dot (sub a c) (sub a c)*ev (lin a x) q=dot (sub x a) (sub a c)*ev (lin c a) q:=by unfold dot cross sub at*;unfold ev lin;grind
 generalize ev (lin c a) q=A at*;generalize ev (lin a x) q=B at*;generalize dot (sub a c) (sub a c)=m at*;generalize dot (sub x a) (sub a c)=k at*;have s1:0<A->0<B:=λg=>by have:=bJ h2 g;refine dS λc=> ?_;have:=rS (fZ p) (aC:B<=0);omega
 have s2:A<0->B<0:=λg=>by have:=gr h2 g;refine dS λc=> ?_;have:=cF (fZ p) (aC:0<=B);omega
 have s3:A=0->B=0:=λg=>by rw[g,fP]at e2;rcases dI.1 e2 with e|e<;>omega
 rw[e1];unfold Kp;cases b<;>simp<;>omega
section
variable (keep:V->Bool)
def FE:V->List V->Prop
 |a,x::n::l=>(keep x=aK->Fwd a x n)/\a≠x/\FE x (n::l)
 |a,[x] =>keep x=aE/\a≠x
 |_,[] =>True
def Ih(b:Bool)(q:P3):∀(l:List V) (c a:V),FE keep a l->(a≠c->∃x m,l=x::m/\Fwd c a x)->(((a≠c->Kp b (ev (lin c a) q))/\∀e∈cS a l,Kp b (ev (lin e.a e.b) q))↔∀e∈cS c (l.filter keep),Kp b (ev (lin e.a e.b) q))
 |[],c,a,_,hf=>by
  have:a=c:=dS λh=>by obtain⟨_,_,e,_⟩:=hf h;cases e
  subst this;simp[cS]
 |x::l,c,a,hs,hf=>by
  have hax:a≠x:=by cases l with
   |nil=>exact hs.2
   |cons n l=>exact hs.2.1
  have two:((a≠c->Kp b (ev (lin c a) q))/\Kp b (ev (lin a x) q))↔Kp b (ev (lin c x) q):=by
   by_cases e:a=c
   .subst e;simp
   .obtain⟨_,_,e2,f⟩:=hf e;cases e2;rw[<-f.k b q];simp[e]
  have hp:cS a (x::l)=⟨a,x⟩::cS x l:=rfl;rw[hp];cases hk:keep x with
  |true=>
   have ih:=Ih b q l x x (by
    cases l with
    |nil=>trivial
    |cons n l=>exact hs.2.2) (λh=>absurd rfl h)
   rw[vA hk];have hp2:cS c (x::l.filter keep)=⟨c,x⟩::cS x (l.filter keep):=rfl;rw[hp2];simp only[bO,forall_eq_or_imp];rw[<-ih,<-two];simp[and_assoc]
  |false=>
   cases l with
   |nil=>rw[hs.1]at hk;cases hk
   |cons n l=>
    obtain⟨h1,_,h3⟩:=hs;have fx:Fwd c x n:=by
     by_cases e:a=c
     .subst e;exact h1 hk
     .obtain⟨_,_,e2,f⟩:=hf e;cases e2;exact f.trans (h1 hk)
    have hxc:x≠c:=by
     by_cases e:a=c
     .subst e;exact hax.symm
     .obtain⟨_,_,e2,f⟩:=hf e;cases e2;exact f.ne
    have ih:=Ih b q (n::l) c x h3 (λ_=>⟨n,l,rfl,fx⟩);rw[FN (by simp[hk]),<-ih,<-two];simp only[bO,forall_eq_or_imp];simp[hxc,and_assoc]
end
section
variable {W:List V} {side:V->V->Prop}
def CX.fwd(N:Net W side){r:List V}(c:CX r)(hs:∀e∈cyc r,side e.a e.b){a x n:V}(h1:(⟨a,x⟩:S)∈cyc r)(h2:(⟨x,n⟩:S)∈cyc r)(hk:eI r x=aK):Fwd a x n:=by
 have ua:=N.symm (hs _ h1);have ub:=hs _ h2;have hab:a≠n:=λe=>by subst e;exact c.noBack h1 h2
 have h0:turn a x n=0:=dS λg=>by rw[qo.2 ⟨a,n,h1,h2,g⟩]at hk;cases hk
 have hcr:cross (sub x a) (sub n a)=0:=by
  unfold turn sgn at h0;split at h0
  .cases h0
  .omega
 have ap:=N.fanApart ua ub hab;have e1:cross (sub x a) (sub n x)=0:=by rw[<-hcr];unfold cross sub;grind
 have e2:cross (sub a x) (sub n x)= -cross (sub x a) (sub n x):=by unfold cross sub;grind
 have e3:dot (sub a x) (sub n x)= -dot (sub n x) (sub x a):=by unfold dot sub;grind
 refine⟨e1,?_⟩;unfold gh at ap;dsimp only at ap;omega
def Is{r:List V}(N:Net W side)(c:CX r)(hs:∀e∈cyc r,side e.a e.b):∀(l:List V) (a z:V),(∀e∈cS a (l++[z]),e∈cyc r)->eI r z=aE->FE (eI r) a (l++[z])
 |[],a,z,h,hz=>⟨hz,N.ne (hs ⟨a,z⟩ (h _ cR))⟩
 |x::l,a,z,h,hz=>by
  have ih:=Is N c hs l x z (λe he=>h e (cM _ he)) hz;have m1:=h ⟨a,x⟩ cR;cases l with
  |nil=>exact⟨λhk=>c.fwd N hs m1 (h ⟨x,z⟩ (cM _ cR)) hk,N.ne (hs _ m1),ih⟩
  |cons n l=>exact⟨λhk=>c.fwd N hs m1 (h ⟨x,n⟩ (cM _ cR)) hk,N.ne (hs _ m1),ih⟩
def LK(b:Bool)(r:List V)(q:P3):Prop:=∀e∈cyc r,Kp b (ev (lin e.a e.b) q)
def LK.turn{b:Bool}{k l:List V}{q:P3}:LK b (k++l) q↔LK b (l++k) q:=by unfold LK;simp only[(kh k l).mem_iff]
def CX.corners(N:Net W side){r:List V}(c:CX r)(hs:∀e∈cyc r,side e.a e.b)(b:Bool)(q:P3):LK b (dQ r) q↔LK b r q:=by
 obtain⟨u,hu⟩:=Bh _ (c.corner N hs);obtain⟨hur,huc⟩:=eY.1 hu;obtain⟨k,l,rfl⟩:=wh hur;have hb:∀m:List V,LK b (bo m) q↔LK b m q:=λm=>by unfold bo;rw[LK.turn,vD]
 unfold dQ;rw[hb,mJ,LK.turn,<-mJ,LK.turn (k:=k)];have c2:∀e,e∈cyc (u::l++k)->e∈cyc (k++u::l):=λe he=>(kh k (u::l)).mem_iff.1 he;have hst:=Is N c hs (l++k) u u (λe he=>c2 e he) huc;have:=Ih (eI (k++u::l)) b q ((l++k)++[u]) u u hst (λh=>absurd rfl h);have hf:((l++k)++[u]).filter (eI (k++u::l))=(l++k).filter (eI (k++u::l))++[u] :=by rw[mJ,vA huc];rfl
 rw[hf]at this;have hg:(u::l++k).filter (eI (k++u::l))=u::(l++k).filter (eI (k++u::l)):=by rw[k8,vA huc]
 rw[hg];unfold LK;show(∀e∈cS u (_++[u]),_)↔∀e∈cS u ((l++k)++[u]),_;rw[<-this];simp
end
section
variable {W:List V} {side:V->V->Prop} {ins:P3->Bool}
def X8{t:T3}(hl:0<ev (lin t.a t.b) (pt t.c)){r:List V}(c:CX r)(hv:∀v∈t.l,v∈r){q:P3}(h:In [lin t.a t.b,lin t.b t.c,lin t.c t.a] q)(hne:∀e∈cyc r,e.a≠e.b):LS r q:=by
 intro e he;have h1:=h.2 (lin t.a t.b) af;have h2:=h.2 (lin t.b t.c) af;have h3:=h.2 (lin t.c t.a) af;have fa:=c.left e he t.a (hv _ (by simp[T3.l]));have fb:=c.left e he t.b (hv _ (by simp[T3.l]));have fc:=c.left e he t.c (hv _ (by simp[T3.l]));have key:ev (lin t.a t.b) (pt t.c)*ev (lin e.a e.b) q=ev (lin t.b t.c) q*ev (lin e.a e.b) (pt t.a)+ev (lin t.c t.a) q*ev (lin e.a e.b) (pt t.b)+ev (lin t.a t.b) q*ev (lin e.a e.b) (pt t.c):=by unfold ev lin pt;grind
 have m1:=cF (fZ h2) fa;have m2:=cF (fZ h3) fb;have m3:=cF (fZ h1) fc;refine dS λno=> ?_;have z:=rS (fZ hl) (aC:ev (lin e.a e.b) q<=0);have za:ev (lin e.a e.b) (pt t.a)=0:=by rcases dI.1 (aC:ev (lin t.b t.c) q*ev (lin e.a e.b) (pt t.a)=0)with g|g<;>omega
 have zb:ev (lin e.a e.b) (pt t.b)=0:=by rcases dI.1 (aC:ev (lin t.c t.a) q*ev (lin e.a e.b) (pt t.b)=0)with g|g<;>omega
 have zc:ev (lin e.a e.b) (pt t.c)=0:=by rcases dI.1 (aC:ev (lin t.a t.b) q*ev (lin e.a e.b) (pt t.c)=0)with g|g<;>omega
 have hd:=hne e he;rw[di]at za zb zc hl;have kx:(e.b.x-e.a.x)*cross (sub t.b t.a) (sub t.c t.a)=0:=by unfold cross sub at*;grind
 have ky:(e.b.y-e.a.y)*cross (sub t.b t.a) (sub t.c t.a)=0:=by unfold cross sub at*;grind
 rcases dI.1 kx with g|g
 .rcases dI.1 ky with g2|g2
  .apply hd;obtain⟨⟨ax,ay⟩,⟨bx,b_y⟩⟩:=e;simp only[V.mk.injEq];dsimp only at g g2;omega
  .omega
 .omega
end
def H9{P A B:V}(h0:cross A B=0)(h1:dot A B<0)(ha:0<=cross P A)(hb:0<=cross P B):cross P A=0:=by
 have key:cross P A*dot B B=cross P B*dot A B:=by unfold cross dot at*;grind
 have hB:0<=dot B B:=by unfold dot;have:=ll B.x;have:=ll B.y;omega
 have m1:=cF ha hB;have m2:=rS hb (fZ h1);rcases dI.1 (aC:cross P A*dot B B=0)with g|g
 .exact g
 .exfalso;have h2:=ll B.x;have h3:=ll B.y;unfold dot at g h1;have:B.x=0/\B.y=0:=by
   constructor
   .rcases dI.1 (aC:B.x*B.x=0)with e|e<;>exact e
   .rcases dI.1 (aC:B.y*B.y=0)with e|e<;>exact e
  rw[this.1,this.2]at h1;omega
def OM{P Q A:V}(h1:cross P A=0)(h2:cross Q A=0)(hA:dot A A≠0):cross P Q=0:=by
 have key:cross P Q*dot A A=cross P A*dot A Q-cross Q A*dot A P:=by unfold cross dot;grind
 rw[h1,h2]at key;rcases dI.1 (aC:cross P Q*dot A A=0)with g|g
 .exact g
 .exact absurd g hA
def AL{u v:V}(h:u≠v):0<dot (sub u v) (sub u v):=by
 obtain⟨x,y⟩:=u;obtain⟨z,w⟩:=v;simp only[ne_eq,V.mk.injEq]at h;have h1:=ll (x-z);have h2:=ll (y-w);unfold dot sub;dsimp only;refine dS λc=>h ⟨?_,?_⟩
 .rcases dI.1 (aC:(x-z)*(x-z)=0)with e|e<;>omega
 .rcases dI.1 (aC:(y-w)*(y-w)=0)with e|e<;>omega
def CX.notmid{r:List V}(c:CX r){v a b:V}(hv:v∈r.filter (eI r))(ha:a∈r)(hb:b∈r)(h0:cross (sub a v) (sub b v)=0)(h1:dot (sub a v) (sub b v)<0):False:=by
 obtain⟨hvr,hc⟩:=eY.1 hv;obtain⟨u,w,hu,hw,ht⟩:=qo.1 hc;have s:∀{x y z:V},cross (sub y x) (sub z x)=cross (sub y x) (sub z y):=by intro x y z;unfold cross sub;grind
 have a1:0<=cross (sub v u) (sub a v):=by have:=c.left _ hu a ha;dsimp only at this;rw[di]at this;rw[<-s];exact this
 have b1:0<=cross (sub v u) (sub b v):=by have:=c.left _ hu b hb;dsimp only at this;rw[di]at this;rw[<-s];exact this
 have a2:0<=cross (sub w v) (sub a v):=by have:=c.left _ hw a ha;dsimp only at this;rw[di]at this;exact this
 have b2:0<=cross (sub w v) (sub b v):=by have:=c.left _ hw b hb;dsimp only at this;rw[di]at this;exact this
 have z1:=H9 h0 h1 a1 b1;have z2:=H9 h0 h1 a2 b2;have hne:a≠v:=λe=>by
  subst e;have:dot (sub a a) (sub b a)=0:=by unfold dot sub;grind
  omega
 have:=OM z1 z2 (by have:=AL hne;omega);apply ht;unfold turn;rw[s,this];rfl
def CX.nocol{r:List V}(c:CX r){x y z:V}(hx:x∈r.filter (eI r))(hy:y∈r.filter (eI r))(hz:z∈r.filter (eI r))(h1:x≠y)(h2:y≠z)(h3:x≠z):cross (sub y x) (sub z x)≠0:=λh0=>by
 have mx:=(eY.1 hx).1;have my:=(eY.1 hy).1;have mz:=(eY.1 hz).1;have n1:¬dot (sub y x) (sub z x)<0:=λg=>c.notmid hx my mz h0 g;have n2:¬dot (sub x y) (sub z y)<0:=λg=>c.notmid hy mx mz (by unfold cross sub at*;grind) g;have n3:¬dot (sub x z) (sub y z)<0:=λg=>c.notmid hz mx my (by unfold cross sub at*;grind) g;have d2:dot (sub x y) (sub z y)=dot (sub y x) (sub y x)-dot (sub y x) (sub z x):=by unfold dot sub;grind
 have d3:dot (sub x z) (sub y z)=dot (sub z x) (sub z x)-dot (sub y x) (sub z x):=by unfold dot sub;grind
 have d4:dot (sub y z) (sub y z)=dot (sub y x) (sub y x)+dot (sub z x) (sub z x)-2*dot (sub y x) (sub z x):=by unfold dot sub;grind
 have sq:dot (sub y x) (sub z x)*dot (sub y x) (sub z x)=dot (sub y x) (sub y x)*dot (sub z x) (sub z x):=by unfold dot cross sub at*;grind
 have p1:=AL h1.symm;have p2:=AL h3.symm;have p3:=AL h2;generalize dot (sub y x) (sub z x)=m at*;generalize dot (sub y x) (sub y x)=p at*;generalize dot (sub z x) (sub z x)=q at*;have k1:q<=m:=by refine dS λg=> ?_;have:=Int.mul_le_mul_of_nonneg_right (aC:m<=p) (aC:0<=m);have:=Int.mul_lt_mul_of_pos_left (aC:m<q) p1;omega
 have k2:p<=m:=by refine dS λg=> ?_;have:=dg (aC:m<=q) (aC:0<=m);have:=Int.mul_lt_mul_of_pos_right (aC:m<p) p2;omega
 omega
section
variable {W:List V} {side:V->V->Prop}
def CX.corners3(N:Net W side){r:List V}(c:CX r)(hs:∀e∈cyc r,side e.a e.b):3<=aA (r.filter (eI r)):=by
 obtain⟨a,ha⟩:=Bh _ (c.corner N hs);obtain⟨har,hac⟩:=eY.1 ha;obtain⟨p,x,hp,hx,ht⟩:=qo.1 hac;refine dS λhl=> ?_;have main:∀b,b≠a->(∀v∈r.filter (eI r),ev (lin a b) (pt v)=0)->False:=λb hb g=>by
  have h1:=c.hull N hs (lin a b) λv hv=>by have:=g v hv;omega
  have h2:=c.hull N hs (lin b a) λv hv=>by have:=g v hv;rw[jf];omega
  have z:∀v∈r,cross (sub b a) (sub v a)=0:=λv hv=>by have k1:=h1 v hv;have k2:=h2 v hv;rw[jf]at k2;rw[<-di];omega
  have zp:=z p (oM hp);have zx:=z x (nD hx);have:=OM (P:=sub p a) (Q:=sub x a) (A:=sub b a) (by unfold cross at*;grind) (by unfold cross at*;grind) (by have:=AL hb;omega);apply ht;have e:cross (sub a p) (sub x p)= -cross (sub p a) (sub x a):=by unfold cross sub;grind
  unfold turn;rw[e,this];rfl
 have two:∃b,b≠a/\∀v∈r.filter (eI r),v=a\/v=b:=by
  rcases h:r.filter (eI r)with _|⟨y,_|⟨z,_|⟨w,t⟩⟩⟩
  .rw[h]at ha;cases ha
  .rw[h]at ha;rw[cI.1 ha];refine⟨x,?_,λv hv=> .inl (cI.1 hv)⟩;rw[<-cI.1 ha];exact(N.ne (hs _ hx)).symm
  .rw[h]at ha;have nd:(r.filter (eI r)).Nodup:=c.nodup.filter _;rw[h]at nd;have:y≠z:=by simp at nd;exact nd
   simp only[bO,cp,or_false]at ha|-;rcases ha with rfl|rfl
   .exact⟨z,this.symm,λv hv=>hv⟩
   .exact⟨y,this,λv hv=>hv.symm⟩
  .rw[h]at hl;simp at hl
 obtain⟨b,hb,g⟩:=two;refine main b hb λv hv=> ?_;rcases g v hv with rfl|rfl
 .exact cN _ _
 .exact cU _ _
variable {ins:P3->Bool}
end
def yk(a b c:V):Prop:=(alt a b/\alt b c)\/(alt b c/\alt c a)\/(alt c a/\alt a b)
def TD{n x m:V}(hn:nz n)(hx:nz x)(hm:nz m)(a1:gh n x)(a2:gh x m)(h:yk n x m)(hc:0<cross n m):0<cross n x/\0<cross x m:=by have t1:=vO hn hx hm;have t2:=xG hn hx hm;have l1:=nW hn hx;have l2:=nW hx hm;have c1:=iI n m;have c2:=iI n x;have c3:=iI x m;unfold gh at a1 a2;unfold eV at t1 t2;unfold yk alt at h;grind
def aEp{n q m:V}(hn:nz n)(hq:nz q)(hm:nz m)(a1:gh n q)(a2:gh q m)(h:yk m q n)(hc:0<cross n m):cross n q<0\/cross q m<0:=by have t1:=vO hn hq hm;have t2:=xG hn hq hm;have l1:=nW hn hq;have l2:=nW hq hm;have c1:=iI n m;have c2:=iI n q;have c3:=iI q m;unfold gh at a1 a2;unfold eV at t1 t2;unfold yk alt at h;grind
section
variable {p:V} {L l:List V}
def Fan.cyc(F:Fan p L){a b c:Nat}(ha:a<aA L)(hb:b<aA L)(hc:c<aA L)(h:(a<b/\b<c)\/(b<c/\c<a)\/(c<a/\a<b)):yk (sub L[a] p) (sub L[b] p) (sub L[c] p):=by
 rcases h with⟨h1,h2⟩|⟨h1,h2⟩|⟨h1,h2⟩
 .exact .inl ⟨F.lt ha hb h1,F.lt hb hc h2⟩
 .exact .inr (.inl ⟨F.lt hb hc h1,F.lt hc ha h2⟩)
 .exact .inr (.inr ⟨F.lt hc ha h1,F.lt ha hb h2⟩)
def Fan.Z9(F:Fan p L)(hl:∀x,x∈l↔x∈L){q j:V}(hq:q∈L)(h:fW l p q aK=j):fW l p j aE=q:=by obtain⟨a,ha,rfl⟩:=gv.1 hq;obtain⟨m,hm,e,h2⟩:=F.nextAt hl ha;obtain⟨k,hk,e3,h3⟩:=F.prevAt hl hm;grind
def Fan.after(F:Fan p L)(hl:∀x,x∈l↔x∈L){q b x:V}(hq:q∈L)(h:fW l p q aK=b)(hx:x∈L)(h1:x≠q)(h2:x≠b):yk (sub b p) (sub x p) (sub q p):=by obtain⟨a,ha,rfl⟩:=gv.1 hq;obtain⟨m,hm,e,h3⟩:=F.nextAt hl ha;obtain⟨d,hd,rfl⟩:=gv.1 hx;rw[e]at h;subst h;have n1:d≠a:=λe=>h1 (by subst e;rfl);have n2:d≠m:=λe=>h2 (by subst e;rfl);exact F.cyc hm hd ha aC
def O0(a b:Int)(n m s:V):cross ⟨a*n.x-b*m.x,a*n.y-b*m.y⟩ s=a*cross n s+b*cross s m:=by unfold cross;grind
def Fan.bad(F:Fan p L)(hl:∀x,x∈l↔x∈L){q:V}(hq:q∈L)(h3:3<=aA L)(hb:turn p (fW l p q aE) (fW l p q aK)<0):∃f:V,(∀x∈L,x≠q->0<cross f (sub x p))/\cross f (sub q p)<=0:=by
 obtain⟨a,ha,rfl⟩:=gv.1 hq;obtain⟨m,hm,e1,h1⟩:=F.prevAt hl ha;obtain⟨n,hn,e2,h2⟩:=F.nextAt hl ha;rw[e1,e2]at hb;have hc:0<cross (sub L[n] p) (sub L[m] p):=by
  have:cross (sub L[m] p) (sub L[n] p)<0:=by unfold turn sgn at hb;grind
  rw[iI]at this;omega
 have z:=λ{i:Nat} (hi:i<aA L)=>F.nz L[i] (jr hi);have ap:=λ{i j:Nat} (hi:i<aA L) (hj:j<aA L) (h:i≠j)=>F.apart L[i] (jr hi) L[j] (jr hj) (F.ne hi hj h);have ins:∀d (hd:d<aA L),d≠a->d≠m->d≠n->0<cross (sub L[n] p) (sub L[d] p)/\0<cross (sub L[d] p) (sub L[m] p):=λd hd k1 k2 k3=>
  TD (z hn) (z hd) (z hm) (ap hn hd (kZ k3)) (ap hd hm k2) (F.cyc hn hd hm aC) hc
 have out:=aEp (z hn) (z ha) (z hm) (ap hn ha aC) (ap ha hm aC) (F.cyc hm ha hn aC) hc;obtain⟨x,y,hx,hy,hxy⟩:∃x y:Int,0<x/\0<y/\x*cross (sub L[n] p) (sub L[a] p)+y*cross (sub L[a] p) (sub L[m] p)<=0:=by
  generalize cross (sub L[n] p) (sub L[a] p)=u at*;generalize cross (sub L[a] p) (sub L[m] p)=v at*;rcases out with g|g
  .refine⟨v.natAbs+1,1,aC,aC,?_⟩;have:=dg (aC:u<= -1) (aC:(0:Int)<=(v.natAbs+1:Nat));have e:(((v.natAbs:Int)+1))=((v.natAbs+1:Nat):Int):=aC;rw[e];omega
  .refine⟨1,u.natAbs+1,aC,aC,?_⟩;have:=dg (aC:v<= -1) (aC:(0:Int)<=(u.natAbs+1:Nat));have e:(((u.natAbs:Int)+1))=((u.natAbs+1:Nat):Int):=aC;rw[e];omega
 refine⟨⟨x*(sub L[n] p).x-y*(sub L[m] p).x,x*(sub L[n] p).y-y*(sub L[m] p).y⟩,λw hw hne=> ?_,?_⟩
 .obtain⟨d,hd,rfl⟩:=gv.1 hw;have da:d≠a:=λe=>hne (by subst e;rfl);rw[O0];have self:∀v:V,cross v v=0:=λv=>by unfold cross;grind
  by_cases k2:d=m
  .subst k2;rw[self];have:=bJ hx hc;omega
  .by_cases k3:d=n
   .subst k3;rw[self];have:=bJ hy hc;omega
   .obtain⟨g1,g2⟩:=ins d hd da k2 k3;have:=bJ hx g1;have:=bJ hy g2;omega
 .rw[O0];exact hxy
end
def aBS{A q r f g:V}(f1:0<cross f A)(f2:0<cross f r)(f3:cross f q<=0)(g1:0<cross g A)(g2:0<cross g q)(g3:cross g r<=0)(hq:gh q A)(hr:gh r A)(h:(0<cross q A↔0<cross r A)):False:=by
 have k1:cross q A*cross g r=cross r A*cross g q+cross q r*cross g A:=by unfold cross;grind
 have k2:cross r A*cross f q=cross q A*cross f r-cross q r*cross f A:=by unfold cross;grind
 have zero:∀{u e:V},cross u A=0->gh u A->0<cross e A->0<cross e u->False:=λ{u e} h0 ha h1 h2=>by
  have hd:dot u A<0:=by unfold gh at ha;grind
  have:=H9 h0 hd (P:=e) aC aC;omega
 have nq:cross q A≠0:=λe=>zero e hq g1 g2;have nr:cross r A≠0:=λe=>zero e hr f1 f2;rcases cH 0 (cross q A)with s|s
 .have s2:=h.1 s;have m1:=bJ s2 g2;have m2:=rS (fZ s) g3;have m3:=bJ s f2;have m4:=rS (fZ s2) f3;have a:cross q r*cross g A<0:=aC;have b:0<cross q r*cross f A:=aC;rcases cH 0 (cross q r)with t|t
  .have:=bJ t g1;omega
  .have:=Bf t (fZ f1);omega
 .have s1:cross q A<0:=aC;have s2:cross r A<0:=by
   have:¬0<cross r A:=λt=>by have:=h.2 t;omega
   omega
  have m1:=mH s2 g2;have m2:=V7 (fZ s1) g3;have m3:=mH s1 f2;have m4:=V7 (fZ s2) f3;have a:0<cross q r*cross g A:=aC;have b:cross q r*cross f A<0:=aC;rcases cH 0 (cross q r)with t|t
  .have:=bJ t f1;omega
  .have:=Bf t (fZ g1);omega
def aDC{A B q f:V}(fA:0<cross f A)(fB:0<cross f B)(fq:cross f q<=0)(h:0<cross B A)(h1:0<cross B q)(h2:0<cross q A):False:=by
 have k:cross B A*cross f q=cross q A*cross f B+cross B q*cross f A:=by unfold cross;grind
 have m1:=bJ h2 fB;have m2:=bJ h1 fA;have m3:=rS (fZ h) fq;omega
def crs(l:List S):Int:=(l.map λe=>cross e.a e.b).sum
def Gi(k l:List S):crs (k++l)=crs k+crs l:=by unfold crs;rw[dV,nM]
def DM(e:S)(l:List S):crs (e::l)=cross e.a e.b+crs l:=by unfold crs;rw[dU,oT]
def QY{k l:List S}(h:k.Perm l):crs k=crs l:=xQ (h.map _)
def aEb(l:List S):crs (l.map swp)= -crs l:=by
 induction l with
 |nil=>rfl
 |cons e l ih=>
  rw[dU,DM,DM,ih];have:cross (swp e).a (swp e).b= -cross e.a e.b:=by show cross e.b e.a=_;unfold cross;grind
  omega
def aCE(F:List (List V)):crs (F.flatMap cyc)=(F.map λf=>crs (cyc f)).sum:=by
 induction F with
 |nil=>rfl
 |cons f F ih=>rw[fw,Gi,ih,dU,oT]
def Fwd.cross{c a x:V}(h:Fwd c a x):cross c a+cross a x=cross c x:=by have:=h.1;unfold Geo.cross sub at*;grind
def Hl(keep:V->Bool):∀(l:List V) (c a:V),FE keep a l->(a≠c->∃x m,l=x::m/\Fwd c a x)->cross c a+crs (cS a l)=crs (cS c (l.filter keep))
 |[],c,a,_,hf=>by
  have:a=c:=dS λh=>by obtain⟨_,_,e,_⟩:=hf h;cases e
  subst this;show cross a a+0=0;unfold cross;grind
 |x::l,c,a,hs,hf=>by
  have two:cross c a+cross a x=cross c x:=by
   by_cases e:a=c
   .subst e;unfold cross;grind
   .obtain⟨_,_,e2,f⟩:=hf e;cases e2;exact f.cross
  rw[show cS a (x::l)=⟨a,x⟩::cS x l from rfl,DM];cases hk:keep x with
  |true=>
   have ih:=Hl keep l x x (by
    cases l with
    |nil=>trivial
    |cons n l=>exact hs.2.2) (λh=>absurd rfl h)
   rw[vA hk,show cS c (x::l.filter keep)=⟨c,x⟩::cS x (l.filter keep)from rfl,DM,<-ih];have:cross x x=0:=by unfold cross;grind
   dsimp only;omega
  |false=>
   cases l with
   |nil=>rw[hs.1]at hk;cases hk
   |cons n l=>
    obtain⟨h1,_,h3⟩:=hs;have fx:Fwd c x n:=by
     by_cases e:a=c
     .subst e;exact h1 hk
     .obtain⟨_,_,e2,f⟩:=hf e;cases e2;exact f.trans (h1 hk)
    have ih:=Hl keep (n::l) c x h3 (λ_=>⟨n,l,rfl,fx⟩);rw[FN (by simp[hk]),<-ih];dsimp only;omega
section
variable {W:List V} {side:V->V->Prop}
def CX.area(N:Net W side){r:List V}(c:CX r)(hs:∀e∈cyc r,side e.a e.b):crs (cyc (dQ r))=crs (cyc r):=by
 obtain⟨u,hu⟩:=Bh _ (c.corner N hs);obtain⟨hur,huc⟩:=eY.1 hu;obtain⟨k,l,rfl⟩:=wh hur;have sw:∀k l:List V,crs (cyc (k++l))=crs (cyc (l++k)):=λk l=>QY (kh l k);have hb:∀m:List V,crs (cyc (bo m))=crs (cyc m):=λm=>by unfold bo;rw[sw,vD]
 unfold dQ;rw[hb,mJ,sw,<-mJ,sw k];have hst:=Is N c hs (l++k) u u (λe he=>(kh k (u::l)).mem_iff.1 he) huc;have:=Hl (eI (k++u::l)) ((l++k)++[u]) u u hst (λh=>absurd rfl h);have hf:((l++k)++[u]).filter (eI (k++u::l))=(l++k).filter (eI (k++u::l))++[u] :=by rw[mJ,vA huc];rfl
 rw[hf]at this;have hg:(u::l++k).filter (eI (k++u::l))=u::(l++k).filter (eI (k++u::l)):=by rw[k8,vA huc]
 rw[hg];show crs (cS u (_++[u]))=crs (cS u ((l++k)++[u]));rw[<-this];have:cross u u=0:=by unfold cross;grind
 omega
end
end Geo
inductive PV where
 |int (k:IntKind) (n:Int)
 |bool (b:Bool)
 |str (s:ByteArray)
 |agg (l:List PV)
 |tup (l:List PV)
 |sl (n:Nat) (cells:List PV)
 |pro (cells:List PV) (off:Nat)
 |fn (f:Fn) (first caps:List PV)
 |junk
deriving Inhabited
abbrev bf:=Nat->Nat->Value->Prop
def i9(vs:List Value):Prop:=∀u∈vs,u.oneCell'=aE
mutual
def bE(C:bf):PV->Value->Prop
 | .int k n,v=>v= .int k n
 | .bool b,v=>v= .bool b
 | .str s,v=>v= .string s
 | .agg l,v=>∃vs:List Value,v= .agg vs.toArray/\bk C l vs/\i9 vs
 | .tup l,v=>∃vs:List Value,v= .tuple vs.toArray/\bk C l vs
 | .sl n cs,v=>∃a c,v= .slice a n c/\n<=c/\(a=aM->c=0/\cs=[])/\∀ad,a=aD ad->(0<n->ad.spot=aM)/\dp C cs ad.block ad.off
 | .pro cs off,v=>∃b o,v= .pointer (aD ⟨b,o+off,aM⟩)/\dp C cs b o
 | .fn f l1 l2,v=>∃vs1 vs2:List Value,v= .func f vs1.toArray vs2.toArray/\bk C l1 vs1/\bk C l2 vs2
 | .junk,_=>True
def bk(C:bf):List PV->List Value->Prop
 |[],vs=>vs=[]
 |x::l,vs=>∃v r,vs=v::r/\bE C x v/\bk C l r
def dp(C:bf):List PV->Nat->Nat->Prop
 |[],_,_=>True
 |x::l,b,o=>(∃v,C b o v/\v.oneCell'=aE/\bE C x v)/\dp C l b (o+1)
end
section
variable {C C':bf}
mutual
theorem bE.mono(h:∀b o v,C b o v->C' b o v):∀(x:PV) (v:Value),bE C x v->bE C' x v
 | .int ..,v,hx=>by exact hx
 | .bool ..,v,hx=>by exact hx
 | .str ..,v,hx=>by exact hx
 | .agg l,v,hx=>by obtain⟨vs,h1,h2,h3⟩:=hx;exact⟨vs,h1,bk.mono h l vs h2,h3⟩
 | .tup l,v,hx=>by obtain⟨vs,h1,h2⟩:=hx;exact⟨vs,h1,bk.mono h l vs h2⟩
 | .sl n cs,v,hx=>by
   obtain⟨a,c,h1,h2,h3,h4⟩:=hx;exact⟨a,c,h1,h2,h3,λad e=>⟨(h4 ad e).1,dp.mono h cs _ _ (h4 ad e).2⟩⟩
 | .pro cs off,v,hx=>by obtain⟨b,o,h1,h2⟩:=hx;exact⟨b,o,h1,dp.mono h cs _ _ h2⟩
 | .fn f l1 l2,v,hx=>by obtain⟨a,b,h1,h2,h3⟩:=hx;exact⟨a,b,h1,bk.mono h l1 a h2,bk.mono h l2 b h3⟩
 | .junk,v,hx=>by trivial
theorem bk.mono(h:∀b o v,C b o v->C' b o v):∀(l:List PV) (vs:List Value),bk C l vs->bk C' l vs
 |[],vs,hx=>by exact hx
 |x::l,vs,hx=>by obtain⟨v,r,h1,h2,h3⟩:=hx;exact⟨v,r,h1,bE.mono h x v h2,bk.mono h l r h3⟩
theorem dp.mono(h:∀b o v,C b o v->C' b o v):∀(l:List PV) (b o:Nat),dp C l b o->dp C' l b o
 |[],b,o,hx=>by trivial
 |x::l,b,o,hx=>by
  obtain⟨⟨v,h1,h2,h3⟩,h4⟩:=hx;exact⟨⟨v,h _ _ _ h1,h2,bE.mono h x v h3⟩,dp.mono h l b (o+1) h4⟩
end
def bk.length:∀(l:List PV) (vs:List Value),bk C l vs->aA vs=aA l
 |[],vs,h=>by subst h;rfl
 |x::l,vs,h=>by obtain⟨v,r,rfl,_,h3⟩:=h;simp[bk.length l r h3]
def bk.get:∀(l:List PV) (vs:List Value),bk C l vs->∀(i:Nat) x,l[i]? =aD x->∃v,vs[i]? =aD v/\bE C x v
 |[],vs,h,i,x,hi=>by simp at hi
 |y::l,vs,h,0,x,hi=>by unfold bk at h;grind
 |y::l,vs,h,i+1,x,hi=>by
  obtain⟨v,r,rfl,h2,h3⟩:=h;exact bk.get l r h3 i x aH
def bk.of:∀(l:List PV) (vs:List Value),aA vs=aA l->(∀(i:Nat) x,l[i]? =aD x->∃v,vs[i]? =aD v/\bE C x v)->bk C l vs
 |[],vs,hl,h=>by unfold bk;grind
 |y::l,[],hl,h=>by simp at hl
 |y::l,v::r,hl,h=>by
  obtain⟨v',h1,h2⟩:=h 0 y rfl;simp at h1;subst h1;exact⟨v,r,rfl,h2,bk.of l r aH (λi x hi=>h (i+1) x aH)⟩
def dp.get:∀(l:List PV) (b o:Nat),dp C l b o->∀(i:Nat) x,l[i]? =aD x->∃v,C b (o+i) v/\v.oneCell'=aE/\bE C x v
 |[],b,o,h,i,x,hi=>by simp at hi
 |y::l,b,o,h,0,x,hi=>by unfold dp at h;grind
 |y::l,b,o,h,i+1,x,hi=>by
  have:=dp.get l b (o+1) h.2 i x aH;grind
def dp.of:∀(l:List PV) (b o:Nat),(∀(i:Nat) x,l[i]? =aD x->∃v,C b (o+i) v/\v.oneCell'=aE/\bE C x v)->dp C l b o
 |[],b,o,h=>by trivial
 |y::l,b,o,h=>by
  refine⟨h 0 y rfl,dp.of l b (o+1) (λi x hi=> ?_)⟩;have:=h (i+1) x aH;grind
def dp.drop{l:List PV}{b o:Nat}(h:dp C l b o)(k:Nat):dp C (l.drop k) b (o+k):=
 dp.of _ _ _ λi x hi=>by rw[yv]at hi;have:=dp.get l b o h (k+i) x hi;grind
def dp.take{l:List PV}{b o:Nat}(h:dp C l b o)(k:Nat):dp C (l.take k) b o:=
 dp.of _ _ _ λi x hi=>by
  rw[rQ]at hi;split at hi
  .exact dp.get l b o h i x hi
  .cases hi
end
inductive AV where
 |any
 |undef
 |nil
 |p (x:PV)
 |ptr (s off:Nat)
 |own (s o n:Nat)
 |agg (l:List AV)
 |tup (l:List AV)
 |fn (f:Fn) (first caps:List AV)
 |mp (s:Nat)
deriving Inhabited
abbrev Ren:=Nat->Option (Option Nat×Nat)
mutual
def ai(ρ:Ren)(C:bf):AV->Value->Prop
 | .any,_=>True
 | .undef,v=>v=Go.undef
 | .nil,v=>v= .slice aM 0 0
 | .p x,v=>bE C x v
 | .ptr s off,v=>∃b c,ρ s=aD (aD b,c)/\v= .pointer (aD ⟨b,off,aM⟩)
 | .own s o n,v=>∃q c,ρ s=aD (q,c)/\((q=aM/\v= .slice aM 0 0/\n=0/\o=0)\/∃b o' c',q=aD b/\v= .slice (aD ⟨b,o',aM⟩) n c'/\n<=c'/\(n≠0->o'=o)/\(o=0->o'=0/\c'=c))
 | .agg l,v=>∃vs:List Value,v= .agg vs.toArray/\bY ρ C l vs/\i9 vs
 | .tup l,v=>∃vs:List Value,v= .tuple vs.toArray/\bY ρ C l vs
 | .fn f l1 l2,v=>∃vs1 vs2:List Value,v= .func f vs1.toArray vs2.toArray/\bY ρ C l1 vs1/\bY ρ C l2 vs2
 | .mp s,v=>∃c,ρ s=aD (aM,c)/\v= .map (aD c)
def bY(ρ:Ren)(C:bf):List AV->List Value->Prop
 |[],vs=>vs=[]
 |x::l,vs=>∃v r,vs=v::r/\ai ρ C x v/\bY ρ C l r
end
section
variable {C C':bf} {ρ ρ':Ren}
mutual
theorem ai.mono(hr:∀s q,ρ s=aD q->ρ' s=aD q)(h:∀b o v,C b o v->C' b o v):∀(x:AV) (v:Value),ai ρ C x v->ai ρ' C' x v
 | .any,v,hx=>by trivial
 | .undef,v,hx=>by exact hx
 | .nil,v,hx=>by exact hx
 | .p x,v,hx=>by exact bE.mono h x v hx
 | .ptr ..,v,hx=>by unfold ai at*;grind
 | .own ..,v,hx=>by unfold ai at*;grind
 | .agg l,v,hx=>by obtain⟨vs,h1,h2,h3⟩:=hx;exact⟨vs,h1,bY.mono hr h l vs h2,h3⟩
 | .tup l,v,hx=>by obtain⟨vs,h1,h2⟩:=hx;exact⟨vs,h1,bY.mono hr h l vs h2⟩
 | .fn f l1 l2,v,hx=>by obtain⟨a,b,h1,h2,h3⟩:=hx;exact⟨a,b,h1,bY.mono hr h l1 a h2,bY.mono hr h l2 b h3⟩
 | .mp s,v,hx=>by unfold ai at*;grind
theorem bY.mono(hr:∀s q,ρ s=aD q->ρ' s=aD q)(h:∀b o v,C b o v->C' b o v):∀(l:List AV) (vs:List Value),bY ρ C l vs->bY ρ' C' l vs
 |[],vs,hx=>by exact hx
 |x::l,vs,hx=>by obtain⟨v,r,h1,h2,h3⟩:=hx;exact⟨v,r,h1,ai.mono hr h x v h2,bY.mono hr h l r h3⟩
end
def bY.length:∀(l:List AV) (vs:List Value),bY ρ C l vs->aA vs=aA l
 |[],vs,h=>by subst h;rfl
 |x::l,vs,h=>by obtain⟨v,r,rfl,_,h3⟩:=h;simp[bY.length l r h3]
def bY.get:∀(l:List AV) (vs:List Value),bY ρ C l vs->∀(i:Nat) x,l[i]? =aD x->∃v,vs[i]? =aD v/\ai ρ C x v
 |[],vs,h,i,x,hi=>by simp at hi
 |y::l,vs,h,0,x,hi=>by unfold bY at h;grind
 |y::l,vs,h,i+1,x,hi=>by
  obtain⟨v,r,rfl,h2,h3⟩:=h;exact bY.get l r h3 i x aH
def bY.of:∀(l:List AV) (vs:List Value),aA vs=aA l->(∀(i:Nat) x,l[i]? =aD x->∃v,vs[i]? =aD v/\ai ρ C x v)->bY ρ C l vs
 |[],vs,hl,h=>by unfold bY;grind
 |y::l,[],hl,h=>by simp at hl
 |y::l,v::r,hl,h=>by
  obtain⟨v',h1,h2⟩:=h 0 y rfl;simp at h1;subst h1;exact⟨v,r,rfl,h2,bY.of l r aH (λi x hi=>h (i+1) x aH)⟩
end
structure Ob where
 ty:TypeId
 esz:Nat
 cells:List AV
deriving Inhabited
def bV(C0:bf)(B:Nat)(w:World)(ρ:Ren)(g:Nat->Option Ob):bf:=λb o v=>w.cell? ⟨b,o,aM⟩=aD v/\(∀s c,ρ s=aD (aD b,c)->g s=aM)/\(B<=b\/C0 b o v)
structure ObRep(ρ:Ren)(C:bf)(w:World)(b c:Nat)(ob:Ob)(arr:Array Value):Prop where
 blk:w.heap[b]? =aD (.cells arr ob.ty (0,0))
 box:ob.esz=0->arr.size=aA ob.cells
 row:ob.esz≠0->arr.size=c*ob.esz/\(aA ob.cells)<=arr.size/\c<=maxLen
 cells:∀(i:Nat) x,ob.cells[i]? =aD x->∃v,arr[i]? =aD v/\v.oneCell'=aE/\ai ρ C x v
def Aj(C0:bf)(B:Nat)(ρ:Ren)(C:bf)(w:World)(c:Nat)(o:Ob):Prop:=
 (o.ty=0/\(∀(i:Nat) x,o.cells[i]? =aD x->∀v,C0 B i v->ai ρ C x v)/\∀i v,C0 B i v->i<aA o.cells)\/
 (o.ty=1/\B<=c/\∃es clock,w.heap[c]? =aD (.map es clock)/\bY ρ C o.cells (es.toList.flatMap λe=>[e.key,e.val]))
def ut(o:Ob)(c:Nat)(o':Ob)(c':Nat):Prop:=(o.ty=1/\o'.ty=1/\c=c')\/(o.ty=0/\o'.ty=0)
def ut.symm{o:Ob}{c:Nat}{o':Ob}{c':Nat}(h:ut o c o' c'):ut o' c' o c:=by
 rcases h with⟨h1,h2,h3⟩|⟨h1,h2⟩
 .exact .inl aH
 .exact .inr ⟨h2,h1⟩
structure StR(C0:bf)(ρ:Ren)(g:Nat->Option Ob)(w:World)(B:Nat):Prop where
 ob:∀s o,g s=aD o->∃q c,ρ s=aD (q,c)/\((q=aM/\((o.esz≠0/\o.cells=[]/\c=0)\/(o.esz=0/\Aj C0 B ρ (bV C0 B w ρ g) w c o)))\/∃b arr,q=aD b/\B<=b/\ObRep ρ (bV C0 B w ρ g) w b c o arr)
 inj:∀s s' o o' b c c',g s=aD o->g s'=aD o'->ρ s=aD (aD b,c)->ρ s'=aD (aD b,c')->s=s'
 mpi:∀s s' o o' c c',g s=aD o->g s'=aD o'->o.esz=0->o'.esz=0->ρ s=aD (aM,c)->ρ s'=aD (aM,c')->ut o c o' c'->s=s'
def ObRep.lt{ρ:Ren}{C:bf}{w:World}{b c:Nat}{ob:Ob}{arr:Array Value}(h:ObRep ρ C w b c ob arr):b<w.heap.size:=by
 rcases pV b w.heap.size with hlt|hge
 .exact hlt
 .have:=h.blk;grind
def ObRep.cell{ρ:Ren}{C:bf}{w:World}{b c:Nat}{ob:Ob}{arr:Array Value}(h:ObRep ρ C w b c ob arr)(i:Nat):w.cell? ⟨b,i,aM⟩=arr[i]? :=cell_of_row w b i arr ob.ty (0,0) h.blk
def StR.at{C0:bf}{ρ:Ren}{g:Nat->Option Ob}{w:World}{B s b c:Nat}{o:Ob}(h:StR C0 ρ g w B)(hg:g s=aD o)(hr:ρ s=aD (aD b,c)):B<=b/\∃arr,ObRep ρ (bV C0 B w ρ g) w b c o arr:=by obtain⟨q,c',h1,h2⟩:=h.ob s o hg;grind
structure GrD where
 n:Nat
 os:Array Obj
instance:Nonempty GrD:=⟨⟨0, #[]⟩⟩
def grD(w:World)(n:Nat)(os:Array Obj):World:={w with heap:=w.heap++os,drawn:=n}
def XB{w w':World}(h:Below w.heap.size w w'):∃p:GrD,w'=grD w p.n p.os:=by
 refine⟨⟨w'.drawn,w'.heap.extract w.heap.size w'.heap.size⟩,?_⟩;obtain⟨h1,h2,h3,h4,h5⟩:=h;have hh:w'.heap=w.heap++w'.heap.extract w.heap.size w'.heap.size:=by
  apply Array.ext_getElem?;intro i;by_cases hi:i<w.heap.size
  .grind
  .grind
 unfold grD;cases w';grind
def Below.then_{W w1 w2:World}(h1:Below W.heap.size W w1)(h2:Below w1.heap.size w1 w2):Below W.heap.size W w2:=h1.trans (h2.mono h1.size)
def Blk(w:World)(g:Nat)(t:TypeId)(cs:Array Value):Prop:=w.heap[g]? =aD (.cells cs t (0,0))
section
variable {w w':World} {g:Nat} {t:TypeId} {cs:Array Value}
def Blk.lt(h:Blk w g t cs):g<w.heap.size:=by
 rcases pV g w.heap.size with hlt|hge
 .exact hlt
 .unfold Blk at h;grind
def Blk.cell(h:Blk w g t cs)(i:Nat):w.cell? ⟨g,i,aM⟩=cs[i]? :=cell_of_row w g i cs t (0,0) h
def Blk.frozen(h:Blk w g t cs)(i:Nat):w.frozen? ⟨g,i,aM⟩=aK:=by unfold Blk at h;simp[World.frozen?,h]
def Blk.new(w:World)(t:TypeId)(cs:Array Value):Blk (w.alloc (.cells cs t)) w.heap.size t cs:=heap_alloc_new w _
def Blk.alloc(h:Blk w g t cs)(o:Obj):Blk (w.alloc o) g t cs:=(Below.heap_alloc w o g h.lt).trans h
def Blk.j8(h:Blk w g t cs)(i:Nat)(u:Value):Blk (w.setCell ⟨g,i,aM⟩ u) g t (cs.setIfInBounds i u):=by unfold Blk at h|-;simp[World.setCell,Lb,h]
def Blk.far(h:Blk w g t cs){p:Addr}(hp:g≠p.block)(u:Value):Blk (w.setCell p u) g t cs:=(Below.heap_setCell w p u g hp).trans h
def Blk.below{B:Nat}(h:Blk w g t cs)(hb:Below B w w')(hg:g<B):Blk w' g t cs:=(hb.block g hg).trans h
def Blk.then_(h:Blk w g t cs)(hb:Below w.heap.size w w'):Blk w' g t cs:=h.below hb h.lt
end
section
variable{P:Program}{ops:Array Oper}{Q:Exit->Act->World->Prop}
def ZI
  (hac:∀(i:Nat) (o:Oper),ops[i]? =aD o->∀e∈o.after.toList,kH .any e=aE->e.on<i)
  (Inv:(Nat->Bool)->Act->World->Prop)
  (hstep:∀(i:Nat) (o:Oper) (D:Nat->Bool) (a:Act) (w:World),ops[i]? =aD o->Inv D a w->D i=aK->(∀e∈o.after.toList,kH .any e=aE->D e.on=aE)->
    wpOp P ops Q i (λa' w'=>Inv (λj=>if j=i then aE else D j) a' w') a w)
  (hend:∀(D:Nat->Bool) (a:Act) (w:World),Inv D a w->(∀i,i<ops.size->D i=aE)->Q .normal a w):
  ∀(fuel:Nat) (L:Array Bool) (a:Act) (w:World),L.size=ops.size->L.toList.count aK<=fuel->Inv (λj=>L.getD j aK) a w->wpAny P .any ops Q fuel L a w:=by
 have key:∀(L:Array Bool),L.size=ops.size->FR .any ops L=[]->∀i,i<ops.size->L.getD i aK=aE:=by
  intro L hL hr i;induction i using Nat.strongRecOn with
  |ind i ih=>
   intro hi;rcases WB (L.getD i aK)with h|h
   .exact h
   .have hmem:i∈FR .any ops L:=by
     unfold FR;rw[eY];refine⟨cP.2 hi,?_⟩;have h1:L.getD i aE=aK:=by rw[js,Bj aC]at h|-;exact h
     obtain⟨o,ho⟩:∃o,ops[i]? =aD o:=⟨_,Bj hi⟩;rw[h1,ho];simp only[Bool.not_false,jq,fk,pf];rw[Array.all_eq_true'];intro e he;rcases WB (kH .any e)with hb|hb
     .grind
     .rw[hb];rfl
    grind
 intro fuel;induction fuel with
 |zero=>
  intro L a w hL hc hI;have hall:∀i,i<ops.size->L.getD i aK=aE:=by
   intro i hi;rcases WB (L.getD i aK)with h|h
   .exact h
   .exfalso;have h0:L.toList.count aK=0:=aC;rw[List.count_eq_zero]at h0;rw[js,Bj aC]at h;grind
  refine⟨?_,aH⟩;unfold FR;simp_all
 |succ fuel ih=>
  intro L a w hL hc hI;refine⟨aH,?_⟩;intro i hi;unfold FR at hi;rw[eY]at hi;obtain⟨hi1,hi2⟩:=hi;have hlt:=cP.1 hi1;obtain⟨o,ho⟩:∃o,ops[i]? =aD o:=aH;rw[ho]at hi2;simp only[fk,pf,cD,Bool.not_eq_true']at hi2;obtain⟨hf,hall⟩:=hi2;have hLi:L[i]? =aD aK:=by rw[js,Bj aC]at hf;rw[Bj aC];simpa using hf
  have hD:L.getD i aK=aK:=by rw[js,hLi];rfl
  have hpre:∀e∈o.after.toList,kH .any e=aE->L.getD e.on aK=aE:=by intro e he hb;rw[Array.all_eq_true']at hall;have:=hall e (Array.mem_toList_iff.1 he);rw[hb]at this;simpa using this
  refine wpOp_mono ?_ (hstep i o _ a w ho hI hD hpre);intro a' w' hI';refine ih (L.setIfInBounds i aE) a' w' aH ?_ ?_
  .grind
  .have e:(λj=>(L.setIfInBounds i aE).getD j aK)=(λj=>if j=i then aE else L.getD j aK):=by
    funext j
    rw[js,js,Bk];by_cases h:i=j
    .grind
    .grind
   grind
def Wb{a0:Act}{w0:World}
  (hac:∀(i:Nat) (o:Oper),ops[i]? =aD o->∀e∈o.after.toList,kH .any e=aE->e.on<i)
  (Inv:(Nat->Bool)->Act->World->Prop) (h0:Inv (λ_=>aK) a0 w0.drew)
  (hstep:∀(i:Nat) (o:Oper) (D:Nat->Bool) (a:Act) (w:World),ops[i]? =aD o->Inv D a w->D i=aK->(∀e∈o.after.toList,kH .any e=aE->D e.on=aE)->
    wpOp P ops Q i (λa' w'=>Inv (λj=>if j=i then aE else D j) a' w') a w)
  (hend:∀(D:Nat->Bool) (a:Act) (w:World),Inv D a w->(∀i,i<ops.size->D i=aE)->Q .normal a w):
  wpAny P .any ops Q ops.size (rW ops.size aK) a0 w0.drew:=by
 refine(ZI hac Inv hstep hend _ _ _ _ af ?_ ?_)
 .simp
 .have e:(λj=>(rW ops.size aK).getD j aK)=(λ_=>aK):=by
   funext j
   rw[js,Array.getElem?_replicate];split<;>rfl
  grind
def bj(V:Nat->Value):Operand->Value
 | .tmp t=>V t
 | .const v=>v
 | .global g=> .pointer (aD ⟨g,0,aM⟩)
 | .func f=> .func (.func f) #[] #[]
def cv(P:Program)(o:Oper)(V:Nat->Value)(w:World)(K:Value->World->Prop):Prop:=
 match(execOp (bj V) o).run P w with
 | .ok (.value v) w'=>K v w'
 | .ok .skip w'=>K undef w'
 | .ok (.enter f args) w'=>Calls P f args w' λe w''=>∃v,e= .returned v/\K v w''
 |_=>False
def lM(a0:Act)(dsts:List Nat)(V:Nat->Value):Act:=dsts.foldl (λa s=>a.put (aD s) (V s)) a0
def F4(V:Nat->Value):∀(dsts:List Nat) (a0:Act),(∀s∈dsts,s<a0.tmps.size)->
  (lM a0 dsts V).defers=a0.defers/\(lM a0 dsts V).tmps.size=a0.tmps.size/\∀s,s<a0.tmps.size->(lM a0 dsts V).tmps.getD s undef=if s∈dsts then V s else a0.tmps.getD s undef
 |[],a0,_=>⟨rfl,rfl,λs _=>by simp[lM]⟩
 |d::dsts,a0,h=>by
  have hs:(a0.put (aD d) (V d)).tmps.size=a0.tmps.size:=by simp[tR]
  obtain⟨h1,h2,h3⟩:=F4 V dsts (a0.put (aD d) (V d)) aH;refine⟨h1,h2.trans hs,?_⟩;intro s hlt;have:=h3 s aC;show(lM (a0.put (aD d) (V d)) dsts V).tmps.getD s undef=_;rw[this];by_cases hm:s∈dsts
  .grind
  .by_cases e:s=d
   .subst e;simp[tR,hlt]
   .simp only[tR,js,Bk];grind
def Act.eval_evalV(a:Act):a.eval=bj (λs=>a.tmps.getD s undef):=by
 funext x
 cases x<;>rfl
def gdV(ops:Array Oper)(V:Nat->Value)(j:Nat):Option Bool:=
 match(ops[j]?).bind (·.dst)with
 |some d=>(match V d with| .bool b=>aD b|_=>aM)
 |none=>aM
def MW(ops:Array Oper)(t:Array Value):yielded ops t=gdV ops (λs=>t.getD s undef):=by
 funext j
 unfold yielded gdV;cases h:(ops[j]?).bind (·.dst)with
 |none=>rfl
 |some d=>
  simp only[tU,js];cases ht:t[d]? with
  |none=>rfl
  |some v=>grind
def MK{a0:Act}{w0:World}
  (dsts:List Nat)
  (hok:((bT ops.size).all λi=>((ops[i]?).map λo=>(o.after.toList.all λe=> !kH .any e||decide (e.on<i))&&(match o.dst with|some d=>dsts.contains d|none=>aE)).getD aE)=aE)
  (hds:∀s∈dsts,s<a0.tmps.size)
  (F:(Nat->Bool)->(Nat->Value)->World->Prop) (h0:F (λ_=>aK) (λs=>a0.tmps.getD s undef) w0.drew)
  (hstep:∀(i:Nat) (o:Oper) (D:Nat->Bool) (V:Nat->Value) (w:World),ops[i]? =aD o->F D V w->D i=aK->(∀e∈o.after.toList,kH .any e=aE->D e.on=aE)->
    (∀s,s∉dsts->V s=a0.tmps.getD s undef)->
    if kI o (gdV ops V)=aE then
     cv P o V w (λv w'=>F (λj=>if j=i then aE else D j) (match o.dst with|some d=>λs=>if s=d then v else V s|none=>V) w')
    else F (λj=>if j=i then aE else D j) (match o.dst with|some d=>λs=>if s=d then undef else V s|none=>V) w)
  (hend:∀(D:Nat->Bool) (V:Nat->Value) (w:World),F D V w->(∀i,i<ops.size->D i=aE)->Q .normal (lM a0 dsts V) w):
  wpAny P .any ops Q ops.size (rW ops.size aK) a0 w0.drew:=by
 have hops:∀(i:Nat) (o:Oper),ops[i]? =aD o->(∀e∈o.after.toList,kH .any e=aE->e.on<i)/\(∀d,o.dst=aD d->d∈dsts):=by
  intro i o ho;have hi:i<ops.size:=aH;rw[cC]at hok;have:=hok i (cP.2 hi);rw[ho]at this;simp only[fk,pf,cD]at this;obtain⟨g2,g3⟩:=this;refine⟨?_,?_⟩
  .grind
  .grind
 refine Wb aH (λD a w=>a.defers=a0.defers/\a.tmps.size=a0.tmps.size/\(∀s,s∉dsts->a.tmps.getD s undef=a0.tmps.getD s undef)/\F D (λs=>a.tmps.getD s undef) w) aH ?_ ?_
 .intro i o D a w ho ⟨i1,i2,i3,i4⟩ hD hpre;obtain⟨_,hdst⟩:=hops i o ho;have hrun:=hstep i o D (λs=>a.tmps.getD s undef) w ho i4 hD hpre i3;have hput:∀(v:Value) (w':World),F (λj=>if j=i then aE else D j) (match o.dst with|some d=>λs=>if s=d then v else a.tmps.getD s undef|none=>λs=>a.tmps.getD s undef) w'->
    (a.put o.dst v).defers=a0.defers/\(a.put o.dst v).tmps.size=a0.tmps.size/\(∀s,s∉dsts->(a.put o.dst v).tmps.getD s undef=a0.tmps.getD s undef)/\F (λj=>if j=i then aE else D j) (λs=>(a.put o.dst v).tmps.getD s undef) w':=by
   intro v w' hF;cases hd:o.dst with
   |none=>rw[hd]at hF;exact⟨i1,i2,i3,hF⟩
   |some d=>
    have hdm:=hdst d hd;have hget:∀s,(a.put (aD d) v).tmps.getD s undef=if s=d then v else a.tmps.getD s undef:=by
     intro s;simp only[tR,js,Bk];by_cases e:d=s
     .grind
     .grind
    refine⟨i1,by simpa[tR]using i2,?_,?_⟩
    .intro s hs;rw[hget,if_neg aH];exact i3 s hs
    .have e:(λs=>(a.put (aD d) v).tmps.getD s undef)=(λs=>if s=d then v else a.tmps.getD s undef):=funext hget;grind
  unfold wpOp;rw[ho];simp only[];rw[MW];by_cases hw:kI o (gdV ops λs=>a.tmps.getD s undef)=aE
  .rw[if_pos hw]at hrun|-;refine .inl ?_;unfold Oper.wp;rw[Act.eval_evalV];unfold cv at hrun;cases hr:(execOp (bj λs=>a.tmps.getD s undef) o).run P w with
   |halt x w'=>grind
   |ok n w'=>
    rw[hr]at hrun;cases n<;>simp only[]at hrun<;>first|exact hrun.elim|skip
    .exact hput _ _ hrun
    .exact hput _ _ hrun
    .rename_i f args;refine hrun.mono ?_;rintro e w'' ⟨v,rfl,hK⟩;exact hput _ _ hK
  .rw[if_neg hw]at hrun|-;exact hput _ _ hrun
 .intro D a w ⟨i1,i2,i3,i4⟩ hall;obtain⟨p1,p2,p3⟩:=F4 (λs=>a.tmps.getD s undef) dsts a0 hds;have e:lM a0 dsts (λs=>a.tmps.getD s undef)=a:=by
   obtain⟨t,df⟩:=a;have ht:(lM a0 dsts (λs=>t.getD s undef)).tmps=t:=by
    apply Array.ext
    .rw[p2];exact i2.symm
    .intro s h1 h2;have h3:=p3 s aH;rw[js,Bj h1,pf]at h3;rw[h3];by_cases hm:s∈dsts
     .rw[if_pos hm];simp[js,h2]
     .rw[if_neg hm,<-i3 s hm];simp[js,h2]
   have hdf:(lM a0 dsts (λs=>t.getD s undef)).defers=df:=p1.trans i1.symm;show lM a0 dsts (λs=>t.getD s undef)={tmps:=t,defers:=df};cases hp:lM a0 dsts (λs=>t.getD s undef)with
   |mk t' df'=>
    grind
  grind
def XL{id:Nat}{a0:Act}{w0:World}(hm:P.follows .mixedOrders=aE)
  (dsts:List Nat)
  (hok:((bT ops.size).all λi=>((ops[i]?).map λo=>(o.after.toList.all λe=> !kH .any e||decide (e.on<i))&&(match o.dst with|some d=>dsts.contains d|none=>aE)).getD aE)=aE)
  (hds:∀s∈dsts,s<a0.tmps.size)
  (F:(Nat->Bool)->(Nat->Value)->World->Prop) (h0:F (λ_=>aK) (λs=>a0.tmps.getD s undef) w0.drew)
  (hstep:∀(i:Nat) (o:Oper) (D:Nat->Bool) (V:Nat->Value) (w:World),ops[i]? =aD o->F D V w->D i=aK->(∀e∈o.after.toList,kH .any e=aE->D e.on=aE)->
    (∀s,s∉dsts->V s=a0.tmps.getD s undef)->
    if kI o (gdV ops V)=aE then
     cv P o V w (λv w'=>F (λj=>if j=i then aE else D j) (match o.dst with|some d=>λs=>if s=d then v else V s|none=>V) w')
    else F (λj=>if j=i then aE else D j) (match o.dst with|some d=>λs=>if s=d then undef else V s|none=>V) w)
  (hend:∀(D:Nat->Bool) (V:Nat->Value) (w:World),F D V w->(∀i,i<ops.size->D i=aE)->Q .normal (lM a0 dsts V) w):
  (Code.region id ops aE).wp P Q a0 w0:=
 wp_region_any hm (MK dsts hok hds F h0 hstep hend)
end
section
def bM(g:Nat->Option Ob)(W:List (Nat×Option Ob)):Nat->Option Ob:=λs=>match W.lookup s with|some x=>x|none=>g s
def mR:Value->AV
 | .int k n=> .p (.int k n)
 | .bool b=> .p (.bool b)
 | .string s=> .p (.str s)
 | .slice aM 0 0=> .nil
 |_=> .any
def No{ρ:Ren}{C:bf}(v:Value):ai ρ C (mR v) v:=by unfold mR;split<;>(unfold ai;try unfold bE)<;>first|rfl|trivial
def xE{ρ:Ren}{C:bf}:∀(vs:List Value),bY ρ C (vs.map mR) vs
 |[] =>by rfl
 |v::vs=>by exact⟨v,vs,rfl,No v,xE vs⟩
def bm:List AV->Option (List PV)
 |[] =>aD []
 | .p x::l=>(bm l).map (x:: ·)
 |_::_=>aM
def fg(l:List AV):AV:=match bm l with|some q=> .p (.agg q)|none=> .agg l
def uJ{ρ:Ren}{C:bf}:∀{l:List AV} {q:List PV} {vs:List Value},bm l=aD q->bY ρ C l vs->bk C q vs
 |[],q,vs,h,hr=>by simp[bm]at h;subst h;exact hr
 |x::l,q,vs,h,hr=>by
  unfold bm at h;split at h
  .grind
  .rename_i y l' e;cases e;simp only[oW]at h;obtain⟨r,h1,rfl⟩:=h;obtain⟨v,vs',rfl,h2,h3⟩:=hr;exact⟨v,vs',rfl,h2,uJ h1 h3⟩
  .cases h
def Cs{ρ:Ren}{C:bf}{l:List AV}{vs:List Value}(h:bY ρ C l vs)(h1:i9 vs):ai ρ C (fg l) (.agg vs.toArray):=by
 unfold fg;split
 .rename_i q hq;exact⟨vs,rfl,uJ hq h,h1⟩
 .unfold ai;grind
def bk.toA{ρ:Ren}{C:bf}:∀{l:List PV} {vs:List Value},bk C l vs->bY ρ C (l.map .p) vs
 |[],vs,h=>by exact h
 |x::l,vs,h=>by
  obtain⟨v,r,rfl,h2,h3⟩:=h;exact⟨v,r,rfl,by exact h2,bk.toA h3⟩
def vh:Value->AV
 | .agg cs=>if cs.toList.all (·.oneCell')=aE then fg (cs.toList.map mR)else .any
 | .tuple vs=>if vs.toList=[]then .undef else .any
 |v=>mR v
def XY{ρ:Ren}{C:bf}(v:Value):ai ρ C (vh v) v:=by
 unfold vh;split
 .split
  .rename_i cs h;have:=Cs (xE (ρ:=ρ) (C:=C) cs.toList) (λu hu=>aH);omega
  .trivial
 .split
  .unfold ai Go.undef;simp_all
  .trivial
 .exact No v
def l9(F:List AV):Operand->AV
 | .tmp t=>F.getD t .any
 | .const v=>vh v
 | .func f=> .p (.fn (.func f) [] [])
 | .global _=> .any
def bH(P:Program)(t:TypeId):Nat:=((P.info? t).map (·.size)).getD 0
def jo(P:Program)(t:TypeId):Bool:=match P.underlying t with|some (.struct _)|some (.array _ _)=>aE|_=>aK
def tok(P:Program)(t:TypeId):Bool:=(P.info? t).isSome&&(P.underlying t).isSome
def sX(P:Program)(t:TypeId):Option (List AV):=(P.info? t).bind λi=>i.zero.map λz=>z.cells.toList.map mR
def sW(P:Program)(t:TypeId):Bool:=((P.info? t).bind λi=>i.zero.map λz=>z.cells.toList.all (·.oneCell')&&z.cells.size==i.size).getD aK
def eC(P:Program)(t:TypeId):Option TypeId:=match P.underlying t with|some (.slice e)=>aD e|_=>aM
def uk(P:Program)(t:TypeId):Option (Nat×TypeId):=match P.underlying t with|some (.array n e)=>aD (n,e)|_=>aM
def Kj(P:Program)(t:TypeId):Option IntKind:=match P.underlying t with|some (.int k)=>aD k|_=>aM
def wN(P:Program)(t:TypeId)(f:Nat):Option (Nat×TypeId):=match P.underlying t with
 |some (.struct fs)=>(fs[f]?).bind λx=>if bH P x.type=0 then aM else aD (x.offset,x.type)
 |_=>aM
def BW:Nat->Nat->Nat
 |0,_=>0
 |f+1,s=>if s % 2=0 then BW f (s/2)+1 else 0
def cls(s:Nat):Nat:=BW s s
def sit(n i:Nat):Nat:=2^n*(2*i+1)
def Qb(i:Nat):∀(n f:Nat),n<f->BW f (sit n i)=n
 |0,f+1,_=>by unfold BW sit;grind
 |n+1,f+1,h=>by
  have e:sit (n+1) i=2*sit n i:=by unfold sit;rw[Nat.pow_succ,Nat.mul_comm (2^n) 2,Nat.mul_assoc]
  unfold BW;rw[e,if_pos aC,Nat.mul_div_cancel_left _ bg,Qb i n f aC]
def jV(n i:Nat):cls (sit n i)=n:=Qb i n _ (by unfold sit;have h1:n<2^n:=Nat.lt_two_pow_self;grind)
abbrev Res:=AV->List Nat->List (Nat×Option Ob)->Prop
def bq(P:Program)(o:Oper)(E:Operand->AV)(σ:Nat->Option Ob)(n:Nat)(r:AV)(R:List Nat)(W:List (Nat×Option Ob)):Prop:=
 ∀(C0:bf) (ρ:Ren) (g:Nat->Option Ob) (V:Nat->Value) (w:World) (B:Nat),StR C0 ρ g w B->B<=w.heap.size->(∀s∈R,g s=σ s)->(∀s,cls s=n->ρ s=aM)->(∀s,cls s=n->g s=aM)->
  (∀x∈o.op.operands.toList,ai ρ (bV C0 B w ρ g) (E x) (bj V x))->
  cv P o V w λv w'=>∃ρ':Ren,(∀s,cls s≠n->ρ' s=ρ s)/\(∀b o' x,bV C0 B w ρ g b o' x->bV C0 B w' ρ' (bM g W) b o' x)/\
   StR C0 ρ' (bM g W) w' B/\ai ρ' (bV C0 B w' ρ' (bM g W)) r v/\Below B w w'
variable{P:Program}{E:Operand->AV}{σ:Nat->Option Ob}
def bq.pure{o:Oper}{n:Nat}{r:AV}{R:List Nat}
  (h:∀(C0:bf) (ρ:Ren) (g:Nat->Option Ob) (V:Nat->Value) (w:World) (B:Nat),StR C0 ρ g w B->(∀s∈R,g s=σ s)->(∀x∈o.op.operands.toList,ai ρ (bV C0 B w ρ g) (E x) (bj V x))->
    cv P o V w λv w'=>w'=w/\ai ρ (bV C0 B w ρ g) r v):bq P o E σ n r R [] :=by
 intro C0 ρ g V w B hs hB hR hn hg hE;have:=h C0 ρ g V w B hs hR hE;have hmono':∀(K K':Value->World->Prop),(∀v w,K v w->K' v w)->cv P o V w K->cv P o V w K':=by
  intro K K' hk h;unfold cv at h|-;split at h
  .grind
  .grind
  .exact h.mono aH
  .exact h.elim
 refine hmono' _ _ ?_ this;rintro v w' ⟨rfl,hr⟩;exact⟨ρ,λ_ _=>rfl,λ_ _ _ h=>h,hs,hr,Below.refl _ _⟩
def KV(P:Program)(t:TypeId)(cs:List PV)(off:Nat)(K:PV->Prop):Prop:=
 tok P t=aE/\if jo P t=aE then∃l,(cs.drop off).take (bH P t)=l/\(aA l)=bH P t/\K (.agg l)else∃x,cs[off]? =aD x/\K x
def ud(P:Program)(t:TypeId)(cs:List AV)(off:Nat)(K:AV->Prop):Prop:=
 tok P t=aE/\if jo P t=aE then∃l,(cs.drop off).take (bH P t)=l/\(aA l)=bH P t/\K (fg l)else∃x,cs[off]? =aD x/\K x
def L7(w:World)(b o:Nat)(t:TypeId)(ht:tok P t=aE)(vs:List Value)(v:Value)
  (h:if jo P t=aE then (aA vs)=bH P t/\w.rangeAt b o vs/\v= .agg vs.toArray else w.cell? ⟨b,o,aM⟩=aD v):
  (FT t (.pointer (aD ⟨b,o,aM⟩))).run P w= .ok v w:=by
 unfold tok at ht;simp only[cD,rX]at ht;obtain⟨⟨i,hi⟩,d,hd⟩:=ht;cases hg:jo P t with
 |true=>
  rw[hg,if_pos rfl]at h;obtain⟨h1,h2,rfl⟩:=h;refine run_loadAt_mid w b o t vs d h2 hd ?_ ?_
  .unfold jo at hg;grind
  .rw[h1];unfold bH;rw[hi];rfl
 |false=>
  rw[hg]at h;simp only[mf,if_false]at h;have:(isAgg t).run P w= .ok aK w:=by unfold isAgg;rw[dY,run_underlying hd w];unfold jo at hg;rw[hd]at hg;cases d<;>simp_all
  simp[FT,FU,loadVar,this,h,load,Sem.run]
def aAf{o:Oper}{n:Nat}{t:TypeId}{x:Operand}(ho:o.op= .load t x){cs:List PV}{off:Nat}(hx:E x= .p (.pro cs off)){K:PV->Prop}
  (h:KV P t cs off K):∃r,bq P o E σ n (.p r) [] []/\K r:=by
 obtain⟨ht,h⟩:=h;have key:∀(r:PV),(∀(C:bf) (w:World) (b oo:Nat),(∀b o v,C b o v->w.cell? ⟨b,o,aM⟩=aD v)->dp C cs b oo->∃v vs,(if jo P t=aE then (aA vs)=bH P t/\w.rangeAt b (oo+off) vs/\v= .agg vs.toArray else w.cell? ⟨b,oo+off,aM⟩=aD v)/\bE C r v)->
   bq P o E σ n (.p r) [] [] :=by
  intro r hr;refine bq.pure ?_;intro C0 ρ g V w B hs _ hE;have h1:=hE x (by rw[ho];simp[dM]);rw[hx]at h1;unfold ai bE at h1;obtain⟨b,oo,he,hc⟩:=h1;obtain⟨v,vs,h2,h3⟩:=hr _ w b oo (λb o v hh=>hh.1) hc;have:=L7 (P:=P) w b (oo+off) t ht vs v h2;unfold cv execOp;simp only[ho,he,dY,this,dr,fD];exact⟨trivial,by exact h3⟩
 split at h
 .rename_i hg;obtain⟨l,hl,hlen,hK⟩:=h;refine⟨_,key _ ?_,hK⟩;intro C w b oo hC hc;have hc2:=(hc.drop off).take (bH P t);rw[hl]at hc2;have:∀m,∀l':List PV,aA l'=m->∀o',dp C l' b o'->∃vs:List Value,aA vs=m/\w.rangeAt b o' vs/\bk C l' vs/\i9 vs:=by
   intro m;induction m with
   |zero=>intro l' h0 o' _;refine⟨[],rfl,(λj v hj=>by simp at hj),?_⟩;rw[pg.1 h0];exact⟨by rfl,λu hu=>by cases hu⟩
   |succ m ih=>
    intro l' h1 o' h2;cases l' with
    |nil=>simp at h1
    |cons y l'=>
     obtain⟨⟨v,h3,h6,h4⟩,h5⟩:=h2;obtain⟨vs,g1,g2,g3,g4⟩:=ih l' aH (o'+1) h5;refine⟨v::vs,by simp[g1],?_,?_,λu hu=>by rcases bO.1 hu with rfl|hu;exact h6;exact g4 u hu⟩
     .intro j u hj;cases j with
      |zero=>grind
      |succ j=>have:=g2 j u aH;grind
     .unfold bk;grind
  obtain⟨vs,g1,g2,g3,g4⟩:=this _ l rfl _ hc2;refine⟨_,vs,?_,by exact⟨vs,rfl,g3,g4⟩⟩;grind
 .obtain⟨y,hy,hK⟩:=h;refine⟨y,key _ ?_,hK⟩;intro C w b oo hC hc;obtain⟨v,h1,_,h2⟩:=dp.get cs b oo hc off y hy;refine⟨v,[],?_,h2⟩;grind
def OY{t:TypeId}{ob:Ob}{off:Nat}{K:AV->Prop}(h:ud P t ob.cells off K):∃r,K r/\∀(ρ:Ren) (C:bf) (w:World) (b c:Nat) (arr:Array Value),ObRep ρ C w b c ob arr->
  ∃v,(FT t (.pointer (aD ⟨b,off,aM⟩))).run P w= .ok v w/\ai ρ C r v:=by
 obtain⟨ht,h⟩:=h;have key:∀(r:AV),(∀(ρ:Ren) (C:bf) (w:World) (b c:Nat) (arr:Array Value),ObRep ρ C w b c ob arr->∃v vs,(if jo P t=aE then (aA vs)=bH P t/\w.rangeAt b off vs/\v= .agg vs.toArray else w.cell? ⟨b,off,aM⟩=aD v)/\ai ρ C r v)->
   ∀(ρ:Ren) (C:bf) (w:World) (b c:Nat) (arr:Array Value),ObRep ρ C w b c ob arr->∃v,(FT t (.pointer (aD ⟨b,off,aM⟩))).run P w= .ok v w/\ai ρ C r v:=by
  intro r hr ρ C w b c arr h3;obtain⟨v,vs,h4,h5⟩:=hr _ _ w b c arr h3;exact⟨v,L7 (P:=P) w b off t ht vs v h4,h5⟩
 split at h
 .rename_i hg;obtain⟨l,hl,hlen,hK⟩:=h;refine⟨_,hK,key _ ?_⟩;intro ρ C w b c arr hc;have:∀m,∀l':List AV,aA l'=m->∀o',(∀(i:Nat) x,l'[i]? =aD x->∃v,arr[o'+i]? =aD v/\v.oneCell'=aE/\ai ρ C x v)->∃vs:List Value,aA vs=m/\w.rangeAt b o' vs/\bY ρ C l' vs/\i9 vs:=by
   intro m;induction m with
   |zero=>intro l' h0 o' _;refine⟨[],rfl,(λj v hj=>by simp at hj),?_⟩;rw[pg.1 h0];exact⟨by rfl,λu hu=>by cases hu⟩
   |succ m ih=>
    intro l' h1 o' h2;cases l' with
    |nil=>simp at h1
    |cons y l'=>
     obtain⟨v,h3,h6,h4⟩:=h2 0 y rfl;obtain⟨vs,g1,g2,g3,g4⟩:=ih l' aH (o'+1) (λi x hi=>by have:=h2 (i+1) x aH;grind)
     refine⟨v::vs,by simp[g1],?_,?_,λu hu=>by rcases bO.1 hu with rfl|hu;exact h6;exact g4 u hu⟩
     .intro j u hj;cases j with
      |zero=>simp at hj;subst hj;rw[hc.cell];exact h3
      |succ j=>have:=g2 j u aH;grind
     .unfold bY;grind
  obtain⟨vs,g1,g2,g3,g4⟩:=this _ l rfl off (λi x hi=>hc.cells _ x (by grind))
  refine⟨_,vs,?_,Cs g3 g4⟩;grind
 .rename_i hg;obtain⟨y,hy,hK⟩:=h;refine⟨y,hK,key _ ?_⟩;intro ρ C w b c arr hc;obtain⟨v,h1,_,h2⟩:=hc.cells off y hy;refine⟨v,[],?_,h2⟩;rw[if_neg hg,hc.cell];exact h1
def aAg{o:Oper}{n:Nat}{t:TypeId}{x:Operand}(ho:o.op= .load t x){s off:Nat}(hx:E x= .ptr s off){ob:Ob}(hob:σ s=aD ob){K:AV->Prop}
  (h:ud P t ob.cells off K):∃r,bq P o E σ n r [s] []/\K r:=by
 obtain⟨r,hK,hr⟩:=OY h;refine⟨r,bq.pure ?_,hK⟩;intro C0 ρ g V w B hs hR hE;have h1:=hE x (by rw[ho];simp[dM]);rw[hx]at h1;obtain⟨b,c,he,hv⟩:=h1;obtain⟨_,arr,h3⟩:=hs.at ((hR s af).trans hob) he;obtain⟨v,h4,h5⟩:=hr _ _ w b c arr h3;unfold cv execOp;simp_all
end
section
variable {P:Program} {o:Oper} {E:Operand->AV} {σ:Nat->Option Ob} {n:Nat}
def bq.val{r:AV}(h:∀(ρ:Ren) (C:bf) (V:Nat->Value) (w:World),(∀x∈o.op.operands.toList,ai ρ C (E x) (bj V x))->
  ∃v,(execOp (bj V) o).run P w= .ok (.value v) w/\ai ρ C r v):bq P o E σ n r [] [] :=by
 refine bq.pure ?_;intro C0 ρ g V w B _ _ hE;obtain⟨v,h1,h2⟩:=h ρ _ V w hE;unfold cv;grind
variable{x:Operand}
def P2(ho:o.op= .move x\/o.op= .assign x):bq P o E σ n (E x) [] [] :=by refine bq.val ?_;intro ρ C V w hE;have h1:=hE x (by rcases ho with ho|ho<;>rw[ho] <;>simp[dM]);refine⟨bj V x,?_,h1⟩;rcases ho with ho|ho<;>(unfold execOp;rw[ho];rfl)
def aAx(ho:o.op= .move x\/o.op= .assign x)(hx:E x= .nil):bq P o E σ n (.p (.sl 0 [])) [] [] :=by
 refine bq.val ?_;intro ρ C V w hE;have h1:=hE x (by rcases ho with ho|ho<;>rw[ho] <;>simp[dM]);rw[hx]at h1;refine⟨bj V x,?_,?_⟩
 .rcases ho with ho|ho<;>(unfold execOp;rw[ho];rfl)
 .rw[h1];unfold ai bE;grind
def yM(c a b:AV)(K:AV->Prop):Prop:=match c with
 | .p (.bool t)=>K (if t=aE then a else b)
 |_=>False
variable{K:AV->Prop}
def aBJ{c a b:Operand}(ho:o.op= .pick c a b)(h:yM (E c) (E a) (E b) K):∃r,bq P o E σ n r [] []/\K r:=by
 unfold yM at h;have key:∀t:Bool,E c= .p (.bool t)->bq P o E σ n (if t=aE then E a else E b) [] [] :=by
  intro t ht;refine bq.val ?_;intro ρ C V w hE;have h1:=hE c (by rw[ho];simp[dM]);have h2:=hE a (by rw[ho];simp[dM]);have h3:=hE b (by rw[ho];simp[dM]);rw[ht]at h1;unfold ai bE at h1;refine⟨if t then bj V a else bj V b,?_,?_⟩
  .unfold execOp;rw[ho];simp[h1,asBool]
  .grind
 grind
def E2(x:AV):Bool:=match x with
 | .ptr .. =>aE
 | .p (.pro ..)=>aE
 | .fn (.func _) .. =>aE
 | .p (.fn (.func _) ..)=>aE
 |_=>aK
def aDF(ho:o.op= .nilCheck x)(h:E2 (E x)=aE):bq P o E σ n (E x) [] [] :=by
 refine bq.val ?_;intro ρ C V w hE;have h1:=hE x (by rw[ho];simp[dM]);refine⟨bj V x,?_,h1⟩;unfold execOp;rw[ho];unfold E2 at h;split at h
 .rename_i e;rw[e]at h1;obtain⟨b,c,_,h1⟩:=h1;simp[h1]
 .rename_i e;rw[e]at h1;obtain⟨b,c,h1,_⟩:=h1;simp[h1]
 .rename_i e;rw[e]at h1;obtain⟨b,c,h1,_⟩:=h1;simp[h1]
 .rename_i e;rw[e]at h1;obtain⟨b,c,h1,_⟩:=h1;simp[h1]
 .cases h
def nF(l:List Int):List PV:=l.map (.int .i64)
def BD(P:Program)(t:TypeId)(m:Nat):Prop:=∀(xs ys:List Int) (x y:Operand) (w:World),aA xs=m->aA ys=m->
 (do eqGuard .eql t x y (.agg (xs.map (dN .i64)).toArray) (.agg (ys.map (dN .i64)).toArray);binOp .eql t (.agg (xs.map (dN .i64)).toArray) (.agg (ys.map (dN .i64)).toArray):Sem Value).run P w= .ok (.bool (xs==ys)) w/\
 (do eqGuard .neq t x y (.agg (xs.map (dN .i64)).toArray) (.agg (ys.map (dN .i64)).toArray);binOp .neq t (.agg (xs.map (dN .i64)).toArray) (.agg (ys.map (dN .i64)).toArray):Sem Value).run P w= .ok (.bool (xs !=ys)) w
def KA(P:Program)(t:TypeId):Bool:=match P.underlying t with|some .bool=>aE|_=>aK
def qy:List PV->Option (List Int)
 |[] =>aD []
 | .int .i64 k::l=>(qy l).map (k:: ·)
 |_=>aM
def Gc{C:bf}:∀{l:List PV} {xs:List Int} {vs:List Value},qy l=aD xs->bk C l vs->vs=xs.map (dN .i64)
 |[],xs,vs,h,hr=>by simp[qy]at h;subst h;subst hr;rfl
 |x::l,xs,vs,h,hr=>by
  unfold qy at h;split at h
  .grind
  .rename_i k l' e;cases e;simp only[oW]at h;obtain⟨r,h1,rfl⟩:=h;obtain⟨v,vs',rfl,h2,h3⟩:=hr;rw[h2,Gc h1 h3];rfl
  .cases h
def L8{t:TypeId}(hu:P.underlying t=aD .bool)(a b:Bool)(w:World):(Op.equal t (.bool a) (.bool b)).run P w= .ok (a==b) w:=by unfold Op.equal;rw[show Op.maxDepth=9999+1 from rfl];unfold wn;simp[run_underlying hu]
def yG(op:BinOp)(k:IntKind)(a b:Int)(K:AV->Prop):Prop:=match op with
 | .add=>K (.p (.int k (k.wrap (a+b))))
 | .sub=>K (.p (.int k (k.wrap (a-b))))
 | .mul=>K (.p (.int k (k.wrap (a*b))))
 | .quo=>b≠0/\K (.p (.int k (k.wrap (a.tdiv b))))
 | .rem=>b≠0/\K (.p (.int k (a.tmod b)))
 | .eql=>K (.p (.bool (a==b)))
 | .neq=>K (.p (.bool (a !=b)))
 | .lss=>K (.p (.bool (decide (a<b))))
 | .leq=>K (.p (.bool (decide (a<=b))))
 | .gtr=>K (.p (.bool (decide (b<a))))
 | .geq=>K (.p (.bool (decide (b<=a))))
 |_=>False
def yl(P:Program)(op:BinOp)(t:TypeId)(x y:AV)(K:AV->Prop):Prop:=match x,y with
 | .p (.int k a),.p (.int k' b)=>k'=k/\yG op k a b K
 | .p (.bool a),.p (.bool b)=>KA P t=aE/\(match op with| .eql=>K (.p (.bool (a==b)))| .neq=>K (.p (.bool (a !=b)))|_=>False)
 | .p (.agg l),.p (.agg m)=>∃xs ys,qy l=aD xs/\qy m=aD ys/\(aA xs)=(aA ys)/\BD P t (aA xs)/\(match op with| .eql=>K (.p (.bool (xs==ys)))| .neq=>K (.p (.bool (xs !=ys)))|_=>False)
 | .p (.sl _ cs),.nil=>(eC P t).isSome=aE/\cs≠[]/\op= .eql/\K (.p (.bool aK))
 |_,_=>False
def aEn{op:BinOp}{t t':TypeId}{y:Operand}(ho:o.op= .binOp op t x y t')(h:yl P op t (E x) (E y) K):∃r,bq P o E σ n r [] []/\K r:=by
 have hx:x∈o.op.operands.toList:=by rw[ho];simp[dM]
 have hy:y∈o.op.operands.toList:=by rw[ho];simp[dM]
 unfold yl at h;split at h
 .rename_i k a k' b ea eb;obtain⟨rfl,h⟩:=h;have key:∀r:AV,(∀ρ C,∃v,(∀w:World,(do eqGuard op t x y (.int k' a) (.int k' b);binOp op t (.int k' a) (.int k' b):Sem Value).run P w= .ok v w)/\ai ρ C r v)->bq P o E σ n r [] [] :=by intro r hr;refine bq.val ?_;intro ρ C V w hE;have h1:=hE x hx;have h2:=hE y hy;rw[ea]at h1;rw[eb]at h2;unfold ai bE at h1 h2;obtain⟨v,h3,h4⟩:=hr ρ C;refine⟨v,?_,h4⟩;unfold execOp;rw[ho];simp only[h1,h2,dY (x:=(do eqGuard op t x y (.int k' a) (.int k' b);binOp op t (.int k' a) (.int k' b):Sem Value)),h3,dr,fD]
  unfold yG at h;split at h
  .exact⟨_,key _ λρ C=>⟨.int k' _,λw=>by simp[eqGuard,binOp,Le];rfl,by rfl⟩,h⟩
  .exact⟨_,key _ λρ C=>⟨.int k' _,λw=>by simp[eqGuard,binOp,Le];rfl,by rfl⟩,h⟩
  .exact⟨_,key _ λρ C=>⟨.int k' _,λw=>by simp[eqGuard,binOp,Le];rfl,by rfl⟩,h⟩
  .exact⟨_,key _ λρ C=>⟨.int k' _,λw=>by simp[eqGuard,binOp,Op.intDiv,h.1];rfl,by rfl⟩,h.2⟩
  .exact⟨_,key _ λρ C=>⟨.int k' _,λw=>by simp[eqGuard,binOp,Op.intDiv,h.1];rfl,by rfl⟩,h.2⟩
  .exact⟨_,key _ λρ C=>⟨.bool _,λw=>by simp[eqGuard,binOp,Bl];rfl,by rfl⟩,h⟩
  .exact⟨_,key _ λρ C=>⟨.bool _,λw=>by simp[eqGuard,binOp,Bl];rfl,by rfl⟩,h⟩
  .exact⟨_,key _ λρ C=>⟨.bool _,λw=>by simp[eqGuard,binOp,Bl];rfl,by rfl⟩,h⟩
  .exact⟨_,key _ λρ C=>⟨.bool _,λw=>by simp[eqGuard,binOp,Bl];rfl,by rfl⟩,h⟩
  .exact⟨_,key _ λρ C=>⟨.bool _,λw=>by simp[eqGuard,binOp,Bl];rfl,by rfl⟩,h⟩
  .exact⟨_,key _ λρ C=>⟨.bool _,λw=>by simp[eqGuard,binOp,Bl];rfl,by rfl⟩,h⟩
  grind
 .rename_i a b ea eb;obtain⟨ht,h⟩:=h;unfold KA at ht;have hu:P.underlying t=aD .bool:=by
   split at ht
   .assumption
   .cases ht
  have key:∀r:AV,(∀ρ C,∃v,(∀w:World,(do eqGuard op t x y (.bool a) (.bool b);binOp op t (.bool a) (.bool b):Sem Value).run P w= .ok v w)/\ai ρ C r v)->bq P o E σ n r [] [] :=by intro r hr;refine bq.val ?_;intro ρ C V w hE;have h1:=hE x hx;have h2:=hE y hy;rw[ea]at h1;rw[eb]at h2;unfold ai bE at h1 h2;obtain⟨v,h3,h4⟩:=hr ρ C;refine⟨v,?_,h4⟩;unfold execOp;rw[ho];simp only[h1,h2,dY (x:=(do eqGuard op t x y (.bool a) (.bool b);binOp op t (.bool a) (.bool b):Sem Value)),h3,dr,fD]
  split at h
  .exact⟨_,key _ λρ C=>⟨.bool _,λw=>by simp only[eqGuard,binOp,L8 hu,dY,dr,fD];rfl,by rfl⟩,h⟩
  .exact⟨_,key _ λρ C=>⟨.bool _,λw=>by simp only[eqGuard,binOp,L8 hu,dY,dr,fD];rfl,by rfl⟩,h⟩
  grind
 .rename_i l m ea eb;obtain⟨xs,ys,hxs,hys,hlen,hEq,h⟩:=h;have key:∀r:AV,(∀ρ C,∃v,(∀w:World,(do eqGuard op t x y (.agg (xs.map (dN .i64)).toArray) (.agg (ys.map (dN .i64)).toArray);binOp op t (.agg (xs.map (dN .i64)).toArray) (.agg (ys.map (dN .i64)).toArray):Sem Value).run P w= .ok v w)/\ai ρ C r v)->bq P o E σ n r [] [] :=by intro r hr;refine bq.val ?_;intro ρ C V w hE;have h1:=hE x hx;have h2:=hE y hy;rw[ea]at h1;rw[eb]at h2;unfold ai bE at h1 h2;obtain⟨vs1,h1,r1,_⟩:=h1;obtain⟨vs2,h2,r2,_⟩:=h2;rw[Gc hxs r1]at h1;rw[Gc hys r2]at h2;obtain⟨v,h3,h4⟩:=hr ρ C;refine⟨v,?_,h4⟩;unfold execOp;rw[ho];simp only[h1,h2,dY (x:=(do eqGuard op t x y (.agg (xs.map (dN .i64)).toArray) (.agg (ys.map (dN .i64)).toArray);binOp op t (.agg (xs.map (dN .i64)).toArray) (.agg (ys.map (dN .i64)).toArray):Sem Value)),h3,dr,fD]
  split at h
  .exact⟨_,key _ λρ C=>⟨.bool _,λw=>(hEq xs ys x y w rfl hlen.symm).1,by rfl⟩,h⟩
  .exact⟨_,key _ λρ C=>⟨.bool _,λw=>(hEq xs ys x y w rfl hlen.symm).2,by rfl⟩,h⟩
  grind
 .rename_i m cs ea eb;obtain⟨ht,hcs,rfl,h⟩:=h;obtain⟨e,hu⟩:∃e,P.underlying t=aD (.slice e):=by unfold eC at ht;grind
  refine⟨_,bq.val ?_,h⟩;intro ρ C V w hE;have h1:=hE x hx;have h2:=hE y hy;rw[ea]at h1;rw[eb]at h2;unfold ai at h1 h2;obtain⟨a,c,h1,_,h3,_⟩:=h1;obtain⟨ad,rfl⟩:∃ad,a=aD ad:=by
   cases a with
   |none=>grind
   |some ad=>grind
  refine⟨.bool aK,?_,by rfl⟩;unfold execOp;rw[ho];have h4:∀w:World,(wn (9999+1) t (.slice (aD ad) m c) (.slice aM 0 0)).run P w= .ok aK w:=λw=>by generalize 9999=D;simp only[wn,dY,run_underlying hu,dr,fD]
  have h5:∀w:World,(binOp .eql t (.slice (aD ad) m c) (.slice aM 0 0)).run P w= .ok (.bool aK) w:=λw=>by have:=h4 w;simp only[binOp,Op.equal,Op.maxDepth,dY,this,dr];rfl
  simp only[h1,h2,eqGuard,dY,h5,dr,fD];try rfl
 grind
def unA(op:UnOp)(x:AV)(K:AV->Prop):Prop:=match op,x with
 | .not,.p (.bool b)=>K (.p (.bool !b))
 | .neg,.p (.int k a)=>K (.p (.int k (k.wrap (0-a))))
 |_,_=>False
def aEv{op:UnOp}{t:TypeId}(ho:o.op= .unOp op t x)(h:unA op (E x) K):∃r,bq P o E σ n r [] []/\K r:=by
 have hx:x∈o.op.operands.toList:=by rw[ho];simp[dM]
 unfold unA at h;split at h
 .rename_i b e;refine⟨_,bq.val ?_,h⟩;intro ρ C V w hE;have h1:=hE x hx;rw[e]at h1;unfold ai bE at h1;exact⟨.bool !b,by unfold execOp;rw[ho];simp[h1,Op.unary],by rfl⟩
 .rename_i k a e;refine⟨_,bq.val ?_,h⟩;intro ρ C V w hE;have h1:=hE x hx;rw[e]at h1;unfold ai bE at h1;exact⟨_,by unfold execOp;rw[ho];simp only[h1,Op.unary,Le];rfl,by rfl⟩
 grind
def Eh(P:Program)(src dst:TypeId)(x:AV)(K:AV->Prop):Prop:=match x with
 | .p (.int _ a)=>(P.underlying src).isSome=aE/\∃k,Kj P dst=aD k/\K (.p (.int k (k.wrap a)))
 |_=>False
def aCF{src dst:TypeId}(ho:o.op= .convert src dst x)(h:Eh P src dst (E x) K):∃r,bq P o E σ n r [] []/\K r:=by
 have hx:x∈o.op.operands.toList:=by rw[ho];simp[dM]
 unfold Eh at h;split at h
 .rename_i k0 a e;obtain⟨hs,k,hk,h⟩:=h;obtain⟨d,hs⟩:=rX.1 hs;have hd:P.underlying dst=aD (.int k):=by
   unfold Kj at hk;split at hk
   .grind
   .cases hk
  refine⟨_,bq.val ?_,h⟩;intro ρ C V w hE;have h1:=hE x hx;rw[e]at h1;unfold ai bE at h1;refine⟨_,?_,by rfl⟩;unfold execOp;rw[ho];simp only[h1,convert,dY,run_underlying hs,run_underlying hd,dr,Conv.intToInt,fD]
 grind
def aBZ{f:Fn}{first caps:Array Operand}(ho:o.op= .makeFunc f first caps):bq P o E σ n (.fn f (first.toList.map E) (caps.toList.map E)) [] [] :=by
 refine bq.val ?_;intro ρ C V w hE;refine⟨.func f (first.map (bj V)) (caps.map (bj V)),?_,?_⟩
 .unfold execOp;rw[ho];rfl
 .have key:∀l:List Operand,(∀x∈l,ai ρ C (E x) (bj V x))->bY ρ C (l.map E) (l.map (bj V)):=by
   intro l;induction l with
   |nil=>intro _;rfl
   |cons x l ih=>
    unfold bY;grind
  refine⟨first.toList.map (bj V),caps.toList.map (bj V),?_,key _ λx hx=>hE x ?_,key _ λx hx=>hE x ?_⟩
  .congr 1<;>(apply rY.1;simp)
  .rw[ho];simp only[dM,Array.toList_append,bz];exact .inl hx
  .rw[ho];simp only[dM,Array.toList_append,bz];exact .inr hx
def Jw(P:Program)(t:TypeId)(f:Nat)(x:AV)(K:AV->Prop):Prop:=∃q,wN P t f=aD q/\match x with
 | .ptr s off=>K (.ptr s (off+q.1))
 | .p (.pro cs off)=>K (.p (.pro cs (off+q.1)))
 |_=>False
def QL{t:TypeId}{f:Nat}{q:Nat×TypeId}(h:wN P t f=aD q)(w:World)(b off:Nat):
  (Instr.fieldAt t (.pointer (aD ⟨b,off,aM⟩)) f).run P w= .ok (.pointer (aD ⟨b,off+q.1,aM⟩)) w:=by
 unfold wN at h;split at h
 .rename_i fs hu;simp only[tV]at h;obtain⟨x,hx,h⟩:=h;split at h
  .cases h
  .rename_i hz;cases h;cases hi:P.info? x.type with
   |none=>simp[bH,hi]at hz
   |some i=>
    have hne:i.size≠0:=by simpa[bH,hi]using hz
    simp[Instr.fieldAt,run_underlying hu,hx,FU,fieldPlace,sizeOf,typeInfo,hi,hne,y6]
 .cases h
def aAs{t:TypeId}{f:Nat}(ho:o.op= .fieldAddr t x f)(h:Jw P t f (E x) K):∃r,bq P o E σ n r [] []/\K r:=by
 have hx:x∈o.op.operands.toList:=by rw[ho];simp[dM]
 obtain⟨q,hq,h⟩:=h;split at h
 .rename_i s off e;refine⟨_,bq.val ?_,h⟩;intro ρ C V w hE;have h1:=hE x hx;rw[e]at h1;obtain⟨b,c,h1,h2⟩:=h1;refine⟨.pointer (aD ⟨b,off+q.1,aM⟩),?_,by unfold ai;grind⟩;unfold execOp;rw[ho];simp only[h2,dY,QL hq,dr,fD]
 .rename_i cs off e;refine⟨_,bq.val ?_,h⟩;intro ρ C V w hE;have h1:=hE x hx;rw[e]at h1;obtain⟨b,oo,h1,h2⟩:=h1;refine⟨.pointer (aD ⟨b,oo+off+q.1,aM⟩),?_,by unfold ai bE;grind⟩;unfold execOp;rw[ho];simp only[h1,dY,QL hq,dr,fD]
 grind
def v8(P:Program)(t:TypeId)(l:List AV)(off:Nat)(K:AV->Prop):Prop:=
 tok P t=aE/\if jo P t=aE then∃m,(l.drop off).take (bH P t)=m/\K (fg m)else∃x,l[off]? =aD x/\K x
def Ju(P:Program)(t:TypeId)(f:Nat)(x:AV)(K:AV->Prop):Prop:=∃q,wN P t f=aD q/\match x with
 | .agg l=>v8 P q.2 l q.1 K
 | .p (.agg l)=>v8 P q.2 (l.map .p) q.1 K
 |_=>False
def bY.take{ρ:Ren}{C:bf}{l:List AV}{vs:List Value}(h:bY ρ C l vs)(k:Nat):bY ρ C (l.take k) (vs.take k):=
 bY.of _ _ (by simp[h.length]) λi x hi=>by
  rw[rQ]at hi|-;split at hi
  .rw[if_pos aJ];exact h.get _ _ i x hi
  .cases hi
def bY.drop{ρ:Ren}{C:bf}{l:List AV}{vs:List Value}(h:bY ρ C l vs)(k:Nat):bY ρ C (l.drop k) (vs.drop k):=
 bY.of _ _ (by simp[h.length]) λi x hi=>by rw[yv]at hi|-;exact h.get _ _ _ x hi
def aBO{t:TypeId}{l:List AV}{off:Nat}(h:v8 P t l off K):∃r,K r/\∀(ρ:Ren) (C:bf) (vs:List Value) (w:World),bY ρ C l vs->i9 vs->∃v,(part t vs.toArray off).run P w= .ok v w/\ai ρ C r v:=by
 obtain⟨ht,h⟩:=h;unfold tok at ht;simp only[cD,rX]at ht;obtain⟨⟨i,hi⟩,d,hd⟩:=ht;have hag:∀w:World,(isAgg t).run P w= .ok (jo P t) w:=by intro w;unfold isAgg jo;rw[dY,run_underlying hd w,hd];cases d<;>rfl
 split at h
 .rename_i hg;obtain⟨m,hm,hK⟩:=h;refine⟨_,hK,?_⟩;intro ρ C vs w hr h1s;have h2:=(hr.drop off).take (bH P t);rw[hm]at h2;refine⟨_,?_,Cs h2 λu hu=>h1s u aH⟩;have hsz:bH P t=i.size:=by simp[bH,hi]
  simp only[part,dY,hag,hg,dr,if_true,sizeOf,typeInfo,run_program,hi,fD];grind
 .rename_i hg;obtain⟨x,hx,hK⟩:=h;refine⟨x,hK,?_⟩;intro ρ C vs w hr _;obtain⟨v,h1,h2⟩:=hr.get _ _ off x hx;refine⟨v,?_,h2⟩;have hg':jo P t=aK:=by simpa using hg
  simp[part,hag,hg',h1]
def aAr{t:TypeId}{f:Nat}(ho:o.op= .field t x f)(h:Ju P t f (E x) K):∃r,bq P o E σ n r [] []/\K r:=by
 have hx:x∈o.op.operands.toList:=by rw[ho];simp[dM]
 obtain⟨q,hq,h⟩:=h;have key:∀l,v8 P q.2 l q.1 K->(∀ρ C v,ai ρ C (E x) v->∃vs:List Value,v= .agg vs.toArray/\bY ρ C l vs/\i9 vs)->∃r,bq P o E σ n r [] []/\K r:=by
  intro l hl hv;obtain⟨r,hK,hr⟩:=aBO hl;refine⟨r,bq.val ?_,hK⟩;intro ρ C V w hE;obtain⟨vs,h1,h2,h2s⟩:=hv ρ C _ (hE x hx);obtain⟨v,h3,h4⟩:=hr ρ C vs w h2 h2s;refine⟨v,?_,h4⟩;unfold wN at hq;split at hq
  .rename_i fs hu;simp only[tV]at hq;obtain⟨y,hy,hq⟩:=hq;split at hq
   .cases hq
   .cases hq;unfold execOp;rw[ho];simp[h1,Instr.field,run_underlying hu,hy,asAgg,h3]
  .cases hq
 split at h
 .rename_i l e;refine key l h λρ C v hv=> ?_;rw[e]at hv;exact hv
 .rename_i l e;refine key _ h λρ C v hv=> ?_;rw[e]at hv;obtain⟨vs,h1,h2,h3⟩:=hv;exact⟨vs,h1,h2.toA,h3⟩
 grind
def EH(P:Program)(t:TypeId)(x i:AV)(K:AV->Prop):Prop:=match x,i with
 | .p (.sl n cs),.p (.int _ a)=>∃e,eC P t=aD e/\(P.info? e).isSome=aE/\0<=a/\a<n/\K (.p (.pro cs (a.toNat*bH P e)))
 | .own s o n,.p (.int _ a)=>∃e,eC P t=aD e/\(P.info? e).isSome=aE/\0<=a/\a<n/\K (.ptr s (o+a.toNat*bH P e))
 | .ptr s off,.p (.int _ a)=>∃q,uk P t=aD q/\(P.info? q.2).isSome=aE/\0<=a/\a<q.1/\K (.ptr s (off+a.toNat*bH P q.2))
 | .p (.pro cs off),.p (.int _ a)=>∃q,uk P t=aD q/\(P.info? q.2).isSome=aE/\0<=a/\a<q.1/\K (.p (.pro cs (off+a.toNat*bH P q.2)))
 |_,_=>False
def Og{t e:TypeId}(ht:P.underlying t=aD (.slice e))(he:(P.info? e).isSome=aE){k:IntKind}{a:Int}{n c b off:Nat}(h0:0<=a)(h1:a<n)(w:World):
  (Lf t (.slice (aD ⟨b,off,aM⟩) n c) (.int k a)).run P w= .ok (.pointer (aD ⟨b,off+a.toNat*bH P e,aM⟩)) w:=by
 obtain⟨i,hi⟩:=rX.1 he;simp[Lf,asIntOf,run_underlying ht,h0,h1,sizeOf,typeInfo,hi,bH,y6]
def NZ{t e:TypeId}{m:Nat}(ht:P.underlying t=aD (.array m e))(he:(P.info? e).isSome=aE){k:IntKind}{a:Int}{b off:Nat}(h0:0<=a)(h1:a<m)(w:World):
  (Lf t (.pointer (aD ⟨b,off,aM⟩)) (.int k a)).run P w= .ok (.pointer (aD ⟨b,off+a.toNat*bH P e,aM⟩)) w:=by
 obtain⟨i,hi⟩:=rX.1 he;simp[Lf,FU,asIntOf,run_underlying ht,h0,h1,sizeOf,typeInfo,hi,bH,y6]
def ni{t e:TypeId}(h:eC P t=aD e):P.underlying t=aD (.slice e):=by unfold eC at h;grind
def SW{t:TypeId}{q:Nat×TypeId}(h:uk P t=aD q):P.underlying t=aD (.array q.1 q.2):=by unfold uk at h;grind
def aAm{t:TypeId}{i:Operand}(ho:o.op= .indexAddr t x i)(h:EH P t (E x) (E i) K):∃r,bq P o E σ n r [] []/\K r:=by
 have hx:x∈o.op.operands.toList:=by rw[ho];simp[dM]
 have hi:i∈o.op.operands.toList:=by rw[ho];simp[dM]
 unfold EH at h;split at h
 .rename_i m cs k a ex ei;obtain⟨e,he,he2,h0,h1,hK⟩:=h;refine⟨_,bq.val ?_,hK⟩;intro ρ C V w hE;have g1:=hE x hx;have g2:=hE i hi;rw[ex]at g1;rw[ei]at g2;unfold ai bE at g1 g2;obtain⟨ad,c,g1,g3,g4,g5⟩:=g1;cases ad with
  |none=>grind
  |some ad=>
   obtain⟨b,off,sp⟩:=ad;obtain⟨g5,g6⟩:=g5 _ rfl;have g5:sp=aM:=g5 aC;subst g5;refine⟨.pointer (aD ⟨b,off+a.toNat*bH P e,aM⟩),?_,by unfold ai bE;grind⟩;unfold execOp;rw[ho];simp only[g1,g2,dY,Og (ni he) he2 h0 h1,dr,fD]
 .rename_i s oo m k a ex ei;obtain⟨e,he,he2,h0,h1,hK⟩:=h;refine⟨_,bq.val ?_,hK⟩;intro ρ C V w hE;have g1:=hE x hx;have g2:=hE i hi;rw[ex]at g1;rw[ei]at g2;unfold ai at g1 g2;unfold bE at g2;obtain⟨q,c,g1,g3|⟨b,o',c',rfl,g4,g5,g6,g7⟩⟩:=g1
  .omega
  .have:=g6 aC;refine⟨.pointer (aD ⟨b,o'+a.toNat*bH P e,aM⟩),?_,by unfold ai;grind⟩;unfold execOp;rw[ho];simp only[g4,g2,dY,Og (ni he) he2 h0 h1,dr,fD]
 .rename_i s off k a ex ei;obtain⟨q,he,he2,h0,h1,hK⟩:=h;refine⟨_,bq.val ?_,hK⟩;intro ρ C V w hE;have g1:=hE x hx;have g2:=hE i hi;rw[ex]at g1;rw[ei]at g2;unfold ai at g1 g2;unfold bE at g2;obtain⟨b,c,g1,g3⟩:=g1;refine⟨.pointer (aD ⟨b,off+a.toNat*bH P q.2,aM⟩),?_,by unfold ai;grind⟩;unfold execOp;rw[ho];simp only[g3,g2,dY,NZ (SW he) he2 h0 h1,dr,fD]
 .rename_i cs off k a ex ei;obtain⟨q,he,he2,h0,h1,hK⟩:=h;refine⟨_,bq.val ?_,hK⟩;intro ρ C V w hE;have g1:=hE x hx;have g2:=hE i hi;rw[ex]at g1;rw[ei]at g2;unfold ai bE at g1 g2;obtain⟨b,oo,g1,g3⟩:=g1;refine⟨.pointer (aD ⟨b,oo+off+a.toNat*bH P q.2,aM⟩),?_,by unfold ai bE;grind⟩;unfold execOp;rw[ho];simp only[g1,g2,dY,NZ (SW he) he2 h0 h1,dr,fD]
 grind
def BM(x:AV)(i:Nat)(K:AV->Prop):Prop:=match x with
 | .tup l=>∃y,l[i]? =aD y/\K y
 | .p (.tup l)=>∃y,l[i]? =aD y/\K (.p y)
 |_=>False
def aCu{i:Nat}(ho:o.op= .extract x i)(h:BM (E x) i K):∃r,bq P o E σ n r [] []/\K r:=by
 have hx:x∈o.op.operands.toList:=by rw[ho];simp[dM]
 unfold BM at h;split at h
 .rename_i l e;obtain⟨y,hy,h⟩:=h;refine⟨_,bq.val ?_,h⟩;intro ρ C V w hE;have h1:=hE x hx;rw[e]at h1;obtain⟨vs,h1,h2⟩:=h1;obtain⟨v,h3,h4⟩:=h2.get _ _ i y hy;refine⟨v,?_,h4⟩;unfold execOp;rw[ho];simp[h1,Instr.extract,h3]
 .rename_i l e;obtain⟨y,hy,h⟩:=h;refine⟨_,bq.val ?_,h⟩;intro ρ C V w hE;have h1:=hE x hx;rw[e]at h1;obtain⟨vs,h1,h2⟩:=h1;obtain⟨v,h3,h4⟩:=h2.get _ _ i y hy;refine⟨v,?_,by exact h4⟩;unfold execOp;rw[ho];simp[h1,Instr.extract,h3]
 grind
end
section
def fF(l:List Oper)(j:Nat):Nat:=((l[j]?).bind (·.dst)).getD 1000000
def iP(anc:List (List Nat))(i:Nat):List Nat:=anc.getD i []
def oI(l:List Oper)(V:Nat->Value)(j:Nat):Value:=if fF l j=1000000 then undef else V (fF l j)
def Sr(l:List Oper)(anc:List (List Nat))(i s:Nat):Bool:=(bT (aA l)).all λj=>fF l j !=s||(iP anc j).contains i||j==i
def okF(l:List Oper)(anc:List (List Nat)):Bool:=
 (bT (aA l)).all λi=>
  (((l[i]?).map λo=>(o.after.toList.all λe=> !kH .any e||(decide (e.on<i)&&(iP anc i).contains e.on))&&o.guard.isNone&&o.dst !=aD 1000000).getD aK)&&
  ((iP anc i).all λj=>decide (j<i)&&(((l[i]?).map λo=>o.after.toList.any λe=>kH .any e&&(e.on==j||(iP anc e.on).contains j)).getD aK))&&
  ((bT (aA l)).all λj=>j==i||fF l j !=fF l i||fF l i==1000000)
def DW(S:Nat->Oper->Prop):List Oper->Nat->Prop
 |[],_=>True
 |o::r,k=>S k o/\DW S r (k+1)
def MV{S:Nat->Oper->Prop}:∀(l:List Oper) (k:Nat),DW S l k->∀i o,l[i]? =aD o->S (k+i) o
 |[],_,_,i,o,h=>by simp at h
 |o'::r,k,h,0,o,ho=>by simp at ho;subst ho;exact h.1
 |o'::r,k,h,i+1,o,ho=>by
  have:=MV r (k+1) h.2 i o aH;grind
def im(D:Nat->Bool)(i:Nat):Nat->Bool:=λj=>if j=i then aE else D j
def TU(P:Program)(l:List Oper)(anc:List (List Nat))(a0:Act)(WR:(Nat->Bool)->World->Prop)(fact:Nat->Value->World->Prop)(i:Nat)(o:Oper):Prop:=
 ∀(D:Nat->Bool) (V:Nat->Value) (w:World),D i=aK->(∀j,(iP anc i).contains j=aE->D j=aE/\fact j (oI l V j) w)->(∀j,(iP anc j).contains i=aE->D j=aK)->
  (∀s,Sr l anc i s=aE->V s=a0.tmps.getD s undef)->WR D w->
  cv P o V w λv w'=>fact i (if fF l i=1000000 then undef else v) w'/\WR (im D i) w'/\(w'=w\/Below w.heap.size w w'\/∀j,D j=aE->fact j (oI l V j) w->fact j (oI l V j) w')
variable{w:World}
def opK{P:Program}{o:Oper}{V:Nat->Value}{K:Value->World->Prop}(h:∀K':Value->World->Prop,(∀v w',K v w'->K' v w')->cv P o V w K'):cv P o V w K:=aH
def Rd(w:World)(a:Option Addr)(cs:List Value):Prop:=∀i u,cs[i]? =aD u->∃b off,a=aD ⟨b,off,aM⟩/\b<w.heap.size/\w.cell? ⟨b,off+i,aM⟩=aD u
def Rd.below{w':World}{a:Option Addr}{cs:List Value}(h:Rd w a cs)(hb:Below w.heap.size w w'):Rd w' a cs:=by intro i u hi;obtain⟨b,off,ha,hlt,h1⟩:=h i u hi;exact⟨b,off,ha,Nat.lt_of_lt_of_le hlt hb.size,(hb.cell (p:=⟨b,_,aM⟩) hlt).trans h1⟩
def kn(base:Nat)(a:Option Addr):Prop:=∀b,a=aD b->base<=b.block
variable{n:Nat}
def kn.mono{m:Nat}{a:Option Addr}(h:kn n a)(hm:m<=n):kn m a:=λb hb=>cZ hm (h b hb)
variable{base size:Nat}{v:Value}
def Rd.Jk{e:TypeId}{cs:List Value}(h:w.ownsRow base e size v n cs):∃a c,v= .slice a n c/\Rd w a cs/\kn base a/\(a=aM->c=0):=by
 rcases h.2 with⟨h1,h2⟩|⟨g,cap,cur,h1,h2,h3,h4,h5,h6,h7⟩
 .have:cs=[] :=pg.1 (by rw[h.1,h2];simp);exact⟨aM,0,by rw[h1,h2],by rw[this];intro i u hi;simp at hi,(λb hb=>by cases hb),λ_=>rfl⟩
 .refine⟨aD ⟨g,0,aM⟩,cap,h1,?_,(λb hb=>aH),aH⟩;intro i u hi;refine⟨g,0,rfl,Blk.lt h3,?_⟩;rw[ku,cell_of_row w g i cur e (0,0) h3];grind
variable{xs:List Value}
def w8{w':World}{e:TypeId}(h:w.ownsRow base e size v n xs)(hb:Below w.heap.size w w'):w'.ownsRow base e size v n xs:=by
 refine⟨h.1,?_⟩;rcases h.2 with h1|⟨g,cap,cur,h1,h2,h3,h4⟩
 .exact .inl h1
 .exact .inr ⟨g,cap,cur,h1,h2,Blk.then_ h3 hb,h4⟩
def tX{e:TypeId}(h:w.ownsRow base e size v n xs):∀k,v.ownBlock=aD k->base<=k/\k<w.heap.size:=by
 intro k hk;rcases h.2 with⟨rfl,_⟩|⟨g,cap,cur,rfl,h2,h3,_⟩
 .simp[FV]at hk
 .simp[FV]at hk;grind
def G3{P:Program}{o:Oper}{V:Nat->Value}{K:Value->World->Prop}(s x:Operand)(t:TypeId)
  (ho:o.op= .call {callee:= .builtin .append,args:= #[s,x],argTypes:= #[t,t]})
  (base:Nat) (e:TypeId) (z:Value) (size bytes:Nat) (ht:P.underlying t=aD (.slice e)) (hi:(P.info? e).map (λi=>(i.zero,i.size,i.bytes))=aD (aD z,size,bytes)) (hzs:z.cells.size=size) (hsz:0<size)
  (v:Value) (n:Nat) (xs:List Value) (hs:bj V s=v) (hown:w.ownsRow base e size v n xs)
  (a:Option Addr) (m c:Nat) (cs:List Value) (hx:bj V x= .slice a m c) (hl:aA cs=m*size) (hg:Rd w a cs) (hn:a=aM->c=0) (h1:∀u∈cs,u.oneCell'=aE)
  (h63:n+m<=1000000) (hbytes:bytes<=1000000) (hbase:base<=w.heap.size)
  (h:∀v' w',w'.ownsRow base e size v' (n+m) (xs++cs)->Below base w w'->w.grownBy w' v.ownBlock->(∀k,v'.ownBlock=aD k->v.ownBlock=aD k\/w.heap.size<=k)->K v' w'):cv P o V w K:=by
 obtain⟨i,hi1,hi2⟩:=oW.1 hi;simp only[Prod.mk.injEq]at hi2;obtain⟨i1,i2,i3⟩:=hi2;have hb:∀k,v.ownBlock=aD k->base<=k:=λk hk=>(tX hown k hk).1;by_cases hm:m=0
 .subst hm;have hcs:cs=[] :=aH;subst hcs;by_cases ha:a=aM
  .subst ha;have hc:=hn rfl;subst hc;have hr:=run_append_owned_none (P:=P) (w:=w) base t o.type e i size ht hi1 v n xs hown;unfold cv execOp;simp only[ho,resolve,invoke,builtin,dY,fD,dr,Lg,dU,qV,hs,hx,hr];exact h v w aH (Below.refl _ _) ⟨rfl,rfl,rfl,bR _,λ_ _ _=>rfl⟩ aH
  .obtain⟨a',rfl⟩:=Option.ne_none_iff_exists'.1 ha;obtain⟨v',w',hr,h2,h3,_,h5⟩:=run_append_own_at (P:=P) (w:=w) base t o.type e i z size bytes ht hi1 i1 i2 i3 hzs hsz v n xs hown a' 0 c [] af af af (by simp only[maxLen];omega) (cZ (rZ h63 hbytes) bg) hbase;unfold cv execOp;simp only[ho,resolve,invoke,builtin,dY,fD,dr,Lg,dU,qV,hs,hx,hr];exact h v' w' h2 ((Below.refl base w).grown h3 hbase hb) h3 aH
 .obtain⟨u0,hu0⟩:∃u,cs[0]? =aD u:=by
   have:0<aA cs:=by rw[hl];exact Nat.mul_pos aC hsz
   grind
  obtain⟨b,off,rfl,hbl,_⟩:=hg 0 u0 hu0;have hnews:∀j u,cs[j]? =aD u->w.cell? ((⟨b,off,aM⟩:Addr).add j)=aD u:=by
   intro j u hj;obtain⟨b',off',he,_,hc⟩:=hg j u hj;simp only[iG,Addr.mk.injEq,and_true]at he;obtain⟨rfl,rfl⟩:=he;unfold Addr.add;by_cases hj0:j=0
   .grind
   .grind
  obtain⟨v',w',hr,h2,h3,_,h5⟩:=run_append_own_at (P:=P) (w:=w) base t o.type e i z size bytes ht hi1 i1 i2 i3 hzs hsz v n xs hown ⟨b,off,aM⟩ m c cs hl hnews h1 (by simp only[maxLen];omega) (cZ (rZ h63 hbytes) bg) hbase;unfold cv execOp;simp only[ho,resolve,invoke,builtin,dY,fD,dr,Lg,dU,qV,hs,hx,hr];exact h v' w' h2 ((Below.refl base w).grown h3 hbase hb) h3 aH
def Rd.aEX{g:Nat}{t:TypeId}{cs:Array Value}(h:Blk w g t cs):Rd w (aD ⟨g,0,aM⟩) cs.toList:=by intro i u hi;refine⟨g,0,rfl,h.lt,?_⟩;rw[ku,h.cell i];grind
def WR2(m:Nat)(A B:World->Prop)(D:Nat->Bool)(wx:World):Prop:=if D m=aE then B wx else A wx
section
variable {m i:Nat} {A B:World->Prop} {D:Nat->Bool} {wx:World}
def WR2.start(h:A wx):WR2 m A B (λ_=>aK) wx:=h
def WR2.lo(h:WR2 m A B D wx)(hD:D m=aK):A wx:=by unfold WR2 at h;grind
def WR2.hi(h:WR2 m A B D wx)(hD:D m=aE):B wx:=by unfold WR2 at h;grind
def WR2.mkLo(hD:D m=aK)(hi:m≠i)(h:A wx):WR2 m A B (im D i) wx:=by unfold WR2 im;grind
def WR2.mkHi(h:B wx):WR2 m A B (im D m) wx:=by unfold WR2 im;grind
def WR2.keep(hi:m≠i)(h:WR2 m A B D wx):WR2 m A B (im D i) wx:=by unfold WR2 im at*;grind
end
def WR3(m n:Nat)(A B C:World->Prop)(D:Nat->Bool)(wx:World):Prop:=if D n=aE then C wx else if D m=aE then B wx else A wx
section
variable {m n i:Nat} {A B C:World->Prop} {D:Nat->Bool} {wx:World}
def WR3.start(h:A wx):WR3 m n A B C (λ_=>aK) wx:=h
def WR3.lo(h:WR3 m n A B C D wx)(hD:D m=aK)(hn:D n=aK):A wx:=by unfold WR3 at h;grind
def WR3.mid(h:WR3 m n A B C D wx)(hD:D m=aE)(hn:D n=aK):B wx:=by unfold WR3 at h;grind
def WR3.hi(h:WR3 m n A B C D wx)(hn:D n=aE):C wx:=by unfold WR3 at h;grind
def WR3.mkLo(hD:D m=aK)(hn:D n=aK)(hi:m≠i)(hi2:n≠i)(h:A wx):WR3 m n A B C (im D i) wx:=by unfold WR3 im;grind
def WR3.mkMid(hn:D n=aK)(hmn:n≠m)(h:B wx):WR3 m n A B C (im D m) wx:=by unfold WR3 im;grind
def WR3.mkHi(h:C wx):WR3 m n A B C (im D n) wx:=by unfold WR3 im;grind
def WR3.keep(hi:m≠i)(hi2:n≠i)(h:WR3 m n A B C D wx):WR3 m n A B C (im D i) wx:=by unfold WR3 im at*;grind
end
def zV{w':World}{row:Option Nat}{g:Nat}{t:TypeId}{cs:Array Value}(h:w.grownBy w' row)(hb:Blk w g t cs)(hne:row≠aD g):Blk w' g t cs:=(h.block g hb.lt aH).trans hb
def C8{e:TypeId}(h:w.ownsRow base e size v n xs){g:Nat}(hg:g<base):v.ownBlock≠aD g:=λhx=>by have:=(tX h g hx).1;omega
end
section
variable {P:Program} {o:Oper} {E:Operand->AV} {σ:Nat->Option Ob} {n:Nat}
def E5:AV->Option Int
 | .p (.int _ a)=>aD a
 |_=>aM
def QG{ρ:Ren}{C:bf}{x:AV}{a:Int}{v:Value}(h:E5 x=aD a)(hr:ai ρ C x v):∃k,v= .int k a:=by
 unfold E5 at h;split at h
 .unfold ai bE at hr;grind
 .cases h
def loA(E:Operand->AV)(lo:Option Operand)(d:Int):Option Int:=match lo with|none=>aD d|some x=>E5 (E x)
def x5(P:Program)(t:TypeId)(x:AV)(lo hi:Option Int)(K:AV->Prop):Prop:=∃e l h,eC P t=aD e/\(P.info? e).isSome=aE/\bH P e≠0/\lo=aD l/\hi=aD h/\0<=l/\l<=h/\match x with
 | .p (.sl m cs)=>h<=m/\K (.p (.sl (h.toNat-l.toNat) ((cs.take (h.toNat*bH P e)).drop (l.toNat*bH P e))))
 | .own s oo m=>h<=m/\K (.own s (oo+l.toNat*bH P e) (h.toNat-l.toNat))
 |_=>False
def ED:AV->Int
 | .p (.sl m _)=>m
 | .own _ _ m=>m
 |_=>0
def Gu{t e:TypeId}(ht:P.underlying t=aD (.slice e))(he:(P.info? e).isSome=aE)(a:Option Addr)(m c:Nat)(hmc:m<=c)(lo hi:Option Value)(l h:Int)(h0:0<=l)(h1:l<=h)(h2:h<=m)
  (hlo:(lo=aM/\l=0)\/∃k,lo=aD (.int k l)) (hhi:(hi=aM/\h=m)\/∃k,hi=aD (.int k h)) (w:World):
  (Instr.sliceAt t (.slice a m c) lo hi aM).run P w= .ok (.slice (if c=l.toNat then a else a.map (·.add (l.toNat*bH P e))) (h.toNat-l.toNat) (c-l.toNat)) w:=by
 obtain⟨i,hi'⟩:=rX.1 he;have hsz:bH P e=i.size:=by simp[bH,hi']
 have hb:(FX aE m c lo hi aM).run P w= .ok (l.toNat,h.toNat,c) w:=by
  rcases hlo with⟨rfl,rfl⟩|⟨k,rfl⟩<;>rcases hhi with⟨rfl,rfl⟩|⟨k',rfl⟩
  .simp[FX]
  .simp[FX,Instr.sliceBound,asIntOf,(aC:0<=h),(aC:h<=(c:Int))]
  .simp[FX,Instr.sliceBound,asIntOf,h0,h1]
  .simp[FX,Instr.sliceBound,asIntOf,h0,(aC:0<=h),(aC:h<=(c:Int)),(aC:l<=max h 0)]
 simp only[Instr.sliceAt,dY,run_underlying ht,dr,Instr.slice,hb,sizeOf,typeInfo,run_program,hi',fD,hsz]
variable{x:Operand}{K:AV->Prop}
def ZZ{t:TypeId}{lo hi:Option Operand}(ho:o.op= .slice t x lo hi aM)(h:x5 P t (E x) (loA E lo 0) (loA E hi (ED (E x))) K):∃r,bq P o E σ n r [] []/\K r:=by
 have hx:x∈o.op.operands.toList:=by rw[ho];simp[dM]
 have hl:∀y,lo=aD y->y∈o.op.operands.toList:=by intro y hy;rw[ho];simp[dM,hy]
 have hh:∀y,hi=aD y->y∈o.op.operands.toList:=by intro y hy;rw[ho];simp[dM,hy]
 obtain⟨e,l,hv,he,he2,hez,hlo,hhi,h0,h1,h⟩:=h;have klo:∀(ρ:Ren) (C:bf) (V:Nat->Value),(∀x∈o.op.operands.toList,ai ρ C (E x) (bj V x))->(lo.map (bj V)=aM/\l=0)\/∃k,lo.map (bj V)=aD (.int k l):=by
  intro ρ C V hE;unfold loA at hlo;cases lo with
  |none=>grind
  |some y=>obtain⟨k,hk⟩:=QG hlo (hE y (hl y rfl));grind
 have khi:∀(m:Nat),ED (E x)=m->∀(ρ:Ren) (C:bf) (V:Nat->Value),(∀x∈o.op.operands.toList,ai ρ C (E x) (bj V x))->(hi.map (bj V)=aM/\hv=m)\/∃k,hi.map (bj V)=aD (.int k hv):=by
  intro m hm ρ C V hE;unfold loA at hhi;cases hi with
  |none=>grind
  |some y=>obtain⟨k,hk⟩:=QG hhi (hE y (hh y rfl));grind
 split at h
 .rename_i m cs ex;obtain⟨h2,hK⟩:=h;refine⟨_,bq.val ?_,hK⟩;intro ρ C V w hE;have g1:=hE x hx;rw[ex]at g1;obtain⟨a,c,g1,g2,g3,g4⟩:=g1;have hrun:=Gu (ni he) he2 a m c g2 _ _ l hv h0 h1 h2 (klo ρ C V hE) (khi m (by rw[ex];rfl) ρ C V hE) w;refine⟨.slice (if c=l.toNat then a else a.map (·.add (l.toNat*bH P e))) (hv.toNat-l.toNat) (c-l.toNat),?_,?_⟩
  .unfold execOp;simp_all
  .refine⟨_,_,rfl,aC,?_,?_⟩
   .intro hn;have:a=aM:=by
     split at hn
     .exact hn
     .simp_all
    grind
   .intro ad had;split at had
    .subst had;refine⟨aH,?_⟩;have:((cs.take (hv.toNat*bH P e)).drop (l.toNat*bH P e))=[] :=by apply List.drop_eq_nil_of_le;rw[mK];have:hv.toNat=l.toNat:=aC;rw[this];omega
     rw[this];trivial
    .cases a with
     |none=>simp at had
     |some ad'=>
      simp at had;subst had;obtain⟨g5,g6⟩:=g4 ad' rfl;rcases rO m with hm0|hm0
      .have e0:hv.toNat=0:=aC;rw[e0];simp;trivial
      .have g5:=g5 hm0;obtain⟨b,off,sp⟩:=ad';subst g5;rw[y6];exact⟨λ_=>rfl,(g6.take _).drop _⟩
 .rename_i s oo m ex;obtain⟨h2,hK⟩:=h;refine⟨_,bq.val ?_,hK⟩;intro ρ C V w hE;have g1:=hE x hx;rw[ex]at g1;obtain⟨q,c,g1,⟨rfl,g2,g3,g4⟩|⟨b,o',c',rfl,g2,g3,g4,g5⟩⟩:=g1
  .have hrun:=Gu (ni he) he2 aM m 0 aC _ _ l hv h0 h1 h2 (klo ρ C V hE) (khi m (by rw[ex];rfl) ρ C V hE) w;have e1:l=0:=aC;have e2:hv=0:=aC;refine⟨.slice aM 0 0,?_,?_⟩
   .unfold execOp;simp_all
   grind
  .have hrun:=Gu (ni he) he2 (aD ⟨b,o',aM⟩) m c' g3 _ _ l hv h0 h1 h2 (klo ρ C V hE) (khi m (by rw[ex];rfl) ρ C V hE) w;refine⟨.slice (if c'=l.toNat then aD ⟨b,o',aM⟩else(aD (⟨b,o',aM⟩:Addr)).map (·.add (l.toNat*bH P e))) (hv.toNat-l.toNat) (c'-l.toNat),?_,?_⟩
   .unfold execOp;simp_all
   .refine⟨aD b,c,g1,.inr ⟨b,if c'=l.toNat then o' else o'+l.toNat*bH P e,c'-l.toNat,rfl,?_,aC,?_,?_⟩⟩
    .split<;>simp[y6]
    .grind
    .intro hz;have h3:oo=0:=aC;have h4:l.toNat*bH P e=0:=aC;rcases Lh.1 h4 with h5|h5
     .grind
     omega
 grind
def E4(P:Program)(t:TypeId)(x:AV)(K:AV->Prop):Prop:=match x with
 | .p (.sl m _)=>(eC P t).isSome=aE/\K (.p (.int .i64 m))
 | .own _ _ m=>(eC P t).isSome=aE/\K (.p (.int .i64 m))
 | .nil=>(eC P t).isSome=aE/\K (.p (.int .i64 0))
 | .p (.str s)=>(match P.underlying t with|some .string=>aE|_=>aK)=aE/\K (.p (.int .i64 s.size))
 |_=>False
def aDR{t:TypeId}(ho:o.op= .call {callee:= .builtin .len,args:= #[x],argTypes:= #[t]})(h:E4 P t (E x) K):∃r,bq P o E σ n r [] []/\K r:=by
 have hx:x∈o.op.operands.toList:=by rw[ho];simp[dM,k9]
 have key:∀(m:Nat),(eC P t).isSome=aE->(∀ρ C v,ai ρ C (E x) v->∃a c,v= .slice a m c)->bq P o E σ n (.p (.int .i64 m)) [] [] :=by intro m ht hv;obtain⟨e,he⟩:=rX.1 ht;have hu:=ni he;refine bq.val ?_;intro ρ C V w hE;obtain⟨a,c,h1⟩:=hv ρ C _ (hE x hx);refine⟨.int .i64 m,?_,by rfl⟩;unfold execOp;rw[ho];simp[resolve,invoke,builtin,Builtin.len_,h1,run_underlying hu,goInt]
 unfold E4 at h;split at h
 .rename_i m cs e;refine⟨_,key m h.1 λρ C v hv=> ?_,h.2⟩;unfold ai bE at hv;grind
 .rename_i s oo m e;refine⟨_,key m h.1 λρ C v hv=> ?_,h.2⟩;unfold ai at hv;grind
 .rename_i e;refine⟨_,key 0 h.1 λρ C v hv=> ?_,h.2⟩;unfold ai at hv;grind
 .rename_i s e;obtain⟨ht,hK⟩:=h;refine⟨_,bq.val ?_,hK⟩;intro ρ C V w hE;have h1:=hE x hx;rw[e]at h1;unfold ai bE at h1;have hu:P.underlying t=aD .string:=by
   split at ht
   .assumption
   .cases ht
  refine⟨.int .i64 s.size,?_,by rfl⟩;unfold execOp;rw[ho];simp[resolve,invoke,builtin,Builtin.len_,h1,run_underlying hu,goInt]
 grind
def oH:AV->Option (List AV)
 | .agg l=>aD l
 | .p (.agg l)=>aD (l.map .p)
 | .p (.tup _)=>aM
 | .p .junk=>aM
 | .p x=>aD [.p x]
 | .mp s=>aD [.mp s]
 | .nil=>aD [.nil]
 | .ptr s off=>aD [.ptr s off]
 | .own s o n=>aD [.own s o n]
 | .fn f a b=>aD [.fn f a b]
 |_=>aM
def Gk{ρ:Ren}{C:bf}{x:AV}{l:List AV}{v:Value}(h:oH x=aD l)(hr:ai ρ C x v):bY ρ C l v.cells.toList/\i9 v.cells.toList:=by
 have key:∀(y:AV),l=[y]->ai ρ C y v->v.oneCell'=aE->bY ρ C l v.cells.toList/\i9 v.cells.toList:=by
  intro y hl hy h1;have hc:v.cells.toList=[v] :=by cases v<;>first|rfl|(simp[Value.oneCell']at h1;done)
  rw[hc,hl];refine⟨?_,λu hu=>aH⟩;unfold bY;exact⟨v,[],rfl,hy,by rfl⟩
 unfold oH at h;split at h
 .cases h;obtain⟨vs,rfl,h1,h2⟩:=hr;exact⟨by simpa[Li]using h1,by simpa[Li]using h2⟩
 .cases h;obtain⟨vs,rfl,h1,h2⟩:=hr;exact⟨by simpa[Li]using h1.toA,by simpa[Li]using h2⟩
 .cases h
 .cases h
 .rename_i y hn1 hn2 hn3;cases h;refine key _ rfl hr ?_;unfold ai at hr;cases y<;>unfold bE at hr
  .rw[hr];rfl
  .rw[hr];rfl
  .rw[hr];rfl
  .grind
  .grind
  .obtain⟨a,c,h1,_⟩:=hr;rw[h1];rfl
  .obtain⟨a,c,h1,_⟩:=hr;rw[h1];rfl
  .obtain⟨a,c,h1,_⟩:=hr;rw[h1];rfl
  grind
 .cases h;refine key _ rfl hr ?_;obtain⟨c,_,h2⟩:=hr;rw[h2];rfl
 .cases h;refine key _ rfl hr ?_;rw[hr];rfl
 .cases h;refine key _ rfl hr ?_;obtain⟨b,c,_,h2⟩:=hr;rw[h2];rfl
 .cases h;refine key _ rfl hr ?_;obtain⟨q,c,_,⟨_,h2,_⟩|⟨b,o',c',_,h2,_⟩⟩:=hr<;>(rw[h2];rfl)
 .cases h;refine key _ rfl hr ?_;obtain⟨a,b,h2,_⟩:=hr;rw[h2];rfl
 .cases h
def i5(cs:List AV)(off:Nat):List AV->List AV
 |[] =>cs
 |x::l=>i5 (cs.set off x) (off+1) l
def CE:∀(l:List AV) (cs:List AV) (off:Nat),aA (i5 cs off l)=aA cs
 |[],cs,off=>rfl
 |x::l,cs,off=>by unfold i5;rw[CE l];simp
def qM(place:Nat->Option (Nat×Nat))(cells:List AV):List (Nat×AV)->Option (List AV)
 |[] =>aD cells
 |(i,v)::rest=>match place i,oH v with
  |some (off,size),aD l=>if (aA l)=size/\off+size<=(aA cells) then qM place (i5 cells off l) rest else aM
  |_,_=>aM
def bY.set{ρ:Ren}{C:bf}{l:List AV}{vs:List Value}(h:bY ρ C l vs)(k:Nat){x:AV}{v:Value}(hx:ai ρ C x v):bY ρ C (l.set k x) (vs.set k v):=
 bY.of _ _ (by simp[h.length]) λi y hi=>by
  have hl:=h.length;rw[List.getElem?_set]at hi|-;split at hi
  .grind
  .rename_i e;rw[if_neg e];exact h.get _ _ i y hi
def PS{ρ:Ren}{C:bf}:∀(l:List AV) (vs:List Value) (cs:List AV) (us:List Value) (off:Nat) (j:Nat),bY ρ C l vs->bY ρ C cs us->i9 vs->i9 us->
  bY ρ C (i5 cs (off+j) l) ((vs.zipIdx j).foldl (λ(a:Array Value) (c,j)=>a.setIfInBounds (off+j) c) us.toArray).toList/\i9 ((vs.zipIdx j).foldl (λ(a:Array Value) (c,j)=>a.setIfInBounds (off+j) c) us.toArray).toList
 |[],vs,cs,us,off,j,h1,h2,h3,h4=>by subst h1;simpa[i5]using⟨h2,h4⟩
 |x::l,vs,cs,us,off,j,h1,h2,h3,h4=>by
  obtain⟨v,r,rfl,hv,hr⟩:=h1;have:=PS l r (cs.set (off+j) x) (us.set (off+j) v) off (j+1) hr (h2.set _ hv) (λu hu=>h3 u aH) (λu hu=>by
   rcases List.mem_or_eq_of_mem_set hu with h|h
   .exact h4 u h
   .subst h;exact h3 _ aH)
  simpa[i5,List.zipIdx_cons,Nat.add_assoc]using this
def HX{ρ:Ren}{C:bf}{place:Nat->Option (Nat×Nat)}:∀(parts:List (Nat×AV)) (vparts:List (Nat×Value)) (cs res:List AV) (us:List Value),
  qM place cs parts=aD res->aA vparts=aA parts->(∀(j:Nat) q,parts[j]? =aD q->∃v,vparts[j]? =aD (q.1,v)/\ai ρ C q.2 v)->bY ρ C cs us->i9 us->
  ∃vs:List Value,Instr.fill place us.toArray vparts=aD vs.toArray/\bY ρ C res vs/\i9 vs
 |[],vparts,cs,res,us,h,hl,hp,hc,h1=>by
  simp[qM]at h;subst h;have:vparts=[] :=aH;subst this;exact⟨us,rfl,hc,h1⟩
 |(i,x)::rest,vparts,cs,res,us,h,hl,hp,hc,h1=>by
  obtain⟨v,hv0,hv⟩:=hp 0 (i,x) rfl;cases vparts with
  |nil=>simp at hl
  |cons q vparts=>
   simp at hv0;subst hv0;unfold qM at h;split at h
   .rename_i off size l hpl hcl;split at h
    .obtain⟨c1,c2⟩:=Gk hcl hv;have hlen:=c1.length;have hcs:=hc.length;obtain⟨s1,s2⟩:=PS l v.cells.toList cs us off 0 c1 hc c2 h1;obtain⟨vs,f1,f2,f3⟩:=HX rest vparts _ res _ h aH (λj q hj=>hp (j+1) q aH) s1 s2;refine⟨vs,?_,f2,f3⟩;unfold Instr.fill;rw[hpl];dsimp only;simp only[Bn]at hlen;have e1:¬(v.cells.size≠size||decide (off+v.cells.size>us.toArray.size))=aE:=eO;rw[if_neg e1];rw[<-f1];have e2:∀(a:Array Value),a.zipIdx.foldl (λ(cs:Array Value) (x:Value×Nat)=>match x with|(c,j)=>cs.setIfInBounds (off+j) c) us.toArray=(a.toList.zipIdx 0).foldl (λ(cs:Array Value) (x:Value×Nat)=>match x with|(c,j)=>cs.setIfInBounds (off+j) c) us.toArray:=by intro a;rw[<-Array.foldl_toList,Array.toList_zipIdx]
     rw[e2]
    .cases h
   .cases h
def Jh(P:Program)(t:TypeId):Nat->Option (Nat×Nat):=match P.underlying t with
 |some (.struct fs)=>λi=>(fs[i]?).map λf=>(f.offset,bH P f.type)
 |some (.array _ e)=>λi=>aD (i*bH P e,bH P e)
 |_=>λ_=>aM
def I6(P:Program)(t:TypeId):Bool:=match P.underlying t with
 |some (.struct fs)=>fs.toList.all λf=>(P.info? f.type).isSome
 |some (.array _ e)=>(P.info? e).isSome
 |_=>aK
def mmA(f:Int->Int->Int)(x y:AV)(K:AV->Prop):Prop:=match x,y with
 | .p (.int .i64 a),.p (.int .i64 b)=>K (.p (.int .i64 (f a b)))
 |_,_=>False
def Ta{P:Program}(ts:Array TypeId)(t:TypeId)(x y:Int)(w:World):(Builtin.min_ ts t #[.int .i64 x,.int .i64 y]).run P w= .ok (.int .i64 (min x y)) w/\(Builtin.max_ ts t #[.int .i64 x,.int .i64 y]).run P w= .ok (.int .i64 (max x y)) w:=by have h:= @run_min_int2 P w ts t .i64 .i64 x y;have h2:= @run_max_int2 P w ts t .i64 .i64 x y;grind
def aDL{y:Operand}{ts:Array TypeId}(ho:o.op= .call {callee:= .builtin .min,args:= #[x,y],argTypes:=ts})(h:mmA min (E x) (E y) K):∃r,bq P o E σ n r [] []/\K r:=by
 unfold mmA at h;split at h
 .rename_i a b ea eb;refine⟨_,bq.val ?_,h⟩;intro ρ C V w hE;have h1:=hE x (by rw[ho];simp[dM,k9]);have h2:=hE y (by rw[ho];simp[dM,k9]);rw[ea]at h1;rw[eb]at h2;unfold ai bE at h1 h2;refine⟨.int .i64 (min a b),?_,by rfl⟩;unfold execOp;rw[ho];simp[resolve,invoke,builtin,h1,h2,(Ta _ _ _ _ _).1]
 grind
def aDN{y:Operand}{ts:Array TypeId}(ho:o.op= .call {callee:= .builtin .max,args:= #[x,y],argTypes:=ts})(h:mmA max (E x) (E y) K):∃r,bq P o E σ n r [] []/\K r:=by
 unfold mmA at h;split at h
 .rename_i a b ea eb;refine⟨_,bq.val ?_,h⟩;intro ρ C V w hE;have h1:=hE x (by rw[ho];simp[dM,k9]);have h2:=hE y (by rw[ho];simp[dM,k9]);rw[ea]at h1;rw[eb]at h2;unfold ai bE at h1 h2;refine⟨.int .i64 (max a b),?_,by rfl⟩;unfold execOp;rw[ho];simp[resolve,invoke,builtin,h1,h2,(Ta _ _ _ _ _).2]
 grind
end
section
variable {P:Program} {o:Oper} {E:Operand->AV} {σ:Nat->Option Ob} {n:Nat}
def S7(P:Program)(t:TypeId)(parts:List (Nat×AV))(K:AV->Prop):Prop:=∃z,sX P t=aD z/\sW P t=aE/\I6 P t=aE/\∃l,qM (Jh P t) z parts=aD l/\K (fg l)
def OV:∀(fs:List Field),fs.all (λf=>(P.info? f.type).isSome)=aE->fs.mapM (λf=>(P.info? f.type).map λi=>(f.offset,i.size))=aD (fs.map λf=>(f.offset,bH P f.type))
 |[],_=>rfl
 |f::fs,h=>by
  simp only[List.all_cons,cD]at h;obtain⟨i,hi⟩:=rX.1 h.1;simp[List.mapM_cons,hi,OV fs h.2,bH]
def zl{t:TypeId}{z:List AV}(h:sX P t=aD z)(h1:sW P t=aE):∃i zv,P.info? t=aD i/\i.zero=aD zv/\zv.cells.size=i.size/\i9 zv.cells.toList/\z=zv.cells.toList.map mR:=by unfold sX at h;simp only[tV,oW]at h;obtain⟨i,hi,zv,hz,rfl⟩:=h;unfold sW at h1;simp only[hi,tU,hz,fk,pf,cD,beq_iff_eq,cC]at h1;exact⟨i,zv,hi,hz,h1.2,h1.1,rfl⟩
variable{parts:Array (Nat×Operand)}
def aAU{t:TypeId}(ho:o.op= .build t parts){K:AV->Prop}(h:S7 P t (parts.toList.map λq=>(q.1,E q.2)) K):∃r,bq P o E σ n r [] []/\K r:=by
 obtain⟨z,hz,hz1,hpo,l,hl,hK⟩:=h;refine⟨_,bq.val ?_,hK⟩;intro ρ C V w hE;obtain⟨i,zv,hi,hiz,hsz,hone,rfl⟩:=zl hz hz1;have hp:∀(j:Nat) q,(parts.toList.map λq=>(q.1,E q.2))[j]? =aD q->∃v,(parts.toList.map λq=>(q.1,bj V q.2))[j]? =aD (q.1,v)/\ai ρ C q.2 v:=by
  intro j q hj;rw[ip]at hj|-;cases hq:parts.toList[j]? with
  |none=>grind
  |some q'=>
   rw[hq]at hj;simp only[fk,iG]at hj;subst hj;refine⟨bj V q'.2,rfl,hE q'.2 ?_⟩;simp only[dM];grind
 obtain⟨vs,f1,f2,f3⟩:=HX _ (parts.toList.map λq=>(q.1,bj V q.2)) _ l zv.cells.toList hl af hp (xE _) hone;have hb:P.built t (parts.map λq=>(q.1,bj V q.2)).toList=aD vs.toArray:=by
  unfold Program.built;rw[hi];unfold I6 at hpo;unfold Jh at f1;cases hu:P.underlying t with
  |none=>grind
  |some d=>
   rw[hu]at hpo f1;cases d<;>first|(cases hpo;done)|skip
   case struct fs=>
    dsimp only at hpo f1|-;rw[hiz,OV _ hpo];simp_all
   case array m e=>
    dsimp only at hpo f1|-;obtain⟨ie,hie⟩:=rX.1 hpo;rw[hiz,hie];rw[<-f1];simp[bH,hie]
 refine⟨.agg vs.toArray,?_,Cs f2 f3⟩;unfold execOp;rw[ho];simp only[dY,run_build w t _ _ hb,dr,fD]
def Aj.mono{C0:bf}{B:Nat}{ρ ρ':Ren}{C C':bf}{w w':World}{c:Nat}{o:Ob}(h:Aj C0 B ρ C w c o)(hext:∀s q,ρ s=aD q->ρ' s=aD q)(hC:∀b o x,C b o x->C' b o x)
  (hm:∀es clock,o.ty=1->w.heap[c]? =aD (y8 es clock)->w'.heap[c]? =w.heap[c]?):Aj C0 B ρ' C' w' c o:=by
 rcases h with⟨h0,h1,h2⟩|⟨h0,hB,es,clock,h1,h2⟩
 .exact .inl ⟨h0,λi x hi v hv=>ai.mono hext hC x v (h1 i x hi v hv),h2⟩
 .exact .inr ⟨h0,hB,es,clock,aH,bY.mono hext hC _ _ h2⟩
variable{W:List (Nat×Option Ob)}
def StR.stepG{C0:bf}{ρ ρ':Ren}{g:Nat->Option Ob}{w w':World}{B:Nat}(hs:StR C0 ρ g w B)
  (hρ:∀s o,W.lookup s=aM->g s=aD o->ρ' s=ρ s) (hext:∀s q,ρ s=aD q->ρ' s=aD q)
  (hmono:∀b o x,bV C0 B w ρ g b o x->bV C0 B w' ρ' (bM g W) b o x)
  (hold:∀s o b c,W.lookup s=aM->g s=aD o->ρ s=aD (aD b,c)->w'.heap[b]? =w.heap[b]?)
  (hmap:∀(s:Nat) (o:Ob) (c:Nat) es clock,W.lookup s=aM->g s=aD o->o.esz=0->o.ty=1->ρ s=aD (aM,c)->w.heap[c]? =aD (y8 es clock)->w'.heap[c]? =w.heap[c]?)
  (hnew:∀s o,W.lookup s=aD (aD o)->∃q c,ρ' s=aD (q,c)/\((q=aM/\o.esz≠0/\o.cells=[]/\c=0)\/(q=aM/\o.esz=0/\Aj C0 B ρ' (bV C0 B w' ρ' (bM g W)) w' c o/\
     (∀s' o' c',s'≠s->bM g W s'=aD o'->o'.esz=0->ρ' s'=aD (aM,c')->¬ut o c o' c'))\/∃b arr,q=aD b/\B<=b/\ObRep ρ' (bV C0 B w' ρ' (bM g W)) w' b c o arr/\
    ∀s' o' c',s'≠s->bM g W s'=aD o'->ρ' s'≠aD (aD b,c'))):StR C0 ρ' (bM g W) w' B:=by
 refine⟨?_,?_,?_⟩
 .intro s ob hob;unfold bM at hob;split at hob
  .grind
  .rename_i hx;obtain⟨q,c,h1,⟨h2,h3|⟨h3,h4⟩⟩|⟨b,arr,h2,h3,h4⟩⟩:=hs.ob s ob hob
   .grind
   .refine⟨q,c,aH,.inl ⟨h2,.inr ⟨h3,h4.mono hext hmono ?_⟩⟩⟩;grind
   .refine⟨q,c,aH,.inr ⟨b,arr,h2,h3,?_,h4.box,h4.row,?_⟩⟩
    .subst h2;rw[hold s ob b c hx hob h1];exact h4.blk
    .intro i x hi;obtain⟨v,g1,g2,g3⟩:=h4.cells i x hi;exact⟨v,g1,g2,ai.mono hext hmono x v g3⟩
 .intro s s' ob ob' b c c' h1 h2 h3 h4;by_cases hss:s=s'
  .exact hss
  have k1:=h1;have k2:=h2;unfold bM at h1 h2;split at h1
  .grind
  .rename_i hx;split at h2
   .grind
   .rename_i hx2;exact hs.inj s s' ob ob' b c c' h1 h2 aH aH
 .intro s s' ob ob' c c' h1 h2 m1 m2 h3 h4 hT;by_cases hss:s=s'
  .exact hss
  have k1:=h1;have k2:=h2;unfold bM at h1 h2;split at h1
  .grind
  .rename_i hx;split at h2
   .rename_i x hx2;subst h2;obtain⟨q,c2,e1,⟨_,e2,_⟩|⟨e2,_,_,e5⟩|⟨b2,arr,e2,_,_,_⟩⟩:=hnew s' ob' hx2
    .omega
    .rw[h4]at e1;cases e1;exact absurd hT.symm aH
    grind
   .rename_i hx2;exact hs.mpi s s' ob ob' c c' h1 h2 m1 m2 aH aH hT
def StR.step{C0:bf}{ρ ρ':Ren}{g:Nat->Option Ob}{w w':World}{B:Nat}(hs:StR C0 ρ g w B)
  (hρ:∀s o,W.lookup s=aM->g s=aD o->ρ' s=ρ s) (hext:∀s q,ρ s=aD q->ρ' s=aD q)
  (hmono:∀b o x,bV C0 B w ρ g b o x->bV C0 B w' ρ' (bM g W) b o x)
  (hold:∀s o b c,W.lookup s=aM->g s=aD o->ρ s=aD (aD b,c)->w'.heap[b]? =w.heap[b]?)
  (hnew:∀s o,W.lookup s=aD (aD o)->∃q c,ρ' s=aD (q,c)/\((q=aM/\o.esz≠0/\o.cells=[]/\c=0)\/∃b arr,q=aD b/\B<=b/\ObRep ρ' (bV C0 B w' ρ' (bM g W)) w' b c o arr/\
    ∀s' o' c',s'≠s->bM g W s'=aD o'->ρ' s'≠aD (aD b,c')))
  (hmap:∀(c:Nat) es clock,w.heap[c]? =aD (y8 es clock)->w'.heap[c]? =w.heap[c]?):StR C0 ρ' (bM g W) w' B:=
 hs.stepG hρ hext hmono hold aH aH
def vp{w:World}{c:Nat}{es:Array MapEntry}{clock:Nat}(h:w.heap[c]? =aD (y8 es clock)):c<w.heap.size:=aH
def x8{w:World}{b c:Nat}{es:Array MapEntry}{clock:Nat}{arr:Array Value}{t:TypeId}{q:Nat×Nat}(h:w.heap[c]? =aD (y8 es clock))(hb:w.heap[b]? =aD (.cells arr t q)):c≠b:=aH
def bq.alloc{r:AV}{ob:Ob}(h:∀(ρ:Ren) (C:bf) (V:Nat->Value) (w:World),(∀x∈o.op.operands.toList,ai ρ C (E x) (bj V x))->
  ∃v arr c,(execOp (bj V) o).run P w= .ok (.value v) (w.alloc (.cells arr ob.ty))/\(ob.esz=0->arr.size=aA ob.cells)/\(ob.esz≠0->arr.size=c*ob.esz/\(aA ob.cells)<=arr.size/\c<=maxLen)/\
   bY ρ C ob.cells (arr.toList.take (aA ob.cells))/\i9 arr.toList/\∀(ρ':Ren) (C':bf),ρ' (sit n 0)=aD (aD w.heap.size,c)->ai ρ' C' r v):bq P o E σ n r [] [(sit n 0,aD ob)] :=by
 intro C0 ρ g V w B hs hB _ hn hgn hE;have hcl:∀s,cls s≠n->s≠sit n 0:=λs h e=>h (by rw[e];exact jV n 0);generalize sit n 0=m at*;obtain⟨v,arr,c,hrun,h1,h2,h3,h4,h5⟩:=h ρ _ V w hE;unfold cv;rw[hrun];have hblk:(w.alloc (.cells arr ob.ty)).heap[w.heap.size]? =aD (.cells arr ob.ty (0,0)):=heap_alloc_new w _
 let ρ':Ren:=λs=>if s=m then aD (aD w.heap.size,c)else ρ s
 have hext:∀s q,ρ s=aD q->ρ' s=aD q:=by intro s q hq;show(if s=m then _ else _)=_;rw[if_neg aH];exact hq
 have hlt:∀s ob b c,g s=aD ob->ρ s=aD (aD b,c)->b<w.heap.size:=by intro s ob b c e1 e2;obtain⟨_,arr,e3⟩:=hs.at e1 e2;exact e3.lt
 have hold:∀b,b<w.heap.size->(w.alloc (.cells arr ob.ty)).heap[b]? =w.heap[b]? :=λb hb=>Below.heap_alloc w _ b hb;have hlk:∀s,s≠m->[(m,aD ob)].lookup s=aM:=by intro s hs;simp[jS,beq_eq_false_iff_ne.2 hs]
 have hup:∀s,s≠m->bM g [(m,aD ob)] s=g s:=by intro s hs;unfold bM;rw[hlk s hs]
 have hmono:∀b o' x,bV C0 B w ρ g b o' x->bV C0 B (w.alloc (.cells arr ob.ty)) ρ' (bM g [(m,aD ob)]) b o' x:=by
  intro b o' x ⟨e1,e2,e0⟩;have hb:b<w.heap.size:=lj w ⟨b,o',aM⟩ e1;refine⟨(kc (hold b hb)).trans e1,?_,e0⟩;intro s c' e3;by_cases e:s=m
  .grind
  .grind
 refine⟨ρ',aH,hmono,?_,aH,(Below.refl B w).alloc hB _⟩;refine hs.step ?_ hext hmono ?_ ?_ aH
 .grind
 .grind
 .intro s ob' e;have e1:s=m:=by
   rcases rb s m with h|h
   .grind
   .exact h
  subst e1;have e2:ob'=ob:=by simp[jS]at e;exact e.symm
  subst e2;refine⟨aD w.heap.size,c,by simp[ρ'],.inr ⟨w.heap.size,arr,rfl,hB,⟨hblk,h1,h2,?_⟩,?_⟩⟩
  .intro i x hi;obtain⟨u,g1,g2⟩:=h3.get _ _ i x hi;rw[rQ]at g1;split at g1
   .refine⟨u,aH,h4 u aH,ai.mono hext hmono x u g2⟩
   .cases g1
  grind
def TF(P:Program)(n:Nat)(t:TypeId)(K:Res):Prop:=∃z,sX P t=aD z/\sW P t=aE/\K (.ptr (sit n 0) 0) [] [(sit n 0,aD ⟨t,0,z⟩)]
def aA2{t:TypeId}(ho:o.op= .alloc t){K:Res}(h:TF P n t K):∃r R W,bq P o E σ n r R W/\K r R W:=by
 obtain⟨z,hz,hz1,hK⟩:=h;refine⟨_,_,_,bq.alloc ?_,hK⟩;intro ρ C V w hE;obtain⟨i,zv,hi,hiz,hsz,hone,rfl⟩:=zl hz hz1;refine⟨.pointer (aD ⟨w.heap.size,0,aM⟩),zv.cells,0,?_,λ_=>af,aH,?_,hone,λρ' C' h=> ?_⟩
 .unfold execOp;rw[ho];simp[Instr.alloc,zeroValue,typeInfo,hi,hiz,newVar,newRow]
 .rw[List.take_of_length_le af];exact xE _
 .unfold ai;grind
def Vq(n:Nat)(t:TypeId)(x:AV)(K:Res):Prop:=∃l,oH x=aD l/\K (.ptr (sit n 0) 0) [] [(sit n 0,aD ⟨t,0,l⟩)]
def aEm{t:TypeId}{x:Operand}(ho:o.op= .box t x){K:Res}(h:Vq n t (E x) K):∃r R W,bq P o E σ n r R W/\K r R W:=by
 obtain⟨l,hl,hK⟩:=h;refine⟨_,_,_,bq.alloc ?_,hK⟩;intro ρ C V w hE;obtain⟨h1,h2⟩:=Gk hl (hE x (by rw[ho];simp[dM]));have h3:=h1.length;refine⟨.pointer (aD ⟨w.heap.size,0,aM⟩),(bj V x).cells,0,?_,λ_=>aC,aH,?_,h2,λρ' C' h=> ?_⟩
 .unfold execOp;rw[ho];simp[Instr.box,newVar,newRow]
 .grind
 .unfold ai;grind
def pN:Nat->List AV->List AV
 |0,_=>[]
 |m+1,z=>z++pN m z
def SM(P:Program)(n:Nat)(t:TypeId)(len:Nat)(parts:List (Nat×AV))(K:Res):Prop:=∃e z,eC P t=aD e/\sX P e=aD z/\sW P e=aE/\z≠[]/\len*bH P e<=1000000/\
 ∃l,qM (λi=>aD (i*bH P e,bH P e)) (pN len z) parts=aD l/\K (.own (sit n 0) 0 len) [] [(sit n 0,aD ⟨e,bH P e,l⟩)]
def GC(z:List AV):∀m,aA (pN m z)=m*aA z
 |0=>by simp[pN]
 |m+1=>by simp[pN,GC z m,Bo];omega
def Pi(zv:Array Value)(_hz:0<zv.size)(m:Nat):((Lj (m*zv.size)).map (λj=>zv[j % zv.size]!)).toList=(dO m zv.toList).flatten:=by
 apply List.ext_getElem?;induction m with
 |zero=>simp
 |succ m ih=>
  intro i;rw[y9,mI];by_cases hi:i<zv.size
  .rw[qU aC];have h1:i<(m+1)*zv.size:=by rw[Bo];omega
   simp[h1,dK hi,hi]
  .rw[mg eO];have e1:(i-zv.size) % zv.size=i % zv.size:=by
    conv=>rhs;rw[(aC:i=(i-zv.size)+zv.size),mh]
   grind
def Gx{ρ:Ren}{C:bf}(zs:List Value):∀m,bY ρ C (pN m (zs.map mR)) (dO m zs).flatten
 |0=>by rfl
 |m+1=>by
  rw[y9,mI,pN];have ih:=Gx (ρ:=ρ) (C:=C) zs m;refine bY.of _ _ (by simp[ih.length]) λi x hi=> ?_;by_cases h:i<aA (zs.map mR)
  .rw[qU h]at hi;rw[qU (by simpa using h)];exact(xE zs).get _ _ i x hi
  .rw[mg aC]at hi;have:=ih.get _ _ _ x hi;grind
def ZB{t:TypeId}{len:Nat}(ho:o.op= .buildSlice t len parts){K:Res}(h:SM P n t len (parts.toList.map λq=>(q.1,E q.2)) K):∃r R W,bq P o E σ n r R W/\K r R W:=by
 obtain⟨e,z,he,hz,hz1,hne,hlen,l,hl,hK⟩:=h;refine⟨_,_,_,bq.alloc ?_,hK⟩;intro ρ C V w hE;obtain⟨i,zv,hi,hiz,hsz,hone,rfl⟩:=zl hz hz1;have hsize:bH P e=zv.cells.size:=by simp[bH,hi,hsz]
 have hpos:0<zv.cells.size:=by
  rcases rO zv.cells.size with h|h
  .grind
  .exact h
 have hp:∀(j:Nat) q,(parts.toList.map λq=>(q.1,E q.2))[j]? =aD q->∃v,(parts.toList.map λq=>(q.1,bj V q.2))[j]? =aD (q.1,v)/\ai ρ C q.2 v:=by
  intro j q hj;rw[ip]at hj|-;cases hq:parts.toList[j]? with
  |none=>grind
  |some q'=>
   rw[hq]at hj;simp only[fk,iG]at hj;subst hj;refine⟨bj V q'.2,rfl,hE q'.2 ?_⟩;simp only[dM];grind
 have hones:i9 (dO len zv.cells.toList).flatten:=by intro u hu;simp only[ml,List.mem_replicate]at hu;obtain⟨l',⟨_,rfl⟩,hu⟩:=hu;exact hone u hu
 obtain⟨vs,f1,f2,f3⟩:=HX _ (parts.toList.map λq=>(q.1,bj V q.2)) _ l _ hl af hp (Gx _ len) hones;have hl2:=f2.length;have hl3:aA l=len*bH P e:=by
  have:∀(parts:List (Nat×AV)) (cs res:List AV),qM (λi=>aD (i*bH P e,bH P e)) cs parts=aD res->aA res=aA cs:=by
   intro parts;induction parts with
   |nil=>intro cs res h;simp[qM]at h;rw[h]
   |cons q parts ih=>
    intro cs res h;unfold qM at h;split at h
    .split at h
     .rw[ih _ _ h,CE]
     .cases h
    .cases h
  rw[this _ _ _ hl,GC,dq,Bn,hsize]
 refine⟨.slice (aD ⟨w.heap.size,0,aM⟩) len len,vs.toArray,len,?_,λh=>aC,λ_=> ?_,?_,aC,λρ' C' h=> ?_⟩
 .unfold execOp;rw[ho];have e1:¬(len*bH P e>2^24):=aC;have e2:((parts.map λq=>(q.1,bj V q.2)).toList)=(parts.toList.map λq=>(q.1,bj V q.2)):=af;have e3:∀w:World,(sizeOf e).run P w= .ok (bH P e) w:=λw=>by simp[sizeOf,typeInfo,hi,bH]
  have e4:∀w:World,(zeroValue e).run P w= .ok zv w:=λw=>by simp[zeroValue,typeInfo,hi,hiz]
  by_cases h0:len*bH P e=0
  .have hl0:len=0:=by
    rcases Lh.1 h0 with h|h
    .exact h
    .omega
   subst hl0;simp only[List.replicate_zero,List.flatten_nil]at f1;simp only[Instr.buildSlice,dY,run_underlying (ni he),dr,e3,Nat.zero_mul,if_neg (aC:¬(0:Nat)>2^24),if_true,fD];have e6:(Lj 0).map (λx=>(#[] :Array Value)[x % (#[] :Array Value).size]!)= #[] :=af;rw[e6,e2];rw[f1];simp[newRow]
  .have e5:(Lj (len*bH P e)).map (λj=>zv.cells[j % zv.cells.size]!)=(dO len zv.cells.toList).flatten.toArray:=by rw[hsize];apply rY.1;rw[Pi zv.cells hpos len]
   simp only[Instr.buildSlice,dY,run_underlying (ni he),dr,e3,if_neg e1,if_neg h0,e4,fD,e5,e2,f1];simp[newRow]
 .refine⟨?_,?_,?_⟩
  .simp;omega
  .simp;omega
  .have:len<=len*bH P e:=Nat.le_mul_of_pos_right _ aC;unfold maxLen;omega
 .grind
 .unfold ai;grind
end
section
variable {P:Program} {o:Oper} {E:Operand->AV} {σ:Nat->Option Ob} {n:Nat}
def PT:∀(l cs:List AV) (off:Nat),off+aA l<=aA cs->∀(i:Nat) x,(i5 cs off l)[i]? =aD x->(off<=i/\l[i-off]? =aD x)\/((i<off\/off+aA l<=i)/\cs[i]? =aD x)
 |[],cs,off,_,i,x,h=>by
  simp only[i5]at h;grind
 |y::l,cs,off,hl,i,x,h=>by
  simp only[iE]at hl;rcases PT l (cs.set off y) (off+1) eO i x h with⟨h1,h2⟩|⟨h1,h2⟩
  .grind
  grind
def x4(P:Program)(t:TypeId)(σ:Nat->Option Ob)(a v:AV)(K:Res):Prop:=match a with
 | .ptr s off=>∃ob l,σ s=aD ob/\oH v=aD l/\(aA l)=bH P t/\(P.info? t).isSome=aE/\off+aA l<=(aA ob.cells)/\K .undef [s] [(s,aD ⟨ob.ty,ob.esz,i5 ob.cells off l⟩)]
 |_=>False
def ZT{t:TypeId}{a x:Operand}(ho:o.op= .store t a x){K:Res}(h:x4 P t σ (E a) (E x) K):∃r R W,bq P o E σ n r R W/\K r R W:=by
 unfold x4 at h;split at h
 case h_2=>exact h.elim
 rename_i s off ea;obtain⟨ob,l,hob,hl,hsz,ht,hoff,hK⟩:=h;refine⟨_,_,_,?_,hK⟩;intro C0 ρ g V w B hs hB hR hn hgn hE;have g1:=hE a (by rw[ho];simp[dM]);rw[ea]at g1;obtain⟨b,c,hρ,hv⟩:=g1;have hgs:g s=aD ob:=aH;obtain⟨hBb,arr,hO⟩:=hs.at hgs hρ;obtain⟨r1,r2⟩:=Gk hl (hE x (by rw[ho];simp[dM]));have hlen:=r1.length;have hle:aA ob.cells<=arr.size:=by
  by_cases hz:ob.esz=0
  .rw[hO.box hz];omega
  .exact(hO.row hz).2.1
 have hst:=run_storeCells_at P b off ob.ty (bj V x).cells.toList 0 arr w hO.blk aC r2;obtain⟨i,hi⟩:=rX.1 ht;have hsi:(bj V x).cells.size=i.size:=by
  have:bH P t=i.size:=by simp[bH,hi]
  rw[<-Bn,hlen,hsz,this]
 unfold cv execOp;simp only[ho,hv,Instr.storeAt,FU,storeVar,sizeOf,typeInfo,dY,fD,dr,run_program,hi,if_neg (show¬(bj V x).cells.size≠i.size from λh=>h hsi),hst];simp only[Nat.add_zero];generalize hvs:(bj V x).cells.toList=vs at*;have hblk:(w.setRow b (arr.toList.take off++vs++arr.toList.drop (off+aA vs)).toArray).heap[b]? =aD (.cells (arr.toList.take off++vs++arr.toList.drop (off+aA vs)).toArray ob.ty (0,0)):=setRow_heap w b arr _ ob.ty _ hO.blk;have hold:∀k,k≠b->(w.setRow b (arr.toList.take off++vs++arr.toList.drop (off+aA vs)).toArray).heap[k]? =w.heap[k]? :=by intro k hk;unfold World.setRow;simp only[Lb];rw[if_neg aH]
 have hsize:(w.setRow b (arr.toList.take off++vs++arr.toList.drop (off+aA vs)).toArray).heap.size=w.heap.size:=by unfold World.setRow;simp
 have hlk:∀s',s'≠s->[(s,aD (⟨ob.ty,ob.esz,i5 ob.cells off l⟩:Ob))].lookup s'=aM:=by intro s' hs';simp[jS,beq_eq_false_iff_ne.2 hs']
 have hup:∀s',s'≠s->bM g [(s,aD ⟨ob.ty,ob.esz,i5 ob.cells off l⟩)] s'=g s':=by intro s' hs';unfold bM;rw[hlk s' hs']
 have hmono:∀b' o' x,bV C0 B w ρ g b' o' x->bV C0 B (w.setRow b (arr.toList.take off++vs++arr.toList.drop (off+aA vs)).toArray) ρ (bM g [(s,aD ⟨ob.ty,ob.esz,i5 ob.cells off l⟩)]) b' o' x:=by
  intro b' o' x ⟨e1,e2,e0⟩;have hne:b'≠b:=λe=>aH;refine⟨(kc (hold b' hne)).trans e1,?_,e0⟩;intro s' c' e3;by_cases e:s'=s
  .grind
  .grind
 refine⟨ρ,λ_ _=>rfl,hmono,?_,by rfl,⟨rfl,rfl,rfl,aC,aH⟩⟩;refine hs.step aH (λ_ _ h=>h) hmono ?_ ?_ λk es clock hk=>hold k (x8 hk hO.blk)
 .intro s' o' b' c' e1 e2 e3;refine hold b' λe=> ?_;subst e;have:=hs.inj s s' ob o' b' c c' hgs e2 hρ e3;grind
 .intro s' o' e;have e1:s'=s:=by
   rcases rb s' s with h|h
   .grind
   .exact h
  subst e1;have e2:o'=⟨ob.ty,ob.esz,i5 ob.cells off l⟩:=by simp[jS]at e;exact e.symm
  subst e2;have hasz:(arr.toList.take off++vs++arr.toList.drop (off+aA vs)).toArray.size=arr.size:=by simp[mK];omega
  refine⟨aD b,c,hρ,.inr ⟨b,_,rfl,hBb,⟨hblk,?_,?_,?_⟩,?_⟩⟩
  .intro hz;rw[hasz,hO.box hz];exact(CE _ _ _).symm
  .intro hz;obtain⟨k1,k2,k3⟩:=hO.row hz;rw[hasz];exact⟨k1,by rw[CE];exact k2,k3⟩
  .intro j y hj;rcases PT l ob.cells off hoff j y hj with⟨h1,h2⟩|⟨h1,h2⟩
   .obtain⟨u,k1,k2⟩:=r1.get _ _ _ y h2;refine⟨u,?_,r2 u aH,ai.mono (λ_ _ h=>h) hmono y u k2⟩;grind
   .obtain⟨u,k1,k3,k2⟩:=hO.cells j y h2;refine⟨u,?_,k3,ai.mono (λ_ _ h=>h) hmono y u k2⟩;grind
  .intro s2 o' c' hne e3 e4;rw[hup s2 hne]at e3;exact hne (hs.inj s' s2 ob o' b c c' hgs e3 hρ e4).symm
def En(P:Program)(e:TypeId):Bool:=((P.info? e).bind λi=>i.zero.map λz=>z.cells.size==i.size&&decide (0<i.size)&&decide (i.bytes<=1000000)).getD aK
def KZ(σ:Nat->Option Ob)(e:TypeId)(esz:Nat)(x:AV)(K:Nat->List AV->List Nat->Prop):Prop:=match x with
 | .nil=>K 0 [] []
 | .own s 0 k=>∃ob,σ s=aD ob/\ob.ty=e/\ob.esz=esz/\(aA ob.cells)=k*esz/\K k ob.cells [s]
 |_=>False
def ES(σ:Nat->Option Ob)(esz:Nat)(y:AV)(K:Nat->List AV->List Nat->Prop):Prop:=match y with
 | .nil=>K 0 [] []
 | .p (.sl m cs)=>aA cs=m*esz/\K m (cs.map .p) []
 | .own s o m=>∃ob l,σ s=aD ob/\(ob.cells.drop o).take (m*esz)=l/\(aA l)=m*esz/\K m l [s]
 |_=>False
def BY(P:Program)(n:Nat)(t:TypeId)(σ:Nat->Option Ob)(x y:AV)(K:Res):Prop:=∃e,eC P t=aD e/\En P e=aE/\
 KZ σ e (bH P e) x λk cs R1=>ES σ (bH P e) y λm cs' R2=>k+m<=1000000/\
  K (.own (sit n 0) 0 (k+m)) (R1++R2) (R1.map (·,aM)++[(sit n 0,aD ⟨e,bH P e,cs++cs'⟩)])
def dp.vals{C:bf}:∀(l:List PV) (b off:Nat),dp C l b off->∃vs:List Value,aA vs=(aA l)/\(∀(i:Nat) v,vs[i]? =aD v->C b (off+i) v)/\bk C l vs/\i9 vs
 |[],b,off,_=>⟨[],rfl,aH,by rfl,λu hu=>by cases hu⟩
 |x::l,b,off,h=>by
  obtain⟨⟨v,h1,h2,h3⟩,h4⟩:=h;obtain⟨vs,g1,g2,g3,g4⟩:=dp.vals l b (off+1) h4;refine⟨v::vs,by simp[g1],?_,?_,λu hu=>by rcases bO.1 hu with rfl|hu;exact h2;exact g4 u hu⟩
  .grind
  .unfold bk;grind
def ObRep.vals{ρ:Ren}{C:bf}{w:World}{b c:Nat}{ob:Ob}{arr:Array Value}(h:ObRep ρ C w b c ob arr):bY ρ C ob.cells (arr.toList.take (aA ob.cells))/\i9 (arr.toList.take (aA ob.cells)):=by
 have hle:aA ob.cells<=arr.size:=by
  by_cases hz:ob.esz=0
  .rw[h.box hz];omega
  .exact(h.row hz).2.1
 refine⟨bY.of _ _ eO λi x hi=> ?_,?_⟩
 .obtain⟨v,h1,_,h3⟩:=h.cells i x hi;grind
 .intro u hu;obtain⟨i,hi,he⟩:=List.getElem_of_mem hu;simp only[mK,Bn]at hi;obtain⟨v,h1,h2,_⟩:=h.cells i ob.cells[i] aH;grind
def aCk{C0:bf}{ρ:Ren}{g:Nat->Option Ob}{w:World}{B:Nat}(hs:StR C0 ρ g w B){e:TypeId}{esz:Nat}{x:AV}{v:Value}(hz:esz≠0)(hx:ai ρ (bV C0 B w ρ g) x v){k:Nat}{cs:List AV}{R:List Nat}
  (hd:(x= .nil/\k=0/\cs=[]/\R=[])\/∃s ob,x= .own s 0 k/\R=[s]/\g s=aD ob/\ob.ty=e/\ob.esz=esz/\(aA ob.cells)=k*esz/\cs=ob.cells):
  ∃xs,w.ownsRow B e esz v k xs/\bY ρ (bV C0 B w ρ g) cs xs/\i9 xs/\((v.ownBlock=aM/\∀s∈R,∀b c,ρ s≠aD (aD b,c))\/∃s b c ob,R=[s]/\g s=aD ob/\ρ s=aD (aD b,c)/\v.ownBlock=aD b):=by
 rcases hd with⟨rfl,rfl,rfl,rfl⟩|⟨s,ob,rfl,rfl,h1,h2,h3,h4,rfl⟩
 .subst hx;exact⟨[],Lk _ _ _ _,by rfl,(λu hu=>by cases hu),.inl ⟨rfl,aH⟩⟩
 .obtain⟨q,c,hq,⟨rfl,hv,rfl,_⟩|⟨b,o',c',rfl,hv,h5,h6,h7⟩⟩:=hx
  .subst hv;have hc:ob.cells=[] :=aH;rw[hc];exact⟨[],Lk _ _ _ _,by rfl,(λu hu=>by cases hu),.inl ⟨rfl,aH⟩⟩
  .obtain⟨rfl,rfl⟩:=h7 rfl;obtain⟨hB,arr,hO⟩:=hs.at h1 hq;obtain⟨r1,r2⟩:=hO.vals;obtain⟨k1,k2,k3⟩:=hO.row aC;refine⟨_,⟨?_,.inr ⟨b,c',arr,hv,hB,?_,h5,k3,?_,?_⟩⟩,r1,r2,.inr ⟨s,b,c',ob,rfl,h1,hq,by rw[hv];rfl⟩⟩
   .grind
   .have:=hO.blk;grind
   .rw[k1,h3]
   .rw[h4]
def aBf{C0:bf}{ρ:Ren}{g:Nat->Option Ob}{w:World}{B:Nat}(hs:StR C0 ρ g w B){esz:Nat}{y:AV}{v:Value}(hy:ai ρ (bV C0 B w ρ g) y v){m:Nat}{cs:List AV}
  (hd:(y= .nil/\m=0/\cs=[])\/(∃l,y= .p (.sl m l)/\(aA l)=m*esz/\cs=l.map .p)\/∃s o ob,y= .own s o m/\g s=aD ob/\(ob.cells.drop o).take (m*esz)=cs/\(aA cs)=m*esz):
  ∃a c us,v= .slice a m c/\(aA us)=m*esz/\Rd w a us/\(a=aM->c=0)/\bY ρ (bV C0 B w ρ g) cs us/\i9 us:=by
 rcases hd with⟨rfl,rfl,rfl⟩|⟨l,rfl,hl,rfl⟩|⟨s,oo,ob,rfl,h1,h2,h3⟩
 .exact⟨aM,0,[],hy,af,(λi u hi=>by simp at hi),λ_=>rfl,by rfl,λu hu=>by cases hu⟩
 .obtain⟨a,c,hv,h1,h2,h3⟩:=hy;cases a with
  |none=>
   obtain⟨rfl,rfl⟩:=h2 rfl;exact⟨aM,0,[],hv,hl,(λi u hi=>by simp at hi),λ_=>rfl,by rfl,λu hu=>by cases hu⟩
  |some ad=>
   obtain⟨b,off,sp⟩:=ad;obtain⟨h4,h5⟩:=h3 _ rfl;rcases rO m with hm0|hm0
   .subst hm0;have hl0:_=[] :=pg.1 (by simpa using hl);subst hl0;exact⟨_,c,[],hv,af,(λi u hi=>by simp at hi),aH,by rfl,λu hu=>by cases hu⟩
   have h4:=h4 hm0;subst h4;obtain⟨vs,k1,k2,k3,k4⟩:=h5.vals;refine⟨_,c,vs,hv,aC,?_,aH,k3.toA,k4⟩;intro i u hi;have:=k2 i u hi;exact⟨b,off,rfl,lj w ⟨b,_,aM⟩ this.1,this.1⟩
 .obtain⟨q,c,hq,⟨rfl,hv,rfl,rfl⟩|⟨b,o',c',rfl,hv,h5,h6,h7⟩⟩:=hy
  .have:cs=[] :=aH;subst this;exact⟨aM,0,[],hv,af,(λi u hi=>by simp at hi),λ_=>rfl,by rfl,λu hu=>by cases hu⟩
  .obtain⟨hB,arr,hO⟩:=hs.at h1 hq;obtain⟨r1,r2⟩:=hO.vals;refine⟨_,c',((arr.toList.take (aA ob.cells)).drop oo).take (m*esz),hv,?_,?_,aH,by rw[<-h2];exact(r1.drop _).take _,λu hu=>r2 u aH⟩
   .have:=r1.length;grind
   .intro i u hi;rw[rQ]at hi;split at hi
    .rename_i hlt;have hm:m≠0:=by intro h;subst h;simp at hlt
     have e:=h6 hm;rw[yv,rQ]at hi;split at hi
     .refine⟨b,o',rfl,hO.lt,?_⟩;rw[hO.cell];grind
     .cases hi
    .cases hi
def XJ{t t' ty e e':TypeId}(ht:P.underlying t=aD (.slice e))(ht':P.underlying t'=aD (.slice e'))(s x:Value)(w:World):
  (Builtin.append_ #[t,t'] ty #[s,x]).run P w=(Builtin.append_ #[t,t] ty #[s,x]).run P w:=by
 cases s<;>simp[Builtin.append_,run_underlying ht,run_underlying ht']
def aEq{x y:Operand}{t t':TypeId}(ht':(eC P t').isSome=aE)(ho:o.op= .call {callee:= .builtin .append,args:= #[x,y],argTypes:= #[t,t']}){K:Res}(h:BY P n t σ (E x) (E y) K):∃r R W,bq P o E σ n r R W/\K r R W:=by
 obtain⟨e,he,hta,h⟩:=h;unfold En at hta;have hx:x∈o.op.operands.toList:=by rw[ho];simp[dM,k9]
 have hy:y∈o.op.operands.toList:=by rw[ho];simp[dM,k9]
 cases hi:P.info? e with
 |none=>grind
 |some i=>
 rw[hi]at hta;simp only[tU]at hta;cases hz:i.zero with
 |none=>grind
 |some z=>
 rw[hz]at hta;simp only[fk,pf,cD,beq_iff_eq,decide_eq_true_eq]at hta;obtain⟨⟨t1,t2⟩,t3⟩:=hta;have hesz:bH P e=i.size:=by simp[bH,hi]
 have hh:∃k cs R1 m cs' R2,((E x= .nil/\k=0/\cs=[]/\R1=[])\/∃s ob,E x= .own s 0 k/\R1=[s]/\σ s=aD ob/\ob.ty=e/\ob.esz=bH P e/\(aA ob.cells)=k*bH P e/\cs=ob.cells)/\
   ((E y= .nil/\m=0/\cs'=[]/\R2=[])\/(∃l,E y= .p (.sl m l)/\(aA l)=m*bH P e/\cs'=l.map .p/\R2=[])\/∃s o ob,E y= .own s o m/\σ s=aD ob/\(ob.cells.drop o).take (m*bH P e)=cs'/\(aA cs')=m*bH P e/\R2=[s])/\
   k+m<=1000000/\K (.own (sit n 0) 0 (k+m)) (R1++R2) (R1.map (·,aM)++[(sit n 0,aD ⟨e,bH P e,cs++cs'⟩)]):=by
  have tl:∀k cs R1,ES σ (bH P e) (E y) (λm cs' R2=>k+m<=1000000/\K (.own (sit n 0) 0 (k+m)) (R1++R2) (R1.map (·,aM)++[(sit n 0,aD ⟨e,bH P e,cs++cs'⟩)]))->
    ∃m cs' R2,((E y= .nil/\m=0/\cs'=[]/\R2=[])\/(∃l,E y= .p (.sl m l)/\(aA l)=m*bH P e/\cs'=l.map .p/\R2=[])\/∃s o ob,E y= .own s o m/\σ s=aD ob/\(ob.cells.drop o).take (m*bH P e)=cs'/\(aA cs')=m*bH P e/\R2=[s])/\
    k+m<=1000000/\K (.own (sit n 0) 0 (k+m)) (R1++R2) (R1.map (·,aM)++[(sit n 0,aD ⟨e,bH P e,cs++cs'⟩)]):=by
   intro k cs R1 h;unfold ES at h;split at h
   .rename_i ey;exact⟨0,[],[],aH,h⟩
   .grind
   .grind
   .exact h.elim
  unfold KZ at h;split at h
  .rename_i ex;obtain⟨m,cs',R2,h1,h2⟩:=tl _ _ _ h;exact⟨0,[],[],m,cs',R2,aH,h1,h2⟩
  .obtain⟨ob,g1,g2,g3,g4,g5⟩:=h;obtain⟨m,cs',R2,h1,h2⟩:=tl _ _ _ g5;grind
  .exact h.elim
 obtain⟨k,cs,R1,m,cs',R2,hd1,hd2,hkm,hK⟩:=hh;refine⟨_,_,_,?_,hK⟩;intro C0 ρ g V w B hs hB hR hn hgn hE;have hn:=hn _ (jV n 0);have hgn:=hgn _ (jV n 0);have hcl:∀s,cls s≠n->s≠sit n 0:=λs h e=>h (by rw[e];exact jV n 0);have hd1':(E x= .nil/\k=0/\cs=[]/\R1=[])\/∃s ob,E x= .own s 0 k/\R1=[s]/\g s=aD ob/\ob.ty=e/\ob.esz=bH P e/\(aA ob.cells)=k*bH P e/\cs=ob.cells:=by
  rcases hd1 with h|⟨s,ob,h1,h2,h3,h4⟩
  .exact .inl h
  .grind
 have hd2':(E y= .nil/\m=0/\cs'=[])\/(∃l,E y= .p (.sl m l)/\(aA l)=m*bH P e/\cs'=l.map .p)\/∃s o ob,E y= .own s o m/\g s=aD ob/\(ob.cells.drop o).take (m*bH P e)=cs'/\(aA cs')=m*bH P e:=by
  rcases hd2 with⟨h1,h2,h3,_⟩|⟨l,h1,h2,h3,_⟩|⟨s,oo,ob,h1,h2,h3,h4,h5⟩
  .grind
  .grind
  .grind
 obtain⟨xs,hown,q1,q2,hsep⟩:=aCk hs aC (hE x hx) hd1';obtain⟨a,c,us,hyv,p1,p2,p3,p4,p5⟩:=aBf hs (hE y hy) hd2';have hlenx:aA xs=k*bH P e:=hown.1;have hsuff:∀K0:Value->World->Prop,cv P {o with op:= .call {callee:= .builtin .append,args:= #[x,y],argTypes:= #[t,t]}} V w K0->cv P o V w K0:=by intro K0 h;obtain⟨e',he'⟩:=rX.1 ht';have hr:=XJ (ty:=o.type) (ni he) (ni he') (bj V x) (bj V y) w;unfold cv execOp at*;simp only[ho,resolve,invoke,builtin,dY,fD,dr,Lg,dU,qV]at*;rw[hr];exact h
 refine hsuff _ ?_;refine G3 x y t rfl B e z (bH P e) i.bytes (ni he) aH (by rw[t1,hesz]) aC _ k xs rfl hown a m c us hyv p1 p2 p3 p5 hkm t3 hB ?_;intro v' w' hown' hbel hgrow hblk;obtain⟨q',c',hq',hq2⟩:∃(q':Option Nat) (c':Nat),((q'=aM/\v'= .slice aM 0 0/\k+m=0/\c'=0/\xs++us=[])\/∃b' arr,q'=aD b'/\v'= .slice (aD ⟨b',0,aM⟩) (k+m) c'/\B<=b'/\w'.heap[b']? =aD (.cells arr e (0,0))/\k+m<=c'/\c'<=maxLen/\arr.size=c'*bH P e/\arr.toList.take ((k+m)*bH P e)=xs++us)/\True:=by
  obtain⟨o1,⟨h1,h2⟩|⟨b',c',arr,h1,h2,h3,h4,h5,h6,h7⟩⟩:=hown'
  .exact⟨aM,0,.inl ⟨rfl,h1,h2,rfl,pg.1 aH⟩,trivial⟩
  .exact⟨aD b',c',aH,trivial⟩
 clear hq2;generalize hnS:sit n 0=nS at*
 let ρ':Ren:=λs=>if s=nS then aD (q',c')else ρ s
 let W:List (Nat×Option Ob):=R1.map (·,aM)++[(nS,aD ⟨e,bH P e,cs++cs'⟩)]
 show∃ρ'':Ren,(∀s,cls s≠n->ρ'' s=ρ s)/\(∀b o' x,bV C0 B w ρ g b o' x->bV C0 B w' ρ'' (bM g W) b o' x)/\StR C0 ρ'' (bM g W) w' B/\ai ρ'' (bV C0 B w' ρ'' (bM g W)) (.own nS 0 (k+m)) v'/\Below B w w';have hext:∀s q,ρ s=aD q->ρ' s=aD q:=by intro s q hq;show(if s=nS then _ else _)=_;rw[if_neg aH];exact hq
 have hR1:∀s∈R1,s≠nS:=by
  intro s hs' e;rcases hd1' with⟨_,_,_,h⟩|⟨s',ob,_,h1,h2,_⟩
  .grind
  .grind
 have hlkn:W.lookup nS=aD (aD ⟨e,bH P e,cs++cs'⟩):=by
  rcases hd1' with⟨_,_,_,h⟩|⟨s',ob,_,h1,h2,_⟩
  .simp[W,h]
  .grind
 have hlkR:∀s,s∈R1->W.lookup s=aD aM:=by
  intro s hs';rcases hd1' with⟨_,_,_,h⟩|⟨s',ob,_,h1,h2,_⟩
  .grind
  .grind
 have hlk:∀s,s≠nS->s∉R1->W.lookup s=aM:=by
  intro s h1 h2;rcases hd1' with⟨_,_,_,h⟩|⟨s',ob,_,h3,_⟩
  .grind
  .grind
 have hupR:∀s,s∈R1->bM g W s=aM:=by intro s h;unfold bM;rw[hlkR s h]
 have hup:∀s,s≠nS->s∉R1->bM g W s=g s:=by intro s h1 h2;unfold bM;rw[hlk s h1 h2]
 have hrow:∀s ob b c,g s=aD ob->ρ s=aD (aD b,c)->s∉R1->aD b≠(bj V x).ownBlock:=by
  intro s ob b c e1 e2 e3 e4;rcases hsep with⟨h1,_⟩|⟨s',b',c2,ob',h1,h2,h3,h4⟩
  .grind
  .rw[h4]at e4;cases e4;have:=hs.inj s s' ob ob' b c c2 e1 h2 e2 h3;grind
 have hlt:∀s ob b c,g s=aD ob->ρ s=aD (aD b,c)->b<w.heap.size:=by intro s ob b c e1 e2;obtain⟨_,arr,e3⟩:=hs.at e1 e2;exact e3.lt
 have hmono:∀b o' x,bV C0 B w ρ g b o' x->bV C0 B w' ρ' (bM g W) b o' x:=by
  intro b o' x' ⟨e1,e2,e0⟩;have hb:b<w.heap.size:=lj w ⟨b,o',aM⟩ e1;have hnr:aD b≠(bj V x).ownBlock:=by
   intro e4;rcases hsep with⟨h1,_⟩|⟨s',b',c2,ob',h1,h2,h3,h4⟩
   .grind
   .grind
  refine⟨(kc (hgrow.block b hb hnr)).trans e1,?_,e0⟩;intro s c2 e3;by_cases e:s=nS
  .subst e;simp only[ρ',if_true]at e3;cases e3;rcases hq' with⟨h1,_⟩|⟨b',arr,h1,h2,_⟩
   .cases h1
   .cases h1;rcases hblk b (by rw[h2];rfl)with h3|h3
    .grind
    .omega
  .grind
 refine⟨ρ',aH,hmono,?_,?_,hbel⟩
 .refine hs.step ?_ hext hmono ?_ ?_ λk es clock hk=>hgrow.block k (vp hk) ?_
  rotate_left 3
  .intro e4;rcases hsep with⟨h1,_⟩|⟨s',b',c2,ob',h1,h2,h3,h4⟩
   .grind
   .rw[h4]at e4;cases e4;obtain⟨_,arr,e5⟩:=hs.at h2 h3;exact x8 hk e5.blk rfl
  .grind
  .intro s ob' b c2 e1 e2 e3;have e4:s∉R1:=λh=>aH;exact hgrow.block b aH aH
  .intro s ob' e1;have e2:s=nS:=by
    by_cases h1:s=nS
    .exact h1
    .grind
   subst e2;rw[hlkn]at e1;simp only[iG]at e1;subst e1;refine⟨q',c',by simp[ρ'],?_⟩;rcases hq' with⟨h1,h2,h3,h4,h5⟩|⟨b',arr,h1,h2,h3,h4,h5,h6,h7,h8⟩
   .refine .inl ⟨h1,aH,?_,h4⟩;have l1:=q1.length;have l2:=p4.length;have l3:=congrArg aA h5;simp only[eR,List.length_nil]at l3;rw[List.append_eq_nil_iff];exact⟨pg.1 aC,pg.1 aC⟩
   .refine .inr ⟨b',arr,h1,h3,⟨h4,aH,λ_=>⟨h7,?_,h6⟩,?_⟩,?_⟩
    .have l1:=q1.length;have l2:=p4.length;rw[h7,eR,<-l1,<-l2,hlenx,p1,<-Bo];exact Nat.mul_le_mul_right _ h5
    .intro j u hj;have l1:=q1.length;have hjj:∃v,(xs++us)[j]? =aD v/\v.oneCell'=aE/\ai ρ (bV C0 B w ρ g) u v:=by
      by_cases hlt2:j<aA cs
      .rw[qU hlt2]at hj;obtain⟨v,g1,g2⟩:=q1.get _ _ j u hj;exact⟨v,aH,q2 v aH,g2⟩
      .rw[mg aC]at hj;obtain⟨v,g1,g2⟩:=p4.get _ _ _ u hj;exact⟨v,aH,p5 v aH,g2⟩
     obtain⟨v,g1,g2,g3⟩:=hjj;refine⟨v,?_,g2,ai.mono hext hmono u v g3⟩;grind
    .intro s' o' c2 hne e3 e4;have e5:s'∉R1:=λh=>aH;rcases hblk b' (by rw[h2];rfl)with h9|h9
     .grind
     grind
 .unfold ai;grind
end
end Go.Proofs.YthbofdolalagjaaGreat
