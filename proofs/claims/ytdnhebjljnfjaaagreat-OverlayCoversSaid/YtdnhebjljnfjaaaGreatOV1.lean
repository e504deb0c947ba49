/- Part 1 of what the statement stands on -/
import Derived.WalkKit
import Derived.Below
import Derived.Deep.MidRow
import Derived.Test.YtdnhebjljnfjaaaGreatProg
import Derived.WalkSpells
import Derived.WalkLawsBesides
import Derived.Lib.Hide
import Derived.Deep.QuietTactic
import Derived.BigQuiet
import Derived.WalkSmall
import Derived.Deep.RegionHeld3
import Derived.LoopTactic
import Derived.Orders
import Derived.Laws.OwnMore
import Derived.Maps.AppendAt
import Derived.Laws.Small
import Derived.Scope
set_option linter.all false
set_option maxRecDepth 100000
set_option maxHeartbeats 8000000
open Int renaming mul_le_mul_left->CV,mul_zero->xY,lt_or_le->pL,mul_nonneg->jA,mul_neg_of_neg_of_pos->QZ,mul_eq_zero->rK,mul_le_mul_of_nonneg_right->jw
open Bool renaming and_eq_true->bv,true_and->jB,false_eq_true->ng,eq_iff_iff->mE,or_eq_true->jW,eq_false_or_eq_true->Qa,not_eq_true'->Qb
open List renaming mem_cons->bc,not_mem_nil->dM,pairwise_cons->jv,mem_filter->uI,length_nil->iM,length_cons->iE,range->bM,all_eq_true->dW,mem_range->dR,length->fh,getElem_of_mem->iF,getElem?_drop->uK,getElem?_take->pM,length_eq_zero_iff->ig,mem_append->eA,map_toArray->uP,map_cons->cO,map_nil->lK,length_take->fV,getElem?_set->iG,getElem?_map->du,lookup->cG,take_of_length_le->ij,replicate->bS,replicate_succ->nl,flatten_cons->Qe,getElem?_append_left->ik,getElem?_append_right->jD,mem_replicate->Qf,length_map->d6,length_append->dn,mem_append_left->fy,mem_append_right->fi,getElem?_eq_getElem->c7,lookup_cons->dF,any_eq_true->nr,getD_eq_getElem?_getD->b8,getElem?_set_ne->Qi,mem_filterMap->jy,getElem?_eq_none->eW,range'->uT,cons_append->mG,getElem?_replicate->jY
open Classical renaming byContradiction->CW
open Nat renaming mod_lt->fg,mod_eq_of_lt->ni,gcd->bz,eq_zero_or_pos->nj,lt_or_ge->jC,mul_comm->uL,le_refl->bA,le_trans->cZ,mul_le_mul->Cb,mul_eq_zero->Cc,add_assoc->nk,decEq->ii,add_mul->lL,le_mul_of_pos_right->Qg,add_zero->uQ,zero_le->cu
open Array renaming getElem?_modify->xb,getD_eq_getD_getElem?->fN,getElem?_eq_getElem->rL,getElem?_setIfInBounds->pN,replicate->kS,getElem?_replicate->xe,toList_inj->kV,length_toList->rM,range->Ce,map->np,getElem?_append_left->xp,getElem?_append_right->Ch,mapM_eq_mapM_toList->Ci
open Go.Region renaming binds->iN,ready->xd,wanted->gl
open Option renaming map_some->dm,getD_some->mF,bind_some->kU,map_eq_some_iff->iO,isSome_iff_exists->lJ,bind_eq_some_iff->jx,some.injEq->fO
open Go.Act renaming put->kT
open Go.Code renaming region->CX,rounds->xo
open Go.Instr renaming loadAt->xg,sureAddr->xh,indexAt->Ca,sliceBounds->xi
open Go.Sem renaming run_bind->bi,run_pure->cF,run_map->Cj
open Go.Op renaming operands->cA,equal->uM,maxDepth->CY,equalIn->jX,intArith->CZ,intCmp->uN
open Go.Result renaming andThen_ok->bq
open Go.Value renaming int->c6,cells->Cd
open Go.Addr renaming add_mid->uO
open Go.Call renaming operands->fw
open Go.World renaming block_lt_of_cell?->fx,cell?_of_block->gW,setRow->uR
open Go.Deferred renaming ofValue->nq
open Or renaming elim->xk
open Go.IntKind renaming i64->dr
open Go.RowKit
namespace Go.Proofs.YtdnhebjljnfjaaaGreat.Geo
end Go.Proofs.YtdnhebjljnfjaaaGreat.Geo
open Go.Proofs.YtdnhebjljnfjaaaGreat.Geo
namespace Go.Proofs.YtdnhebjljnfjaaaGreat
@[reducible]def aBW{α:Sort _}(a:α)(f:α->Prop):Prop:=f a
namespace Geo
structure V where
 x:Int
 y:Int
deriving DecidableEq,Inhabited
structure S where
 a:V
 b:V
deriving DecidableEq,Inhabited
def sub(p q:V):V:=⟨p.x-q.x,p.y-q.y⟩
def cross(p q:V):Int:=p.x*q.y-p.y*q.x
def sgn(n:Int):Int:=if 0<n then 1 else if n<0 then-1 else 0
def bT(a b c:V):Int:=sgn (cross (sub b a) (sub c a))
def bR(p q:V):Bool:=decide (p.y<q.y)||(p.y==q.y&&decide (p.x<q.x))
def bP(p:V)(m:Int):Bool:=decide (-m<=p.x)&&decide (p.x<=m)&&decide (-m<=p.y)&&decide (p.y<=m)
def bQ(s:S):Bool:=bP s.a 4000&&bP s.b 4000
def eo(s:S)(p:V):Bool:=decide (min s.a.x s.b.x<=p.x)&&decide (p.x<=max s.a.x s.b.x)&&decide (min s.a.y s.b.y<=p.y)&&decide (p.y<=max s.a.y s.b.y)
def onS(s:S)(p:V):Bool:=bQ s&&eo s p&&bT s.a s.b p==0
def oK(n:Int):sgn n=0↔n=0:=by unfold sgn;grind
def GW(n:Int):0<sgn n↔0<n:=by unfold sgn;grind
def We(n:Int):sgn n<0↔n<0:=by unfold sgn;grind
def yG(m n:Int):sgn m*sgn n<0↔(0<m/\n<0)\/(m<0/\0<n):=by unfold sgn;grind
def bg(x y:Int):Int:=if x<y then-1 else if y<x then 1 else 0
def dL(p q:V):Int:=if bg p.y q.y=0 then bg p.x q.x else bg p.y q.y
def gc(s t:S)(d:Int):Int:=
 let a0:=cross (sub t.a s.a) (sub t.b t.a)
 let b0:=cross (sub t.a s.a) (sub s.b s.a)
 let a:=if d<0 then-a0 else a0
 let b:=if d<0 then-b0 else b0
 let e:=if d<0 then-d else d
 if a<0\/e<a\/b<0\/e<b then 0 else if a=0\/a=e\/b=0\/b=e then 1 else 2
def loS(s:S):V:=if bR s.b s.a then s.b else s.a
def hiS(s:S):V:=if bR s.b s.a then s.a else s.b
def bw(s t:S):V:=if bR (loS s) (loS t)then loS t else loS s
def cD(s t:S):V:=if bR (hiS t) (hiS s)then hiS t else hiS s
def dN(s t:S):Int:=
 if !(bQ s&&bQ t)then 0
 else if cross (sub s.b s.a) (sub t.b t.a)≠0 then gc s t (cross (sub s.b s.a) (sub t.b t.a))
 else if s.a=s.b/\onS t s.a=true then 1
 else if t.a=t.b/\onS s t.a=true then 1
 else if s.a=s.b\/t.a=t.b\/bT s.a s.b t.a≠0 then 0
 else if dL (bw s t) (cD s t)=0 then 1
 else if dL (bw s t) (cD s t)= -1 then 3
 else 0
def cM(s t:S)(p:V):Prop:=onS s p=true/\onS t p=true
structure MeetIs(s t:S)(k:Int):Prop where
 none:(bQ s&&bQ t)=false->k=0
 over:∀p q,p∈[s.a,s.b,t.a,t.b]->q∈[s.a,s.b,t.a,t.b]->p≠q->cM s t p->cM s t q->k=3
 touch:(bQ s&&bQ t)=true->(∀p q,p∈[s.a,s.b,t.a,t.b]->q∈[s.a,s.b,t.a,t.b]->cM s t p->cM s t q->p=q)->(∃p,p∈[s.a,s.b,t.a,t.b]/\cM s t p)->k=1
 cross:(bQ s&&bQ t)=true->(∀p,p∈[s.a,s.b,t.a,t.b]->¬cM s t p)->(bT s.a s.b t.a*bT s.a s.b t.b<0/\bT t.a t.b s.a*bT t.a t.b s.b<0)->k=2
 else_:(bQ s&&bQ t)=true->(∀p,p∈[s.a,s.b,t.a,t.b]->¬cM s t p)->¬(bT s.a s.b t.a*bT s.a s.b t.b<0/\bT t.a t.b s.a*bT t.a t.b s.b<0)->k=0
def vv(d b v w:Int)(hd:0<d)(h:d*w=b*v)(hv:v≠0):(min 0 v<=w/\w<=max 0 v)↔(0<=b/\b<=d):=by
 rcases Int.lt_or_gt_of_ne hv with hv|hv
 .have e1:w<=0↔0<=b:=by
   rw[<-CV hd,xY,h];constructor
   .intro h1;rcases pL b 0 with h2|h2
    .have:=Int.mul_pos_of_neg_of_neg h2 hv;omega
    .exact h2
   .intro h1;have:=jA h1 (show(0:Int)<= -v by omega);grind
  have e2:v<=w↔b<=d:=by
   rw[<-CV hd,h];constructor
   .simp_all
   .simp_all
  omega
 .have e1:0<=w↔0<=b:=by
   rw[<-CV hd,xY,h];constructor
   .intro h1;rcases pL b 0 with h2|h2
    .have:=QZ h2 hv;omega
    .exact h2
   .intro h1;exact jA h1 (by omega)
  have e2:w<=v↔b<=d:=by rw[<-CV hd,h];exact Int.mul_le_mul_right hv
  omega
def kg(s:S)(p:V)(d b:Int)(hd:0<d)(hx:d*(p.x-s.a.x)=b*(s.b.x-s.a.x))(hy:d*(p.y-s.a.y)=b*(s.b.y-s.a.y))(hv:s.a≠s.b):
  eo s p=true↔(0<=b/\b<=d):=by
 obtain⟨⟨ax,ay⟩,⟨bx,b_y⟩⟩:=s;obtain⟨px,py⟩:=p;simp only[eo,bv,decide_eq_true_eq]at*;simp only[ne_eq,V.mk.injEq,not_and]at hv;by_cases h1:bx-ax=0
 .have h2:b_y-ay≠0:=by intro h2;grind
  rw[h1,xY]at hx;have h3:px-ax=0:=by
   rcases rK.1 hx with h|h
   .omega
   .exact h
  have:=vv d b _ _ hd hy h2;omega
 .by_cases h2:b_y-ay=0
  .rw[h2,xY]at hy;have h3:py-ay=0:=by
    rcases rK.1 hy with h|h
    .omega
    .exact h
   have:=vv d b _ _ hd hx h1;omega
  .have e1:=vv d b _ _ hd hx h1;have e2:=vv d b _ _ hd hy h2;omega
def f7{s:S}{p:V}(hv:bQ s=true):onS s p=true↔(eo s p=true/\cross (sub s.b s.a) (sub p s.a)=0):=by unfold onS bT;rw[hv];simp only[jB,bv,beq_iff_eq,oK]
def qf{s:S}(hv:bQ s=true):onS s s.a=true:=by rw[f7 hv];refine⟨?_,by simp[cross,sub]⟩;simp[eo];omega
def Bd{s:S}(hv:bQ s=true):onS s s.b=true:=by rw[f7 hv];refine⟨?_,by simp only[cross,sub];grind⟩;simp[eo];omega
def q1{d a b sa sb ta tb:Int}(h:d*(ta-sa)=a*(sb-sa)-b*(tb-ta))(e:a=0):d*(sa-ta)=b*(tb-ta):=by grind
def q2{d a b sa sb ta tb:Int}(h:d*(ta-sa)=a*(sb-sa)-b*(tb-ta))(e:a=d):d*(sb-ta)=b*(tb-ta):=by grind
def q3{d a b sa sb ta tb:Int}(h:d*(ta-sa)=a*(sb-sa)-b*(tb-ta))(e:b=0):d*(ta-sa)=a*(sb-sa):=by grind
def q4{d a b sa sb ta tb:Int}(h:d*(ta-sa)=a*(sb-sa)-b*(tb-ta))(e:b=d):d*(tb-sa)=a*(sb-sa):=by grind
def z13{d a b sa sb ta tb:Int}(h:d*(ta-sa)=a*(sb-sa)-b*(tb-ta))(e:a=0)(f:b=0):d*(ta-sa)=0:=by grind
def z14{d a b sa sb ta tb:Int}(h:d*(ta-sa)=a*(sb-sa)-b*(tb-ta))(e:a=0)(f:b=d):d*(tb-sa)=0:=by grind
def z23{d a b sa sb ta tb:Int}(h:d*(ta-sa)=a*(sb-sa)-b*(tb-ta))(e:a=d)(f:b=0):d*(ta-sb)=0:=by grind
def z24{d a b sa sb ta tb:Int}(h:d*(ta-sa)=a*(sb-sa)-b*(tb-ta))(e:a=d)(f:b=d):d*(tb-sb)=0:=by grind
def Vh(s t:S)(hs:bQ s=true)(ht:bQ t=true)(hd:cross (sub s.b s.a) (sub t.b t.a)≠0):
  MeetIs s t (gc s t (cross (sub s.b s.a) (sub t.b t.a))):=by
 have hsab:s.a≠s.b:=by intro h;apply hd;rw[h];simp[cross,sub]
 have htab:t.a≠t.b:=by intro h;apply hd;rw[h];simp[cross,sub]
 obtain⟨a0,ha0⟩:∃a,a=cross (sub t.a s.a) (sub t.b t.a):=⟨_,rfl⟩;obtain⟨b0,hb0⟩:∃a,a=cross (sub t.a s.a) (sub s.b s.a):=⟨_,rfl⟩;obtain⟨d0,hd0⟩:∃a,a=cross (sub s.b s.a) (sub t.b t.a):=⟨_,rfl⟩;have f1:cross (sub t.b t.a) (sub s.a t.a)=a0:=by rw[ha0];simp only[cross,sub];grind
 have f2:cross (sub t.b t.a) (sub s.b t.a)=a0-d0:=by rw[ha0,hd0];simp only[cross,sub];grind
 have f3:cross (sub s.b s.a) (sub t.a s.a)= -b0:=by rw[hb0];simp only[cross,sub];grind
 have f4:cross (sub s.b s.a) (sub t.b s.a)=d0-b0:=by rw[hb0,hd0];simp only[cross,sub];grind
 have gx:d0*(t.a.x-s.a.x)=a0*(s.b.x-s.a.x)-b0*(t.b.x-t.a.x):=by rw[ha0,hb0,hd0];simp only[cross,sub];grind
 have gy:d0*(t.a.y-s.a.y)=a0*(s.b.y-s.a.y)-b0*(t.b.y-t.a.y):=by rw[ha0,hb0,hd0];simp only[cross,sub];grind
 rw[<-hd0]at hd;obtain⟨a,b,d,hdp,hx,hy,hab⟩:∃a b d:Int,0<d/\d*(t.a.x-s.a.x)=a*(s.b.x-s.a.x)-b*(t.b.x-t.a.x)/\d*(t.a.y-s.a.y)=a*(s.b.y-s.a.y)-b*(t.b.y-t.a.y)/\((d0<0/\a= -a0/\b= -b0/\d= -d0)\/(¬d0<0/\a=a0/\b=b0/\d=d0)):=by
  by_cases h:d0<0
  .exact⟨-a0,-b0,-d0,by omega,by grind,by grind,by grind⟩
  .exact⟨a0,b0,d0,by omega,gx,gy,by grind⟩
 have hK:gc s t d0=if a<0\/d<a\/b<0\/d<b then 0 else if a=0\/a=d\/b=0\/b=d then 1 else 2:=by unfold gc;simp only[<-ha0,<-hb0];rcases hab with⟨h,rfl,rfl,rfl⟩|⟨h,rfl,rfl,rfl⟩<;>simp only[h,if_true,if_false]
 have c1:cM s t s.a↔(a=0/\0<=b/\b<=d):=by
  unfold cM;rw[f7 ht,f1];have e:a0=0↔a=0:=by clear gx gy hx hy;omega
  rw[e];constructor
  .rintro⟨_,h1,h2⟩;exact⟨h2,(kg t s.a d b hdp (q1 hx h2) (q1 hy h2) htab).1 h1⟩
  .rintro⟨h2,h3⟩;exact⟨qf hs,(kg t s.a d b hdp (q1 hx h2) (q1 hy h2) htab).2 h3,h2⟩
 have c2:cM s t s.b↔(a=d/\0<=b/\b<=d):=by
  unfold cM;rw[f7 ht,f2];have e:a0-d0=0↔a=d:=by clear gx gy hx hy;omega
  rw[e];constructor
  .rintro⟨_,h1,h2⟩;exact⟨h2,(kg t s.b d b hdp (q2 hx h2) (q2 hy h2) htab).1 h1⟩
  .rintro⟨h2,h3⟩;exact⟨Bd hs,(kg t s.b d b hdp (q2 hx h2) (q2 hy h2) htab).2 h3,h2⟩
 have c3:cM s t t.a↔(b=0/\0<=a/\a<=d):=by
  unfold cM;rw[f7 hs,f3];have e: -b0=0↔b=0:=by clear gx gy hx hy;omega
  rw[e];constructor
  .rintro⟨⟨h1,h2⟩,_⟩;exact⟨h2,(kg s t.a d a hdp (q3 hx h2) (q3 hy h2) hsab).1 h1⟩
  .rintro⟨h2,h3⟩;exact⟨⟨(kg s t.a d a hdp (q3 hx h2) (q3 hy h2) hsab).2 h3,h2⟩,qf ht⟩
 have c4:cM s t t.b↔(b=d/\0<=a/\a<=d):=by
  unfold cM;rw[f7 hs,f4];have e:d0-b0=0↔b=d:=by clear gx gy hx hy;omega
  rw[e];constructor
  .rintro⟨⟨h1,h2⟩,_⟩;exact⟨h2,(kg s t.b d a hdp (q4 hx h2) (q4 hy h2) hsab).1 h1⟩
  .rintro⟨h2,h3⟩;exact⟨⟨(kg s t.b d a hdp (q4 hx h2) (q4 hy h2) hsab).2 h3,h2⟩,Bd ht⟩
 have hT:(bT s.a s.b t.a*bT s.a s.b t.b<0/\bT t.a t.b s.a*bT t.a t.b s.b<0)↔(0<a/\a<d/\0<b/\b<d):=by
  unfold bT;rw[yG,yG,f1,f2,f3,f4];clear hx hy gx gy c1 c2 c3 c4 f1 f2 f3 f4 hK ha0 hb0 hd0;rcases hab with⟨h,rfl,rfl,rfl⟩|⟨h,rfl,rfl,rfl⟩
  .omega
  .omega
 rw[<-hd0,hK];clear hK f1 f2 f3 f4;have hone:∀p q,p∈[s.a,s.b,t.a,t.b]->q∈[s.a,s.b,t.a,t.b]->cM s t p->cM s t q->p=q:=by
  have zz:∀x:Int,d*x=0->x=0:=λx h=>by rcases rK.1 h with h|h<;>omega
  have e13:cM s t s.a->cM s t t.a->s.a=t.a:=by rw[c1,c3];rintro⟨h1,_⟩ ⟨h2,_⟩;have h3:=zz _ (z13 hx h1 h2);have h4:=zz _ (z13 hy h1 h2);cases hsa:s.a;cases hta:t.a;simp only[hsa,hta]at h3 h4;simp;omega
  have e14:cM s t s.a->cM s t t.b->s.a=t.b:=by rw[c1,c4];rintro⟨h1,_⟩ ⟨h2,_⟩;have h3:=zz _ (z14 hx h1 h2);have h4:=zz _ (z14 hy h1 h2);cases hsa:s.a;cases hta:t.b;simp only[hsa,hta]at h3 h4;simp;omega
  have e23:cM s t s.b->cM s t t.a->s.b=t.a:=by rw[c2,c3];rintro⟨h1,_⟩ ⟨h2,_⟩;have h3:=zz _ (z23 hx h1 h2);have h4:=zz _ (z23 hy h1 h2);cases hsa:s.b;cases hta:t.a;simp only[hsa,hta]at h3 h4;simp;omega
  have e24:cM s t s.b->cM s t t.b->s.b=t.b:=by rw[c2,c4];rintro⟨h1,_⟩ ⟨h2,_⟩;have h3:=zz _ (z24 hx h1 h2);have h4:=zz _ (z24 hy h1 h2);cases hsa:s.b;cases hta:t.b;simp only[hsa,hta]at h3 h4;simp;omega
  have e12:cM s t s.a->cM s t s.b->False:=by rw[c1,c2];clear hx hy;omega
  have e34:cM s t t.a->cM s t t.b->False:=by rw[c3,c4];clear hx hy;omega
  intro p q hp hq h1 h2;simp only[bc,dM,or_false]at hp hq;rcases hp with rfl|rfl|rfl|rfl<;>rcases hq with rfl|rfl|rfl|rfl
  .rfl
  .grind
  .grind
  .grind
  .grind
  .rfl
  .grind
  .grind
  .grind
  .grind
  .rfl
  .grind
  .grind
  .grind
  .grind
  .rfl
 clear hx hy hd0 hab hd;constructor
 .grind
 .grind
 .grind
 .omega
 grind
def leV(p q:V):Prop:=p.y<q.y\/(p.y=q.y/\p.x<=q.x)
instance(p q:V):Decidable (leV p q):=by unfold leV;infer_instance
def oO(p:V):leV p p:= .inr (by grind)
def oE{p q r:V}(h1:leV p q)(h2:leV q r):leV p r:=by unfold leV at*;omega
def zX{p q:V}(h1:leV p q)(h2:leV q p):p=q:=by cases p;cases q;unfold leV at*;grind
def vE(p q:V):leV p q\/leV q p:=by unfold leV;omega
def gP(p q:V):bR p q=true↔¬leV q p:=by unfold bR leV;simp;omega
def pY(p q:V):bR p q=false↔leV q p:=by rw[<-Bool.not_eq_true,gP];grind
def ro(p q:V):dL p q=0↔p=q:=by cases p;cases q;unfold dL bg;grind
def sK(p q:V):dL p q= -1↔bR p q=true:=by unfold dL bg bR;grind
def AP(p q:V):dL p q<0↔bR p q=true:=by unfold dL bg bR;grind
def G6(s:S):(loS s=s.a/\hiS s=s.b)\/(loS s=s.b/\hiS s=s.a):=by unfold loS hiS;grind
def GF(s:S)(p:V)(hne:s.a≠s.b)(hc:cross (sub s.b s.a) (sub p s.a)=0):eo s p=true↔(leV (loS s) p/\leV p (hiS s)):=by
 simp only[cross,sub]at hc;by_cases hy:s.b.y=s.a.y
 .have hx:s.b.x≠s.a.x:=by intro hx;apply hne;cases hsa:s.a;cases hsb:s.b;simp only[hsa,hsb]at hx hy;simp[hx,hy]
  unfold loS hiS;cases h:bR s.b s.a
  .have h1:=(pY _ _).1 h;simp only[eo,leV,bv,decide_eq_true_eq]at*;grind
  .have h1:=(gP _ _).1 h;simp only[eo,leV,bv,decide_eq_true_eq]at*;grind
 .have hxy:p.y=s.a.y->p.x=s.a.x:=by
   intro h;have h0:p.y-s.a.y=0:=by omega
   rw[h0]at hc;have:(s.b.y-s.a.y)*(p.x-s.a.x)=0:=by omega
   rcases rK.1 this with h|h<;>omega
  have hxz:p.y=s.b.y->p.x=s.b.x:=by
   intro h;rw[h]at hc;have:(s.b.y-s.a.y)*(p.x-s.b.x)=0:=by grind
   rcases rK.1 this with h|h<;>omega
  rcases Int.lt_or_gt_of_ne hy with h|h
  .have hb:=kg s p (s.a.y-s.b.y) (s.a.y-p.y) (by omega) (by grind) (by grind) hne;rw[hb];have h1:bR s.b s.a=true:=by rw[gP];unfold leV;omega
   unfold loS hiS;rw[h1];simp only[if_true,leV];omega
  .have hb:=kg s p (s.b.y-s.a.y) (p.y-s.a.y) (by omega) (by grind) (by grind) hne;rw[hb];have h1:bR s.b s.a=false:=by rw[pY];unfold leV;omega
   unfold loS hiS;rw[h1];simp only[ng,if_false,leV];omega
def ul{s:S}(h:s.a=s.b){p:V}(hp:eo s p=true):p=s.a:=by cases hsa:s.a;cases hsb:s.b;cases p;simp only[eo,hsa,hsb,V.mk.injEq,bv,decide_eq_true_eq]at*;omega
def Dn(u v w:V)(h1:cross u v=0)(h2:cross v w=0)(hv:v≠⟨0,0⟩):cross u w=0:=by
 simp only[cross]at*;by_cases hx:v.x=0
 .have hy:v.y≠0:=by intro hy;apply hv;cases v;simp at hx hy;simp[hx,hy]
  have:v.y*(u.x*w.y-u.y*w.x)=0:=by grind
  rcases rK.1 this with h|h
  .omega
  .exact h
 .have:v.x*(u.x*w.y-u.y*w.x)=0:=by grind
  rcases rK.1 this with h|h
  .omega
  .exact h
def IK{p q:V}(h:p≠q):sub q p≠⟨0,0⟩:=by intro h';apply h;cases p;cases q;simp only[sub,V.mk.injEq]at*;omega
def sc(s t:S):MeetIs s t (dN s t):=by
 unfold dN;by_cases hv:(bQ s&&bQ t)=true
 .have hs:bQ s=true:=by simp at hv;exact hv.1
  have ht:bQ t=true:=by simp at hv;exact hv.2
  rw[if_neg (by rw[hv];simp)];by_cases hd:cross (sub s.b s.a) (sub t.b t.a)≠0
  .rw[if_pos hd];exact Vh s t hs ht hd
  .rw[if_neg hd];have hd0:cross (sub s.b s.a) (sub t.b t.a)=0:=by omega
   have hnv:∀k,(bQ s&&bQ t)=false->k=(0:Int):=by intro k h;rw[hv]at h;cases h
   have hside:¬(bT s.a s.b t.a*bT s.a s.b t.b<0/\bT t.a t.b s.a*bT t.a t.b s.b<0):=by
    rintro⟨h,_⟩;unfold bT at h;rw[yG]at h;have e:cross (sub s.b s.a) (sub t.b s.a)=cross (sub s.b s.a) (sub t.a s.a)+cross (sub s.b s.a) (sub t.b t.a):=by simp only[cross,sub];grind
    omega
   have allone:∀z,(∀p,p∈[s.a,s.b,t.a,t.b]->cM s t p->p=z)->cM s t z->z∈[s.a,s.b,t.a,t.b]->MeetIs s t 1:=by intro z hz hzo hzm;refine⟨hnv 1,by grind,λ_ _ _=>rfl,by grind,by grind⟩
   have nothing:(∀p,p∈[s.a,s.b,t.a,t.b]->¬cM s t p)->MeetIs s t 0:=by intro h;exact⟨λ_=>rfl,by grind,by grind,by grind,λ_ _ _=>rfl⟩
   by_cases h1:s.a=s.b/\onS t s.a=true
   .rw[if_pos h1];exact allone s.a (λp _ h=>ul h1.1 ((f7 hs).1 h.1).1) ⟨qf hs,h1.2⟩ (by simp)
   .rw[if_neg h1];by_cases h2:t.a=t.b/\onS s t.a=true
    .rw[if_pos h2];exact allone t.a (λp _ h=>ul h2.1 ((f7 ht).1 h.2).1) ⟨h2.2,qf ht⟩ (by simp)
    .rw[if_neg h2];by_cases h3:s.a=s.b\/t.a=t.b\/bT s.a s.b t.a≠0
     .rw[if_pos h3];apply nothing;rintro p hp ⟨hps,hpt⟩;by_cases hsd:s.a=s.b
      .have:=ul hsd ((f7 hs).1 hps).1;grind
      .by_cases htd:t.a=t.b
       .have:=ul htd ((f7 ht).1 hpt).1;grind
       .have h4:bT s.a s.b t.a≠0:=by
         rcases h3 with h|h|h
         .grind
         .grind
         .exact h
        have c1:=((f7 hs).1 hps).2;have c2:=((f7 ht).1 hpt).2;have hv0:=IK htd;have c3:=Dn _ _ _ hd0 c2 hv0;apply h4;unfold bT;rw[oK];have e:cross (sub s.b s.a) (sub t.a s.a)=cross (sub s.b s.a) (sub p s.a)-cross (sub s.b s.a) (sub p t.a):=by simp only[cross,sub];grind
        omega
     .rw[if_neg h3];have hsd:s.a≠s.b:=by grind
      have htd:t.a≠t.b:=by grind
      have hta:cross (sub s.b s.a) (sub t.a s.a)=0:=by
       have:bT s.a s.b t.a=0:=by grind
       unfold bT at this;rwa[oK]at this
      have hl1:∀p,p∈[s.a,s.b,t.a,t.b]->cross (sub s.b s.a) (sub p s.a)=0:=by
       intro p hp;simp only[bc,dM,or_false]at hp;rcases hp with rfl|rfl|rfl|rfl
       .simp[cross,sub]
       .simp only[cross];grind
       .exact hta
       .have e:cross (sub s.b s.a) (sub t.b s.a)=cross (sub s.b s.a) (sub t.a s.a)+cross (sub s.b s.a) (sub t.b t.a):=by simp only[cross,sub];grind
        omega
      have hl2:∀p,p∈[s.a,s.b,t.a,t.b]->cross (sub t.b t.a) (sub p t.a)=0:=by
       intro p hp;have h5:=hl1 p hp;have e:cross (sub s.b s.a) (sub p t.a)=cross (sub s.b s.a) (sub p s.a)-cross (sub s.b s.a) (sub t.a s.a):=by simp only[cross,sub];grind
       have h6:cross (sub s.b s.a) (sub p t.a)=0:=by omega
       have h7:cross (sub t.b t.a) (sub s.b s.a)=0:=by
        have:cross (sub t.b t.a) (sub s.b s.a)= -cross (sub s.b s.a) (sub t.b t.a):=by simp only[cross,sub];grind
        omega
       exact Dn _ _ _ h7 h6 (IK hsd)
      have hlo:leV (loS s) (bw s t)/\leV (loS t) (bw s t)/\(bw s t=loS s\/bw s t=loS t):=by
       unfold bw;cases h:bR (loS s) (loS t)
       .have:=(pY _ _).1 h;simp[this,oO]
       .have h':=(gP _ _).1 h;have:leV (loS s) (loS t):=(vE _ _).elim id (by grind);simp[this,oO]
      have hhi:leV (cD s t) (hiS s)/\leV (cD s t) (hiS t)/\(cD s t=hiS s\/cD s t=hiS t):=by
       unfold cD;cases h:bR (hiS t) (hiS s)
       .have:=(pY _ _).1 h;simp[this,oO]
       .have h':=(gP _ _).1 h;have:leV (hiS t) (hiS s):=(vE _ _).elim id (by grind);simp[this,oO]
      have hmem:∀p,(p=loS s\/p=hiS s\/p=loS t\/p=hiS t)->p∈[s.a,s.b,t.a,t.b] :=by intro p h;have h5:=G6 s;have h6:=G6 t;simp only[bc,dM,or_false];grind
      have hon:∀p,p∈[s.a,s.b,t.a,t.b]->(cM s t p↔leV (bw s t) p/\leV p (cD s t)):=by
       intro p hp;unfold cM;rw[f7 hs,f7 ht,GF s p hsd (hl1 p hp),GF t p htd (hl2 p hp)];constructor
       .grind
       .rintro⟨a1,a2⟩;exact⟨⟨⟨oE hlo.1 a1,oE a2 hhi.1⟩,hl1 p hp⟩,⟨oE hlo.2.1 a1,oE a2 hhi.2.1⟩,hl2 p hp⟩
      have mlo:bw s t∈[s.a,s.b,t.a,t.b] :=hmem _ (by grind);have mhi:cD s t∈[s.a,s.b,t.a,t.b] :=hmem _ (by grind);by_cases h5:dL (bw s t) (cD s t)=0
      .rw[if_pos h5];have e:=(ro _ _).1 h5;refine allone (bw s t) ?_ (by grind) mlo;intro p hp h;have h6:=(hon p hp).1 h;rw[<-e]at h6;exact zX h6.2 h6.1
      .rw[if_neg h5];by_cases h6:dL (bw s t) (cD s t)= -1
       .rw[if_pos h6];have h7:=(gP _ _).1 ((sK _ _).1 h6);have h8:leV (bw s t) (cD s t):=(vE _ _).elim id (by grind);have o1:=(hon _ mlo).2 ⟨oO _,h8⟩;have o2:=(hon _ mhi).2 ⟨h8,oO _⟩;have hne:bw s t≠cD s t:=by grind
        exact⟨by grind,by grind,by grind,by grind,by grind⟩
       .rw[if_neg h6];apply nothing;intro p hp h;have h7:=(hon p hp).1 h;have h8:=oE h7.1 h7.2;have h9:¬bR (bw s t) (cD s t)=true:=λh=>h6 ((sK _ _).2 h);rw[gP]at h9;exact h5 ((ro _ _).2 (zX h8 (by grind)))
 .have hv':(bQ s&&bQ t)=false:=by simpa using hv
  rw[if_pos (by rw[hv'];rfl)];have hv3:¬(bQ s&&bQ t)=true:=by rw[hv'];simp
  refine⟨λ_=>rfl,λp q _ _ _ h1 _=> ?_,by grind,by grind,by grind⟩;exfalso;obtain⟨h1,h2⟩:=h1;unfold onS at h1 h2;grind
def hZ:List V->V->List V
 |[],p=>[p]
 |q::r,p=>if bR q p then q::hZ r p else if q=p then q::r else p::q::r
def je(l:List V):List V:=l.foldl hZ []
def Fa(l:List V)(p x:V):x∈hZ l p↔x=p\/x∈l:=by
 induction l with
 |nil=>simp[hZ]
 |cons q r ih=>
  unfold hZ;grind
def RS(l acc:List V)(x:V):x∈l.foldl hZ acc↔x∈acc\/x∈l:=by
 induction l generalizing acc with
 |nil=>simp
 |cons q r ih=>rw[List.foldl_cons,ih,Fa];grind
def R9(l:List V)(x:V):x∈je l↔x∈l:=by unfold je;rw[RS];simp
def SB{p q r:V}(h1:bR p q=true)(h2:bR q r=true):bR p r=true:=by unfold bR at*;grind
def Rl(p:V):bR p p=false:=by unfold bR;simp
def T5{p q:V}(h1:bR p q=false)(h2:p≠q):bR q p=true:=by rw[gP];intro h;exact h2 (zX h ((pY _ _).1 h1))
def SF(l:List V)(p:V)(h:l.Pairwise (λa b=>bR a b=true)):(hZ l p).Pairwise (λa b=>bR a b=true):=by
 induction l with
 |nil=>simp[hZ]
 |cons q r ih=>
  rw[jv]at h;unfold hZ;split
  .rename_i hq;rw[jv];refine⟨?_,ih h.2⟩;intro x hx;rcases(Fa _ _ _).1 hx with rfl|hx
   .exact hq
   grind
  .split
   .simp_all
   .rename_i hne;have hpq:=T5 (by grind) hne;rw[jv,jv];refine⟨?_,h⟩;intro x hx;rcases bc.1 hx with rfl|hx
    .exact hpq
    .exact SB hpq (h.1 x hx)
def RG(l acc:List V)(h:acc.Pairwise (λa b=>bR a b=true)):(l.foldl hZ acc).Pairwise (λa b=>bR a b=true):=by
 induction l generalizing acc with
 |nil=>exact h
 |cons q r ih=>exact ih _ (SF acc q h)
def RP(l:List V):(je l).Pairwise (λa b=>bR a b=true):=RG l [] List.Pairwise.nil
def xO(s t:S):List V:=[s.a,s.b,t.a,t.b]
def fB(s t:S):List V:=je ((xO s t).filter (λp=>onS s p&&onS t p))
def SA(s t:S)(p:V):p∈fB s t↔p∈xO s t/\cM s t p:=by unfold fB cM;rw[R9,uI];simp
def fD(s:S)(p:V):Int:=if !(bQ s)|| !(bP p 4000)then 0 else bT s.a s.b p
def c9(s t:S):Int:=
 if !(bQ s&&bQ t)then 0
 else if 1<(fB s t).length then 3
 else if(fB s t).length=1 then 1
 else if fD s t.a*fD s t.b<0/\fD t s.a*fD t s.b<0 then 2
 else 0
def XB(s t:S):dN s t=c9 s t:=by
 have h:=sc s t;obtain⟨k,hk⟩:∃k,k=dN s t:=⟨_,rfl⟩;unfold c9;cases hv:(bQ s&&bQ t)with
 |false=>simp[h.none hv]
 |true=>
  have hs:bQ s=true:=by simp at hv;exact hv.1
  have ht:bQ t=true:=by simp at hv;exact hv.2
  have ws:=hs;have wt:=ht;unfold bQ at ws wt;simp only[bv]at ws wt;simp only[Bool.not_true,ng,if_false,fD,hs,ht,ws,wt,Bool.or_self];have hp:=RP ((xO s t).filter (λp=>onS s p&&onS t p));have hm:=SA s t;rw[show je ((xO s t).filter (λp=>onS s p&&onS t p))=fB s t from rfl]at hp;generalize fB s t=l at hp hm;match l,hp,hm with
  |[],_,hm=>
   have hno:∀p,p∈[s.a,s.b,t.a,t.b]->¬cM s t p:=λp hp ho=>by have:=(hm p).2 ⟨hp,ho⟩;cases this
   simp only[iM];by_cases hc:bT s.a s.b t.a*bT s.a s.b t.b<0/\bT t.a t.b s.a*bT t.a t.b s.b<0
   .rw[if_pos hc];exact h.cross hv hno hc
   .rw[if_neg hc];exact h.else_ hv hno hc
  |[z],_,hm=>
   simp only[List.length_singleton];have hz:=(hm z).1 (by simp);refine h.touch hv ?_ ⟨z,hz⟩;intro p q hp hq h1 h2;have e1:=(hm p).2 ⟨hp,h1⟩;have e2:=(hm q).2 ⟨hq,h2⟩;grind
  |z::y::r,hp,hm=>
   simp only[iE];have hz:=(hm z).1 (by simp);have hy:=(hm y).1 (by simp);refine h.over z y hz.1 hy.1 ?_ hz.2 hy.2;intro e;rw[jv]at hp;have:=hp.1 y (by simp);rw[e,Rl]at this;cases this
abbrev bC:=List V
def nth(r:bC)(i:Nat):V:=r.getD i default
def nxt(r:bC)(i:Nat):V:=nth r ((i+1) % r.length)
def prv(r:bC)(i:Nat):V:=nth r ((i+r.length-1) % r.length)
def cy(r:bC)(i:Nat):S:=⟨nth r i,nxt r i⟩
def aQ(r:bC):List S:=if r.length<2 then []else(bM r.length).map (cy r)
def gL(r:bC):Int:=((bM r.length).map λi=>cross (nth r i) (nxt r i)).sum
def near(r:bC):Bool:=r.all λv=>bP v 2000
def dC(r:bC):Bool:=
 decide (3<=r.length)&&decide (r.length<=40)&&near r&&decide (0<gL r)&&
 ((bM r.length).all λi=>bT (prv r i) (nth r i) (nxt r i) !=0)&&
 ((bM r.length).all λi=>(bM r.length).all λk=>decide (k<=i)||k==i+1||(i==0&&k==r.length-1)||dN (cy r i) (cy r k)==0)
def dJ(r:bC):Bool:=
 decide (3<=r.length)&&decide (r.length<=40)&&near r&&
 ((bM r.length).all λi=>bT (nth r i) (nth r ((i+1) % r.length)) (nth r ((i+2) % r.length)) !=0)&&
 ((bM r.length).all λi=>(bM r.length).all λk=>decide (k<=i)||
   (if k=i+1\/(i=0/\k=r.length-1)then c9 (cy r i) (cy r k)==1 else c9 (cy r i) (cy r k)==0))&&
 decide (0<gL r)
def Un(a b c:V):bT a b c=bT b c a:=by unfold bT;simp only[cross,sub];grind
def Fb(s t:S)(hs:bQ s=true)(ht:bQ t=true)(he:s.b=t.a)(hn:bT s.a s.b t.b≠0):dN s t=1:=by
 have h:=sc s t;have hb:cM s t s.b:=⟨Bd hs,by rw[he];exact qf ht⟩;refine h.touch (by grind) ?_ (by grind);have key:∀p,p∈[s.a,s.b,t.a,t.b]->cM s t p->p=s.b:=by
  intro p hp ho;simp only[bc,dM,or_false]at hp;rcases hp with rfl|rfl|rfl|rfl
  .exfalso;apply hn;have:=((f7 ht).1 ho.2).2;rw[Un];unfold bT;rw[oK,he];exact this
  .rfl
  .exact he.symm
  .exfalso;apply hn;have:=((f7 hs).1 ho.1).2;unfold bT;rw[oK];exact this
 grind
def Ty(s t:S):dN s t=dN t s:=by
 have h1:=sc s t;have h2:=sc t s;have hmem:∀p,p∈[s.a,s.b,t.a,t.b] ↔p∈[t.a,t.b,s.a,s.b] :=by intro p;simp only[bc,dM,or_false];grind
 have hob:∀p,cM s t p↔cM t s p:=λp=>And.comm;cases hv:(bQ s&&bQ t)with
 |false=>rw[h1.none hv,h2.none (by grind)]
 |true=>
  have hv':(bQ t&&bQ s)=true:=by rw[Bool.and_comm];exact hv
  by_cases hx:∃p,p∈[s.a,s.b,t.a,t.b]/\cM s t p
  .by_cases hu:∀p q,p∈[s.a,s.b,t.a,t.b]->q∈[s.a,s.b,t.a,t.b]->cM s t p->cM s t q->p=q
   .rw[h1.touch hv hu hx,h2.touch hv' (by grind)];grind
   .have:∃p q,p∈[s.a,s.b,t.a,t.b]/\q∈[s.a,s.b,t.a,t.b]/\p≠q/\cM s t p/\cM s t q:=by apply CW;intro hno;apply hu;intro p q hp hq a b;apply CW;intro hne;grind
    obtain⟨p,q,hp,hq,hne,a,b⟩:=this;rw[h1.over p q hp hq hne a b,h2.over p q ((hmem p).1 hp) ((hmem q).1 hq) hne ((hob p).1 a) ((hob q).1 b)]
  .have hno:∀p,p∈[s.a,s.b,t.a,t.b]->¬cM s t p:=by grind
   have hno':∀p,p∈[t.a,t.b,s.a,s.b]->¬cM t s p:=by grind
   by_cases hc:bT s.a s.b t.a*bT s.a s.b t.b<0/\bT t.a t.b s.a*bT t.a t.b s.b<0
   .rw[h1.cross hv hno hc,h2.cross hv' hno' ⟨hc.2,hc.1⟩]
   .rw[h1.else_ hv hno hc,h2.else_ hv' hno' (by grind)]
def yD{v:V}{m n:Int}(h:bP v m=true)(hmn:m<=n):bP v n=true:=by unfold bP at*;simp only[bv,decide_eq_true_eq]at*;omega
def vT{r:bC}(h:near r=true)(i:Nat)(hi:i<r.length):bP (nth r i) 2000=true:=by unfold near at h;unfold nth;grind
def ph{r:bC}(h:near r=true)(i:Nat)(hi:i<r.length):bQ (cy r i)=true:=by unfold bQ cy nxt;have h2:(i+1) % r.length<r.length:=fg _ (by omega);simp only[bv];exact⟨yD (vT h i hi) (by omega),yD (vT h _ h2) (by omega)⟩
def mS{i n:Nat}(h:i<n):i % n=i:=ni h
def sH{i n:Nat}(h1:n<=i)(h2:i<2*n):i % n=i-n:=by rw[Nat.mod_eq_sub_mod h1,ni (by omega)]
def EJ(r:bC)(hn:3<=r.length):
  ((bM r.length).all λi=>bT (prv r i) (nth r i) (nxt r i) !=0)=((bM r.length).all λi=>bT (nth r i) (nth r ((i+1) % r.length)) (nth r ((i+2) % r.length)) !=0):=by
 rw[mE,dW,dW];constructor
 .intro h i hi;have hi:=dR.1 hi;have:=h ((i+1) % r.length) (dR.2 (fg _ (by omega)));unfold prv nxt at this;by_cases h1:i+1<r.length
  .rw[mS h1]at this|-;have e1:(i+1+r.length-1) % r.length=i:=by rw[show i+1+r.length-1=i+r.length from by omega,sH (by omega) (by omega)];omega
   grind
  .have e0:i+1=r.length:=by omega
   rw[e0,Nat.mod_self]at this|-;have e1:(0+r.length-1) % r.length=i:=by rw[mS (by omega)];omega
   have e2:(i+2) % r.length=(0+1) % r.length:=by rw[sH (by omega) (by omega),mS (by omega)];omega
   grind
 .intro h i hi;have hi:=dR.1 hi;have:=h ((i+r.length-1) % r.length) (dR.2 (fg _ (by omega)));unfold prv nxt;by_cases h1:i=0
  .subst h1;have e1:(0+r.length-1) % r.length=r.length-1:=by rw[mS (by omega)];omega
   have e2:(r.length-1+1) % r.length=0:=by rw[show r.length-1+1=r.length from by omega,Nat.mod_self]
   have e3:(r.length-1+2) % r.length=(0+1) % r.length:=by rw[sH (by omega) (by omega),mS (by omega)];omega
   grind
  .have e1:(i+r.length-1) % r.length=i-1:=by rw[sH (by omega) (by omega)];omega
   have e2:(i-1+1) % r.length=i:=by rw[show i-1+1=i from by omega];exact mS hi
   have e3:i-1+2=i+1:=by omega
   grind
def Ew(r:bC):dC r=dJ r:=by
 unfold dC dJ;by_cases h3:3<=r.length
 case neg=>simp[h3]
 by_cases hn:near r=true
 case neg=>simp[hn]
 rw[EJ r h3];cases ht:((bM r.length).all λi=>bT (nth r i) (nth r ((i+1) % r.length)) (nth r ((i+2) % r.length)) !=0)with
 |false=>simp
 |true=>
  have hpairs:((bM r.length).all λi=>(bM r.length).all λk=>decide (k<=i)||k==i+1||(i==0&&k==r.length-1)||dN (cy r i) (cy r k)==0)=
    ((bM r.length).all λi=>(bM r.length).all λk=>decide (k<=i)||
      (if k=i+1\/(i=0/\k=r.length-1)then c9 (cy r i) (cy r k)==1 else c9 (cy r i) (cy r k)==0)):=by
   have hturn:∀i,i<r.length->bT (nth r i) (nth r ((i+1) % r.length)) (nth r ((i+2) % r.length))≠0:=by intro i hi;rw[dW]at ht;have:=ht i (dR.2 hi);simpa using this
   have hpt:∀i k,i<r.length->k<r.length->(decide (k<=i)||k==i+1||(i==0&&k==r.length-1)||dN (cy r i) (cy r k)==0)=(decide (k<=i)||
     (if k=i+1\/(i=0/\k=r.length-1)then c9 (cy r i) (cy r k)==1 else c9 (cy r i) (cy r k)==0)):=by
    intro i k hi hk;rw[<-XB];by_cases hki:k<=i
    .simp[hki]
    .by_cases h1:k=i+1
     .subst h1;have:=Fb (cy r i) (cy r (i+1)) (ph hn i hi) (ph hn _ hk) (by unfold cy nxt;simp[mS hk]) (by have:=hturn i hi;exact this)
      simp[this]
     .by_cases h2:i=0/\k=r.length-1
      .obtain⟨rfl,rfl⟩:=h2;have e1:(r.length-1+1) % r.length=0:=by rw[show r.length-1+1=r.length from by omega,Nat.mod_self]
       have:=Fb (cy r (r.length-1)) (cy r 0) (ph hn _ hk) (ph hn _ hi) (by unfold cy nxt;grind) (by
        have:=hturn (r.length-1) hk;have e3:(r.length-1+2) % r.length=(0+1) % r.length:=by rw[sH (by omega) (by omega),mS (by omega)];omega
        unfold cy nxt;grind)
       rw[Ty]at this;simp[this]
      .have h3:(i==0&&k==r.length-1)=false:=by rw[<-Bool.not_eq_true,bv,beq_iff_eq,beq_iff_eq];exact h2
       have h4:(k==i+1)=false:=by rw[beq_eq_false_iff_ne];exact h1
       rw[if_neg (by omega),h3,h4];simp
   rw[mE];simp only[dW,dR];constructor
   .grind
   .grind
  grind
structure Pt where
 x:Int
 y:Int
 den:Int
deriving DecidableEq,Inhabited
def toV(p:Pt)(v:V):V:=⟨p.x-v.x*p.den,p.y-v.y*p.den⟩
def fU(s:S)(p:Pt):Int:=cross (sub s.b s.a) (toV p s.a)
def onP(s:S)(p:Pt):Bool:=
 fU s p==0&&(decide (min (toV p s.a).x (toV p s.b).x<=0)&&decide (0<=max (toV p s.a).x (toV p s.b).x))&&(decide (min (toV p s.a).y (toV p s.b).y<=0)&&decide (0<=max (toV p s.a).y (toV p s.b).y))
def iB(s:S)(p:Pt):Bool:=
 (decide (0<=(toV p s.a).y) !=decide (0<=(toV p s.b).y))&&(decide (0<=(toV p s.a).y)==decide (0<fU s p))
def onR(s:S)(p:Pt):Bool:=
 (decide (min s.a.x s.b.x*p.den<=p.x)&&decide (p.x<=max s.a.x s.b.x*p.den)&&decide (min s.a.y s.b.y*p.den<=p.y)&&decide (p.y<=max s.a.y s.b.y*p.den))&&sgn (fU s p)==0
def iA(s:S)(p:Pt):Bool:=
 ((decide (s.a.y*p.den<=p.y)&&decide (p.y<s.b.y*p.den))&&decide (0<sgn (fU s p)))||((decide (s.b.y*p.den<=p.y)&&decide (p.y<s.a.y*p.den))&&decide (sgn (fU s p)<0))
def Gu(a b d:Int)(h:0<=d):min a b*d=min (a*d) (b*d):=by
 rcases Int.le_total a b with h1|h1
 .rw[Int.min_eq_left h1,Int.min_eq_left (jw h1 h)]
 .rw[Int.min_eq_right h1,Int.min_eq_right (jw h1 h)]
def G0(a b d:Int)(h:0<=d):max a b*d=max (a*d) (b*d):=by
 rcases Int.le_total a b with h1|h1
 .rw[Int.max_eq_right h1,Int.max_eq_right (jw h1 h)]
 .rw[Int.max_eq_left h1,Int.max_eq_left (jw h1 h)]
def Y8(s:S)(p:Pt)(h:0<p.den):onP s p=onR s p:=by unfold onP onR toV;rw[Gu _ _ _ (by omega),G0 _ _ _ (by omega),Gu _ _ _ (by omega),G0 _ _ _ (by omega),mE];simp only[bv,decide_eq_true_eq,beq_iff_eq,oK];omega
def Sl(s:S)(p:Pt)(h0:fU s p=0)(ha:(toV p s.a).y<0)(hb:0<=(toV p s.b).y)(_hd:0<p.den):onP s p=true:=by
 have e:fU s p*p.den=(toV p s.a).x*(toV p s.b).y-(toV p s.a).y*(toV p s.b).x:=by unfold fU toV cross sub;grind
 rw[h0,Int.zero_mul]at e;unfold onP;rw[h0];generalize (toV p s.a).x=ax at*;generalize (toV p s.b).x=bx at*;simp only[BEq.rfl,jB,bv,decide_eq_true_eq];have hx:(min ax bx<=0/\0<=max ax bx):=by
  rcases pL 0 ax with h1|h1
  .have h2:bx<=0:=by
    rcases pL 0 bx with h2|h2
    .have p1:=QZ ha h2;have p2:=jA (show 0<=ax by omega) hb;omega
    .exact h2
   omega
  .rcases pL ax 0 with h1|h1
   .have h2:0<=bx:=by
     rcases pL bx 0 with h2|h2
     .have p1:=Int.mul_pos_of_neg_of_neg ha h2;have p2:=jA (show 0<= -ax by omega) hb;grind
     .exact h2
    omega
   .omega
 omega
def YR(s:S)(p:Pt)(h:0<p.den)(ho:onP s p=false):iB s p=iA s p:=by
 have key:(toV p s.a).y<0->0<=(toV p s.b).y->fU s p≠0:=by intro h1 h2 h3;rw[Sl s p h3 h1 h2 h]at ho;cases ho
 unfold iB iA;rw[mE];simp only[bv,jW,decide_eq_true_eq,bne_iff_ne,ne_eq,beq_iff_eq,GW,We,decide_eq_decide];have ey1:(toV p s.a).y=p.y-s.a.y*p.den:=rfl;have ey2:(toV p s.b).y=p.y-s.b.y*p.den:=rfl;omega
def dX(p:Pt)(m:Int):Bool:=decide (1<=p.den)&&decide (p.den<=134217728)&&bP ⟨p.x,p.y⟩ (m*p.den)
def c8(p:Pt):Bool:=dX p 4000&&(bz (bz p.x.natAbs p.y.natAbs) p.den.natAbs==1)
def gA(p:Pt):List S->Bool->Int
 |[],ins=>if ins then 2 else 0
 |s::l,ins=>if onP s p then 1 else gA p l (ins !=iB s p)
def jh(p:Pt):List S->Bool->Int
 |[],ins=>if ins then 2 else 0
 |s::l,ins=>if onR s p then 1 else jh p l (ins !=iA s p)
def Wf(p:Pt)(h:0<p.den)(l:List S)(ins:Bool):gA p l ins=jh p l ins:=by
 induction l generalizing ins with
 |nil=>rfl
 |cons s l ih=>
  unfold gA jh;rw[<-Y8 s p h];cases ho:onP s p with
  |true=>rfl
  |false=>rw[ih,YR s p h ho]
def gq(r:bC)(p:Pt):Int:=if !(dC r)|| !(c8 p)then 0 else gA p (aQ r) false
def dK(r:bC)(p:Pt):Int:=if !(dJ r)|| !(c8 p)then 0 else jh p (aQ r) false
def Uk(r:bC)(p:Pt):gq r p=dK r p:=by
 unfold gq dK;rw[Ew];cases hp:c8 p with
 |false=>simp
 |true=>
  have:0<p.den:=by unfold c8 dX at hp;simp only[bv,decide_eq_true_eq]at hp;omega
  rw[Wf p this]
def bG(v:V):Pt:=⟨v.x,v.y,1⟩
def eJ(r:bC)(v:V):Int:=if !(bP v 4000)then 0 else gq r (bG v)
def iR(r:bC)(v:V):Int:=if !(bP v 8000)then 0 else dK r (bG v)
def DM(v:V):c8 (bG v)=bP v 4000:=by unfold c8 dX bG bP;simp
def EI(r:bC)(v:V):eJ r v=iR r v:=by
 unfold eJ iR;rw[Uk];cases h:bP v 4000 with
 |true=>rw[yD h (by omega)]
 |false=>
  unfold dK;rw[DM,h];simp
structure Shape where
 outer:bC
 holes:List bC
deriving DecidableEq,Inhabited
def dH(s:Shape):List bC:=s.outer::s.holes
def aZ(l:List bC)(i:Nat):bC:=l.getD i []
def f9(a b:bC):Bool:=(aQ a).all λx=>(aQ b).all λy=>dN x y==0
def bJ(r q:bC)(place:Int):Bool:=r.all λv=>eJ q v==place
def ip(s:Shape):Nat:=((dH s).map fh).sum
def iS(s:Shape):Bool:=
 decide (s.holes.length<=6)&&(dH s).all dC&&decide (ip s<=80)&&
 ((bM s.holes.length).all λi=>bJ (aZ s.holes i) s.outer 2&&f9 (aZ s.holes i) s.outer&&
   ((bM i).all λk=>f9 (aZ s.holes i) (aZ s.holes k)&&bJ (aZ s.holes i) (aZ s.holes k) 0&&bJ (aZ s.holes k) (aZ s.holes i) 0))
def gS(a b:bC):Bool:=(aQ a).any λx=>(aQ b).any λy=>c9 x y !=0
def oA(a b:bC):Bool:=a.all λv=>iR b v==2
def jG(a b:bC):Bool:=a.any λv=>iR b v==2
def dU(s:Shape):Bool:=
 decide (s.holes.length<=6)&&dJ s.outer&&
 ((bM s.holes.length).all λi=>dJ (aZ s.holes i)&& !gS (aZ s.holes i) s.outer&&oA (aZ s.holes i) s.outer&&
   ((bM i).all λk=> !gS (aZ s.holes i) (aZ s.holes k)&& !jG (aZ s.holes i) (aZ s.holes k)&& !jG (aZ s.holes k) (aZ s.holes i)))&&
 decide (ip s<=80)
def Rk{s t:S}{p:V}(hp:p∈[s.a,s.b,t.a,t.b])(ho:cM s t p):dN s t≠0:=by
 have h:=sc s t;have hv:(bQ s&&bQ t)=true:=by obtain⟨h1,h2⟩:=ho;unfold onS at h1 h2;simp only[bv]at h1 h2|-;grind
 by_cases hu:∀p q,p∈[s.a,s.b,t.a,t.b]->q∈[s.a,s.b,t.a,t.b]->cM s t p->cM s t q->p=q
 .rw[h.touch hv hu ⟨p,hp,ho⟩];decide
 .have:∃p q,p∈[s.a,s.b,t.a,t.b]/\q∈[s.a,s.b,t.a,t.b]/\p≠q/\cM s t p/\cM s t q:=by apply CW;intro hno;apply hu;intro p q hp hq a b;apply CW;intro hne;grind
  obtain⟨p,q,hp,hq,hne,a,b⟩:=this;rw[h.over p q hp hq hne a b];decide
def EW{r:bC}{s:S}:s∈aQ r↔2<=r.length/\∃i,i<r.length/\s=cy r i:=by unfold aQ;grind
def Gy{r:bC}{v:V}:v∈r↔∃i,i<r.length/\v=nth r i:=by
 unfold nth;constructor
 .intro h;obtain⟨i,hi,e⟩:=iF h;exact⟨i,hi,by grind⟩
 grind
structure VR(r:bC):Prop where
 three:3<=r.length
 most:r.length<=40
 near:near r=true
 gL:0<gL r
 bT:∀i,i<r.length->bT (prv r i) (nth r i) (nxt r i)≠0
 turn':∀i,i<r.length->Geo.bT (nth r i) (nth r ((i+1) % r.length)) (nth r ((i+2) % r.length))≠0
 apart:∀i k,i<k->k<r.length->k≠i+1->¬(i=0/\k=r.length-1)->dN (cy r i) (cy r k)=0
def SN(r:bC):dC r=true↔VR r:=by
 constructor
 .intro h;unfold dC at h;simp only[bv,decide_eq_true_eq,dW,dR]at h;obtain⟨⟨⟨⟨⟨h1,h2⟩,h3⟩,h4⟩,h5⟩,h6⟩:=h;refine⟨h1,h2,h3,h4,by grind,λi hi=> ?_,λi k hik hk h7 h8=> ?_⟩
  .have:=EJ r h1;grind
  grind
 .rintro⟨h1,h2,h3,h4,h5,_,h6⟩;unfold dC;simp only[bv,decide_eq_true_eq,dW,dR];grind
def U8{p:Pt}{l:List S}{ins:Bool}(h:gA p l ins=1):∃s∈l,onP s p=true:=by
 induction l generalizing ins with
 |nil=>unfold gA at h;omega
 |cons s l ih=>
  unfold gA at h;grind
def Sc(p:Pt)(l:List S)(ins:Bool):gA p l ins=0\/gA p l ins=1\/gA p l ins=2:=by
 induction l generalizing ins with
 |nil=>unfold gA;omega
 |cons s l ih=>unfold gA;grind
def RU(r:bC)(v:V):eJ r v=0\/eJ r v=1\/eJ r v=2:=by
 unfold eJ gq;split
 .simp
 .split
  .simp
  .exact Sc _ _ _
def VQ(s:S)(v:V):onP s (bG v)=true↔(eo s v=true/\cross (sub s.b s.a) (sub v s.a)=0):=by unfold onP fU toV bG eo;simp only[Int.mul_one,bv,beq_iff_eq,decide_eq_true_eq];rw[show(⟨v.x-s.a.x,v.y-s.a.y⟩:V)=sub v s.a from rfl];omega
def Ru{r:bC}{v:V}(h:eJ r v=1):∃s∈aQ r,onS s v=true:=by
 unfold eJ gq at h;split at h
 .omega
 .split at h
  .omega
  .rename_i h2;obtain⟨s,hs,ho⟩:=U8 h;refine⟨s,hs,?_⟩;have hv:VR r:=by rw[<-SN];simp at h2;exact h2.1
   obtain⟨_,i,hi,rfl⟩:=EW.1 hs;rw[f7 (ph hv.near i hi)];exact(VQ _ _).1 ho
def RT{a b:bC}(ha:VR a)(h:f9 a b=true){v:V}(hv:v∈a){s:S}(hs:s∈aQ b)(ho:onS s v=true):False:=by obtain⟨i,hi,rfl⟩:=Gy.1 hv;have hm:cy a i∈aQ a:=EW.2 ⟨by have:=ha.three;omega,i,hi,rfl⟩;unfold f9 at h;rw[dW]at h;have h1:=h _ hm;rw[dW]at h1;refine Rk (s:=cy a i) (t:=s) (p:=nth a i) (by simp[cy]) ⟨?_,ho⟩ (by grind);exact qf (s:=cy a i) (ph ha.near i hi)
def oc{a b:bC}(ha:VR a)(h:f9 a b=true):bJ a b 0= !jG a b:=by
 unfold bJ jG;rw[List.not_any_eq_all_not,mE];simp only[dW];constructor
 .intro h1 v hv;rw[<-EI];grind
 .intro h1 v hv;have:=h1 v hv;rw[<-EI]at this;rcases RU b v with e|e|e
  .rw[e];rfl
  .exfalso;obtain⟨s,hs,ho⟩:=Ru e;exact RT ha h hv hs ho
  grind
def sG{l:List bC}{i:Nat}(h:i<l.length):aZ l i∈l:=by unfold aZ;grind
def Vd{l:List bC}{r:bC}(h:r∈l):∃i,i<l.length/\r=aZ l i:=by obtain⟨i,hi,e⟩:=iF h;exact⟨i,hi,by unfold aZ;grind⟩
def bl(r:bC):Nat->Nat
 |0=>0
 |n+1=>if bR (nth r n) (nth r (bl r n))then n else bl r n
def fK(r:bC):Nat:=bl r r.length
def dO(r:bC):bC:=r.drop (fK r)++r.take (fK r)
def yU(r:bC)(n:Nat)(h:0<n):bl r n<n:=by
 induction n with
 |zero=>omega
 |succ n ih=>
  unfold bl;split
  .omega
  .rcases nj n with rfl|h0
   .simp[bl]
   omega
def ut(r:bC)(n i:Nat)(hi:i<n):leV (nth r (bl r n)) (nth r i):=by
 induction n with
 |zero=>omega
 |succ n ih=>
  unfold bl;split
  .rename_i h;have h:=(gP _ _).1 h;have h':leV (nth r n) (nth r (bl r n)):=(vE _ _).elim id (by grind);by_cases e:i=n
   .subst e;exact oO _
   .exact oE h' (ih (by omega))
  .rename_i h;have h:=(pY _ _).1 (by simpa using h);grind
def Ra(r:bC)(n i:Nat)(hi:i<bl r n):bR (nth r (bl r n)) (nth r i)=true:=by
 induction n with
 |zero=>simp[bl]at hi
 |succ n ih=>
  unfold bl at hi|-;split
  .rename_i h;rw[if_pos h]at hi;rw[gP];have h1:=(gP _ _).1 h;intro h2;exact h1 (oE (ut r n i hi) h2)
  grind
def D7{r:bC}(h:0<r.length):fK r<r.length:=yU r _ h
def TD(r:bC):(dO r).Perm r:=by refine List.perm_append_comm.trans ?_;simp_all
def DS(r:bC):(dO r).length=r.length:=(TD r).length_eq
def A5(s:Shape):List S:=(dH s).flatMap aQ
def k9:List bC->bC->List bC
 |[],h=>[h]
 |q::l,h=>if bR (nth q 0) (nth h 0)then q::k9 l h else h::q::l
def tT(l:List bC):List bC:=l.foldl k9 []
def oi(s:Shape):Shape:=⟨dO s.outer,tT (s.holes.map dO)⟩
def UA(l:List bC)(h:bC):(k9 l h).Perm (h::l):=by
 induction l with
 |nil=>exact List.Perm.refl _
 |cons q l ih=>
  unfold k9;grind
def RL(l acc:List bC):(l.foldl k9 acc).Perm (acc++l):=by
 induction l generalizing acc with
 |nil=>simp
 |cons q l ih=>
  refine(ih _).trans ?_;refine((UA acc q).append_right l).trans ?_;grind
def SY(l:List bC):(tT l).Perm l:=by unfold tT;have:=RL l [];grind
def lj(p:Pt):List bC->Int->Int
 |[],w=>w
 |h::l,w=>if dK h p=2 then 0 else if dK h p=1 then 1 else lj p l w
def jd(s:Shape)(p:Pt):Int:=if !(dU s)then 0 else lj p s.holes (dK s.outer p)
def Gq{v:List V}{i:Nat}(h:i<v.length):nth v i∈v:=Gy.2 ⟨i,h,rfl⟩
abbrev Tab:=Nat->Nat->Bool
def nH(r:bC):bC:=if dC r then dO r else []
end Geo
inductive PV where
 |int (k:IntKind) (n:Int)
 |bool (b:Bool)
 |str (s:ByteArray)
 |agg (l:List PV)
 |tup (l:List PV)
 |sl (n:Nat) (cells:List PV)
 |pro (cells:List PV) (off:Nat)
 |fn (f:Fn) (first caps:List PV)
 |junk
deriving Inhabited
abbrev bF:=Nat->Nat->Value->Prop
def eu(vs:List Value):Prop:=∀u∈vs,u.oneCell'=true
mutual
def az(C:bF):PV->Value->Prop
 | .int k n,v=>v= .int k n
 | .bool b,v=>v= .bool b
 | .str s,v=>v= .string s
 | .agg l,v=>∃vs:List Value,v= .agg vs.toArray/\bK C l vs/\eu vs
 | .tup l,v=>∃vs:List Value,v= .tuple vs.toArray/\bK C l vs
 | .sl n cs,v=>∃a c,v= .slice a n c/\n<=c/\(a=none->c=0/\cs=[])/\∀ad,a=some ad->(0<n->ad.spot=none)/\cc C cs ad.block ad.off
 | .pro cs off,v=>∃b o,v= .pointer (some ⟨b,o+off,none⟩)/\cc C cs b o
 | .fn f l1 l2,v=>∃vs1 vs2:List Value,v= .func f vs1.toArray vs2.toArray/\bK C l1 vs1/\bK C l2 vs2
 | .junk,_=>True
def bK(C:bF):List PV->List Value->Prop
 |[],vs=>vs=[]
 |x::l,vs=>∃v r,vs=v::r/\az C x v/\bK C l r
def cc(C:bF):List PV->Nat->Nat->Prop
 |[],_,_=>True
 |x::l,b,o=>(∃v,C b o v/\v.oneCell'=true/\az C x v)/\cc C l b (o+1)
end
section
variable {C C':bF}
mutual
theorem az.mono(h:∀b o v,C b o v->C' b o v):∀(x:PV) (v:Value),az C x v->az C' x v
 | .int ..,v,hx=>by exact hx
 | .bool ..,v,hx=>by exact hx
 | .str ..,v,hx=>by exact hx
 | .agg l,v,hx=>by obtain⟨vs,h1,h2,h3⟩:=hx;exact⟨vs,h1,bK.mono h l vs h2,h3⟩
 | .tup l,v,hx=>by obtain⟨vs,h1,h2⟩:=hx;exact⟨vs,h1,bK.mono h l vs h2⟩
 | .sl n cs,v,hx=>by
   obtain⟨a,c,h1,h2,h3,h4⟩:=hx;exact⟨a,c,h1,h2,h3,λad e=>⟨(h4 ad e).1,cc.mono h cs _ _ (h4 ad e).2⟩⟩
 | .pro cs off,v,hx=>by obtain⟨b,o,h1,h2⟩:=hx;exact⟨b,o,h1,cc.mono h cs _ _ h2⟩
 | .fn f l1 l2,v,hx=>by obtain⟨a,b,h1,h2,h3⟩:=hx;exact⟨a,b,h1,bK.mono h l1 a h2,bK.mono h l2 b h3⟩
 | .junk,v,hx=>by trivial
theorem bK.mono(h:∀b o v,C b o v->C' b o v):∀(l:List PV) (vs:List Value),bK C l vs->bK C' l vs
 |[],vs,hx=>by exact hx
 |x::l,vs,hx=>by obtain⟨v,r,h1,h2,h3⟩:=hx;exact⟨v,r,h1,az.mono h x v h2,bK.mono h l r h3⟩
theorem cc.mono(h:∀b o v,C b o v->C' b o v):∀(l:List PV) (b o:Nat),cc C l b o->cc C' l b o
 |[],b,o,hx=>by trivial
 |x::l,b,o,hx=>by
  obtain⟨⟨v,h1,h2,h3⟩,h4⟩:=hx;exact⟨⟨v,h _ _ _ h1,h2,az.mono h x v h3⟩,cc.mono h l b (o+1) h4⟩
end
def bK.length:∀(l:List PV) (vs:List Value),bK C l vs->vs.length=l.length
 |[],vs,h=>by subst h;rfl
 |x::l,vs,h=>by obtain⟨v,r,rfl,_,h3⟩:=h;simp[bK.length l r h3]
def bK.get:∀(l:List PV) (vs:List Value),bK C l vs->∀(i:Nat) x,l[i]? =some x->∃v,vs[i]? =some v/\az C x v
 |[],vs,h,i,x,hi=>by simp at hi
 |y::l,vs,h,0,x,hi=>by unfold bK at h;grind
 |y::l,vs,h,i+1,x,hi=>by
  obtain⟨v,r,rfl,h2,h3⟩:=h;exact bK.get l r h3 i x (by grind)
def bK.of:∀(l:List PV) (vs:List Value),vs.length=l.length->(∀(i:Nat) x,l[i]? =some x->∃v,vs[i]? =some v/\az C x v)->bK C l vs
 |[],vs,hl,h=>by unfold bK;grind
 |y::l,[],hl,h=>by simp at hl
 |y::l,v::r,hl,h=>by
  obtain⟨v',h1,h2⟩:=h 0 y rfl;simp at h1;subst h1;exact⟨v,r,rfl,h2,bK.of l r (by grind) (λi x hi=>h (i+1) x (by grind))⟩
def cc.get:∀(l:List PV) (b o:Nat),cc C l b o->∀(i:Nat) x,l[i]? =some x->∃v,C b (o+i) v/\v.oneCell'=true/\az C x v
 |[],b,o,h,i,x,hi=>by simp at hi
 |y::l,b,o,h,0,x,hi=>by unfold cc at h;grind
 |y::l,b,o,h,i+1,x,hi=>by
  have:=cc.get l b (o+1) h.2 i x (by grind);grind
def cc.of:∀(l:List PV) (b o:Nat),(∀(i:Nat) x,l[i]? =some x->∃v,C b (o+i) v/\v.oneCell'=true/\az C x v)->cc C l b o
 |[],b,o,h=>by trivial
 |y::l,b,o,h=>by
  refine⟨h 0 y rfl,cc.of l b (o+1) (λi x hi=> ?_)⟩;have:=h (i+1) x (by grind);grind
def cc.drop{l:List PV}{b o:Nat}(h:cc C l b o)(k:Nat):cc C (l.drop k) b (o+k):=
 cc.of _ _ _ λi x hi=>by rw[uK]at hi;have:=cc.get l b o h (k+i) x hi;grind
def cc.take{l:List PV}{b o:Nat}(h:cc C l b o)(k:Nat):cc C (l.take k) b o:=
 cc.of _ _ _ λi x hi=>by
  rw[pM]at hi;split at hi
  .exact cc.get l b o h i x hi
  .cases hi
end
inductive AV where
 |any
 |undef
 |nil
 |p (x:PV)
 |ptr (s off:Nat)
 |own (s o n:Nat)
 |agg (l:List AV)
 |tup (l:List AV)
 |fn (f:Fn) (first caps:List AV)
 |mp (s:Nat)
deriving Inhabited
abbrev Ren:=Nat->Option (Option Nat×Nat)
mutual
def aR(ρ:Ren)(C:bF):AV->Value->Prop
 | .any,_=>True
 | .undef,v=>v=Go.undef
 | .nil,v=>v= .slice none 0 0
 | .p x,v=>az C x v
 | .ptr s off,v=>∃b c,ρ s=some (some b,c)/\v= .pointer (some ⟨b,off,none⟩)
 | .own s o n,v=>∃q c,ρ s=some (q,c)/\((q=none/\v= .slice none 0 0/\n=0/\o=0)\/∃b o' c',q=some b/\v= .slice (some ⟨b,o',none⟩) n c'/\n<=c'/\(n≠0->o'=o)/\(o=0->o'=0/\c'=c))
 | .agg l,v=>∃vs:List Value,v= .agg vs.toArray/\ak ρ C l vs/\eu vs
 | .tup l,v=>∃vs:List Value,v= .tuple vs.toArray/\ak ρ C l vs
 | .fn f l1 l2,v=>∃vs1 vs2:List Value,v= .func f vs1.toArray vs2.toArray/\ak ρ C l1 vs1/\ak ρ C l2 vs2
 | .mp s,v=>∃c,ρ s=some (none,c)/\v= .map (some c)
def ak(ρ:Ren)(C:bF):List AV->List Value->Prop
 |[],vs=>vs=[]
 |x::l,vs=>∃v r,vs=v::r/\aR ρ C x v/\ak ρ C l r
end
section
variable {C C':bF} {ρ ρ':Ren}
mutual
theorem aR.mono(hr:∀s q,ρ s=some q->ρ' s=some q)(h:∀b o v,C b o v->C' b o v):∀(x:AV) (v:Value),aR ρ C x v->aR ρ' C' x v
 | .any,v,hx=>by trivial
 | .undef,v,hx=>by exact hx
 | .nil,v,hx=>by exact hx
 | .p x,v,hx=>by exact az.mono h x v hx
 | .ptr ..,v,hx=>by unfold aR at*;grind
 | .own ..,v,hx=>by unfold aR at*;grind
 | .agg l,v,hx=>by obtain⟨vs,h1,h2,h3⟩:=hx;exact⟨vs,h1,ak.mono hr h l vs h2,h3⟩
 | .tup l,v,hx=>by obtain⟨vs,h1,h2⟩:=hx;exact⟨vs,h1,ak.mono hr h l vs h2⟩
 | .fn f l1 l2,v,hx=>by obtain⟨a,b,h1,h2,h3⟩:=hx;exact⟨a,b,h1,ak.mono hr h l1 a h2,ak.mono hr h l2 b h3⟩
 | .mp s,v,hx=>by unfold aR at*;grind
theorem ak.mono(hr:∀s q,ρ s=some q->ρ' s=some q)(h:∀b o v,C b o v->C' b o v):∀(l:List AV) (vs:List Value),ak ρ C l vs->ak ρ' C' l vs
 |[],vs,hx=>by exact hx
 |x::l,vs,hx=>by obtain⟨v,r,h1,h2,h3⟩:=hx;exact⟨v,r,h1,aR.mono hr h x v h2,ak.mono hr h l r h3⟩
end
def ak.length:∀(l:List AV) (vs:List Value),ak ρ C l vs->vs.length=l.length
 |[],vs,h=>by subst h;rfl
 |x::l,vs,h=>by obtain⟨v,r,rfl,_,h3⟩:=h;simp[ak.length l r h3]
def ak.get:∀(l:List AV) (vs:List Value),ak ρ C l vs->∀(i:Nat) x,l[i]? =some x->∃v,vs[i]? =some v/\aR ρ C x v
 |[],vs,h,i,x,hi=>by simp at hi
 |y::l,vs,h,0,x,hi=>by unfold ak at h;grind
 |y::l,vs,h,i+1,x,hi=>by
  obtain⟨v,r,rfl,h2,h3⟩:=h;exact ak.get l r h3 i x (by grind)
def ak.of:∀(l:List AV) (vs:List Value),vs.length=l.length->(∀(i:Nat) x,l[i]? =some x->∃v,vs[i]? =some v/\aR ρ C x v)->ak ρ C l vs
 |[],vs,hl,h=>by unfold ak;grind
 |y::l,[],hl,h=>by simp at hl
 |y::l,v::r,hl,h=>by
  obtain⟨v',h1,h2⟩:=h 0 y rfl;simp at h1;subst h1;exact⟨v,r,rfl,h2,ak.of l r (by grind) (λi x hi=>h (i+1) x (by grind))⟩
end
structure Ob where
 ty:TypeId
 esz:Nat
 cells:List AV
deriving Inhabited
def ai(C0:bF)(B:Nat)(w:World)(ρ:Ren)(g:Nat->Option Ob):bF:=λb o v=>w.cell? ⟨b,o,none⟩=some v/\(∀s c,ρ s=some (some b,c)->g s=none)/\(B<=b\/C0 b o v)
structure ObRep(ρ:Ren)(C:bF)(w:World)(b c:Nat)(ob:Ob)(arr:Array Value):Prop where
 blk:w.heap[b]? =some (.cells arr ob.ty (0,0))
 box:ob.esz=0->arr.size=ob.cells.length
 row:ob.esz≠0->arr.size=c*ob.esz/\ob.cells.length<=arr.size/\c<=maxLen
 cells:∀(i:Nat) x,ob.cells[i]? =some x->∃v,arr[i]? =some v/\v.oneCell'=true/\aR ρ C x v
def wq(B:Nat)(w:World)(c:Nat)(vs:List Value):Prop:=∃r since seen c0 es clock cur,B<=r/\w.heap[r]? =some (.mapIter (some c) since seen c0)/\w.heap[c]? =some (.map es clock)/\(∀x∈es.toList,x.born<since)/\(since<=c0/\since<=clock)/\(es.toList.map (·.born)).Nodup/\
 ((∃e∈es.toList,∃sn:Array Nat,seen=sn.push e.born/\c0=clock/\cur= .tuple #[e.key,e.val])\/cur=Go.undef)/\vs= .pointer (some ⟨r,0,none⟩)::cur:: .map (some c)::((es.filter λe=> !seen.contains e.born).toList.flatMap λe=>[e.key,e.val])
def ss(C0:bF)(B:Nat)(ρ:Ren)(C:bF)(w:World)(c:Nat)(o:Ob):Prop:=
 (o.ty=0/\(∀(i:Nat) x,o.cells[i]? =some x->∀v,C0 B i v->aR ρ C x v)/\∀i v,C0 B i v->i<o.cells.length)\/
 (o.ty=1/\B<=c/\∃es clock,w.heap[c]? =some (.map es clock)/\(es.toList.map (·.born)).Nodup/\(∀x∈es.toList,x.born<clock)/\ak ρ C o.cells (es.toList.flatMap λe=>[e.key,e.val]))\/
 (o.ty=2/\B<=c/\∃vs,wq B w c vs/\ak ρ C o.cells vs)
abbrev qo(w:World)(c:Nat):Prop:=∃ob,w.heap[c]? =some ob/\∀a t q,ob≠ .cells a t q
def mC(o:Ob)(c:Nat)(o':Ob)(c':Nat):Prop:=(o.ty≠0/\o'.ty≠0/\c=c')\/(o.ty=0/\o'.ty=0)
def mC.symm{o:Ob}{c:Nat}{o':Ob}{c':Nat}(h:mC o c o' c'):mC o' c' o c:=by
 rcases h with⟨h1,h2,h3⟩|⟨h1,h2⟩
 .exact .inl (by grind)
 .exact .inr ⟨h2,h1⟩
structure StR(C0:bF)(ρ:Ren)(g:Nat->Option Ob)(w:World)(B:Nat):Prop where
 ob:∀s o,g s=some o->∃q c,ρ s=some (q,c)/\((q=none/\((o.esz≠0/\o.cells=[]/\c=0)\/(o.esz=0/\ss C0 B ρ (ai C0 B w ρ g) w c o)))\/∃b arr,q=some b/\B<=b/\ObRep ρ (ai C0 B w ρ g) w b c o arr)
 inj:∀s s' o o' b c c',g s=some o->g s'=some o'->ρ s=some (some b,c)->ρ s'=some (some b,c')->s=s'
 mpi:∀s s' o o' c c',g s=some o->g s'=some o'->o.esz=0->o'.esz=0->ρ s=some (none,c)->ρ s'=some (none,c')->mC o c o' c'->s=s'
def ObRep.lt{ρ:Ren}{C:bF}{w:World}{b c:Nat}{ob:Ob}{arr:Array Value}(h:ObRep ρ C w b c ob arr):b<w.heap.size:=by
 rcases jC b w.heap.size with hlt|hge
 .exact hlt
 .have:=h.blk;grind
def ObRep.cell{ρ:Ren}{C:bF}{w:World}{b c:Nat}{ob:Ob}{arr:Array Value}(h:ObRep ρ C w b c ob arr)(i:Nat):w.cell? ⟨b,i,none⟩=arr[i]? :=cell_of_row w b i arr ob.ty (0,0) h.blk
def StR.at{C0:bF}{ρ:Ren}{g:Nat->Option Ob}{w:World}{B s b c:Nat}{o:Ob}(h:StR C0 ρ g w B)(hg:g s=some o)(hr:ρ s=some (some b,c)):B<=b/\∃arr,ObRep ρ (ai C0 B w ρ g) w b c o arr:=by obtain⟨q,c',h1,h2⟩:=h.ob s o hg;grind
structure GrD where
 n:Nat
 os:Array Obj
instance:Nonempty GrD:=⟨⟨0, #[]⟩⟩
def grD(w:World)(n:Nat)(os:Array Obj):World:={w with heap:=w.heap++os,drawn:=n}
def Ro{w w':World}(h:Below w.heap.size w w'):∃p:GrD,w'=grD w p.n p.os:=by
 refine⟨⟨w'.drawn,w'.heap.extract w.heap.size w'.heap.size⟩,?_⟩;obtain⟨h1,h2,h3,h4,h5⟩:=h;have hh:w'.heap=w.heap++w'.heap.extract w.heap.size w'.heap.size:=by
  apply Array.ext_getElem?;intro i;by_cases hi:i<w.heap.size
  .grind
  .grind
 unfold grD;cases w';grind
def Blk(w:World)(g:Nat)(t:TypeId)(cs:Array Value):Prop:=w.heap[g]? =some (.cells cs t (0,0))
section
variable {w w':World} {g:Nat} {t:TypeId} {cs:Array Value}
def Blk.lt(h:Blk w g t cs):g<w.heap.size:=by
 rcases jC g w.heap.size with hlt|hge
 .exact hlt
 .unfold Blk at h;grind
def Blk.cell(h:Blk w g t cs)(i:Nat):w.cell? ⟨g,i,none⟩=cs[i]? :=cell_of_row w g i cs t (0,0) h
def Blk.frozen(h:Blk w g t cs)(i:Nat):w.frozen? ⟨g,i,none⟩=false:=by unfold Blk at h;simp[World.frozen?,h]
def Blk.new(w:World)(t:TypeId)(cs:Array Value):Blk (w.alloc (.cells cs t)) w.heap.size t cs:=heap_alloc_new w _
def Blk.alloc(h:Blk w g t cs)(o:Obj):Blk (w.alloc o) g t cs:=(Below.heap_alloc w o g h.lt).trans h
def Blk.l7(h:Blk w g t cs)(i:Nat)(u:Value):Blk (w.setCell ⟨g,i,none⟩ u) g t (cs.setIfInBounds i u):=by unfold Blk at h|-;simp[World.setCell,xb,h]
def Blk.far(h:Blk w g t cs){p:Addr}(hp:g≠p.block)(u:Value):Blk (w.setCell p u) g t cs:=(Below.heap_setCell w p u g hp).trans h
def Blk.below{B:Nat}(h:Blk w g t cs)(hb:Below B w w')(hg:g<B):Blk w' g t cs:=(hb.block g hg).trans h
def Blk.iX(h:Blk w g t cs)(hb:Below w.heap.size w w'):Blk w' g t cs:=h.below hb h.lt
end
def TG{P:Program}{ops:Array Oper}{Q:Exit->Act->World->Prop}
  (hac:∀(i:Nat) (o:Oper),ops[i]? =some o->∀e∈o.after.toList,iN .any e=true->e.on<i)
  (Inv:(Nat->Bool)->Act->World->Prop)
  (hstep:∀(i:Nat) (o:Oper) (D:Nat->Bool) (a:Act) (w:World),ops[i]? =some o->Inv D a w->D i=false->(∀e∈o.after.toList,iN .any e=true->D e.on=true)->
    wpOp P ops Q i (λa' w'=>Inv (λj=>if j=i then true else D j) a' w') a w)
  (hend:∀(D:Nat->Bool) (a:Act) (w:World),Inv D a w->(∀i,i<ops.size->D i=true)->Q .normal a w):
  ∀(fuel:Nat) (L:Array Bool) (a:Act) (w:World),L.size=ops.size->L.toList.count false<=fuel->Inv (λj=>L.getD j false) a w->wpAny P .any ops Q fuel L a w:=by
 have key:∀(L:Array Bool),L.size=ops.size->xd .any ops L=[]->∀i,i<ops.size->L.getD i false=true:=by
  intro L hL hr i;induction i using Nat.strongRecOn with
  |ind i ih=>
   intro hi;rcases Qa (L.getD i false)with h|h
   .exact h
   .have hmem:i∈xd .any ops L:=by
     unfold xd;rw[uI];refine⟨dR.2 hi,?_⟩;have h1:L.getD i true=false:=by rw[fN,rL (by omega)]at h|-;exact h
     obtain⟨o,ho⟩:∃o,ops[i]? =some o:=⟨_,rL hi⟩;rw[h1,ho];simp only[Bool.not_false,jB,dm,mF];rw[Array.all_eq_true'];intro e he;rcases Qa (iN .any e)with hb|hb
     .grind
     .rw[hb];rfl
    grind
 intro fuel;induction fuel with
 |zero=>
  intro L a w hL hc hI;have hall:∀i,i<ops.size->L.getD i false=true:=by
   intro i hi;rcases Qa (L.getD i false)with h|h
   .exact h
   .exfalso;have h0:L.toList.count false=0:=by omega
    rw[List.count_eq_zero]at h0;rw[fN,rL (by omega)]at h;grind
  refine⟨?_,by grind⟩;unfold xd;simp_all
 |succ fuel ih=>
  intro L a w hL hc hI;refine⟨by grind,?_⟩;intro i hi;unfold xd at hi;rw[uI]at hi;obtain⟨hi1,hi2⟩:=hi;have hlt:=dR.1 hi1;obtain⟨o,ho⟩:∃o,ops[i]? =some o:=by grind
  rw[ho]at hi2;simp only[dm,mF,bv,Qb]at hi2;obtain⟨hf,hall⟩:=hi2;have hLi:L[i]? =some false:=by rw[fN,rL (by omega)]at hf;rw[rL (by omega)];simpa using hf
  have hD:L.getD i false=false:=by rw[fN,hLi];rfl
  have hpre:∀e∈o.after.toList,iN .any e=true->L.getD e.on false=true:=by intro e he hb;rw[Array.all_eq_true']at hall;have:=hall e (Array.mem_toList_iff.1 he);rw[hb]at this;simpa using this
  refine wpOp_mono ?_ (hstep i o _ a w ho hI hD hpre);intro a' w' hI';refine ih (L.setIfInBounds i true) a' w' (by grind) ?_ ?_
  .grind
  .have e:(λj=>(L.setIfInBounds i true).getD j false)=(λj=>if j=i then true else L.getD j false):=by
    funext j
    rw[fN,fN,pN];by_cases h:i=j
    .grind
    .grind
   grind
def RN{P:Program}{ops:Array Oper}{Q:Exit->Act->World->Prop}{a0:Act}{w0:World}
  (hac:∀(i:Nat) (o:Oper),ops[i]? =some o->∀e∈o.after.toList,iN .any e=true->e.on<i)
  (Inv:(Nat->Bool)->Act->World->Prop) (h0:Inv (λ_=>false) a0 w0.drew)
  (hstep:∀(i:Nat) (o:Oper) (D:Nat->Bool) (a:Act) (w:World),ops[i]? =some o->Inv D a w->D i=false->(∀e∈o.after.toList,iN .any e=true->D e.on=true)->
    wpOp P ops Q i (λa' w'=>Inv (λj=>if j=i then true else D j) a' w') a w)
  (hend:∀(D:Nat->Bool) (a:Act) (w:World),Inv D a w->(∀i,i<ops.size->D i=true)->Q .normal a w):
  wpAny P .any ops Q ops.size (kS ops.size false) a0 w0.drew:=by
 refine(TG hac Inv hstep hend _ _ _ _ (by simp) ?_ ?_)
 .simp
 .have e:(λj=>(kS ops.size false).getD j false)=(λ_=>false):=by
   funext j
   rw[fN,xe];split<;>rfl
  grind
def bE(V:Nat->Value):Operand->Value
 | .tmp t=>V t
 | .const v=>v
 | .global g=> .pointer (some ⟨g,0,none⟩)
 | .func f=> .func (.func f) #[] #[]
def cS(P:Program)(o:Oper)(V:Nat->Value)(w:World)(K:Value->World->Prop):Prop:=
 match(execOp (bE V) o).run P w with
 | .ok (.value v) w'=>K v w'
 | .ok .skip w'=>K undef w'
 | .ok (.enter f args) w'=>Calls P f args w' λe w''=>∃v,e= .returned v/\K v w''
 |_=>False
def jg(a0:Act)(dsts:List Nat)(V:Nat->Value):Act:=dsts.foldl (λa s=>a.put (some s) (V s)) a0
def x9(V:Nat->Value):∀(dsts:List Nat) (a0:Act),(∀s∈dsts,s<a0.tmps.size)->
  (jg a0 dsts V).defers=a0.defers/\(jg a0 dsts V).tmps.size=a0.tmps.size/\∀s,s<a0.tmps.size->(jg a0 dsts V).tmps.getD s undef=if s∈dsts then V s else a0.tmps.getD s undef
 |[],a0,_=>⟨rfl,rfl,λs _=>by simp[jg]⟩
 |d::dsts,a0,h=>by
  have hs:(a0.put (some d) (V d)).tmps.size=a0.tmps.size:=by simp[kT]
  obtain⟨h1,h2,h3⟩:=x9 V dsts (a0.put (some d) (V d)) (by grind);refine⟨h1,h2.trans hs,?_⟩;intro s hlt;have:=h3 s (by omega);show(jg (a0.put (some d) (V d)) dsts V).tmps.getD s undef=_;rw[this];by_cases hm:s∈dsts
  .grind
  .by_cases e:s=d
   .subst e;simp[kT,hlt]
   .simp only[kT,fN,pN];grind
def Act.eval_evalV(a:Act):a.eval=bE (λs=>a.tmps.getD s undef):=by
 funext x
 cases x<;>rfl
def gdV(ops:Array Oper)(V:Nat->Value)(j:Nat):Option Bool:=
 match(ops[j]?).bind (·.dst)with
 |some d=>(match V d with| .bool b=>some b|_=>none)
 |none=>none
def DU(ops:Array Oper)(t:Array Value):yielded ops t=gdV ops (λs=>t.getD s undef):=by
 funext j
 unfold yielded gdV;cases h:(ops[j]?).bind (·.dst)with
 |none=>rfl
 |some d=>
  simp only[kU,fN];cases ht:t[d]? with
  |none=>rfl
  |some v=>grind
def Rg{P:Program}{ops:Array Oper}{Q:Exit->Act->World->Prop}{a0:Act}{w0:World}
  (dsts:List Nat)
  (hok:((bM ops.size).all λi=>((ops[i]?).map λo=>(o.after.toList.all λe=> !iN .any e||decide (e.on<i))&&(match o.dst with|some d=>dsts.contains d|none=>true)).getD true)=true)
  (hds:∀s∈dsts,s<a0.tmps.size)
  (F:(Nat->Bool)->(Nat->Value)->World->Prop) (h0:F (λ_=>false) (λs=>a0.tmps.getD s undef) w0.drew)
  (hstep:∀(i:Nat) (o:Oper) (D:Nat->Bool) (V:Nat->Value) (w:World),ops[i]? =some o->F D V w->D i=false->(∀e∈o.after.toList,iN .any e=true->D e.on=true)->
    (∀s,s∉dsts->V s=a0.tmps.getD s undef)->
    if gl o (gdV ops V)=true then
     cS P o V w (λv w'=>F (λj=>if j=i then true else D j) (match o.dst with|some d=>λs=>if s=d then v else V s|none=>V) w')
    else F (λj=>if j=i then true else D j) (match o.dst with|some d=>λs=>if s=d then undef else V s|none=>V) w)
  (hend:∀(D:Nat->Bool) (V:Nat->Value) (w:World),F D V w->(∀i,i<ops.size->D i=true)->Q .normal (jg a0 dsts V) w):
  wpAny P .any ops Q ops.size (kS ops.size false) a0 w0.drew:=by
 have hops:∀(i:Nat) (o:Oper),ops[i]? =some o->(∀e∈o.after.toList,iN .any e=true->e.on<i)/\(∀d,o.dst=some d->d∈dsts):=by
  intro i o ho;have hi:i<ops.size:=by grind
  rw[dW]at hok;have:=hok i (dR.2 hi);rw[ho]at this;simp only[dm,mF,bv]at this;obtain⟨g2,g3⟩:=this;refine⟨?_,?_⟩
  .grind
  .grind
 refine RN (by grind) (λD a w=>a.defers=a0.defers/\a.tmps.size=a0.tmps.size/\(∀s,s∉dsts->a.tmps.getD s undef=a0.tmps.getD s undef)/\F D (λs=>a.tmps.getD s undef) w) (by grind) ?_ ?_
 .intro i o D a w ho ⟨i1,i2,i3,i4⟩ hD hpre;obtain⟨_,hdst⟩:=hops i o ho;have hrun:=hstep i o D (λs=>a.tmps.getD s undef) w ho i4 hD hpre i3;have hput:∀(v:Value) (w':World),F (λj=>if j=i then true else D j) (match o.dst with|some d=>λs=>if s=d then v else a.tmps.getD s undef|none=>λs=>a.tmps.getD s undef) w'->
    (a.put o.dst v).defers=a0.defers/\(a.put o.dst v).tmps.size=a0.tmps.size/\(∀s,s∉dsts->(a.put o.dst v).tmps.getD s undef=a0.tmps.getD s undef)/\F (λj=>if j=i then true else D j) (λs=>(a.put o.dst v).tmps.getD s undef) w':=by
   intro v w' hF;cases hd:o.dst with
   |none=>rw[hd]at hF;exact⟨i1,i2,i3,hF⟩
   |some d=>
    have hdm:=hdst d hd;have hget:∀s,(a.put (some d) v).tmps.getD s undef=if s=d then v else a.tmps.getD s undef:=by
     intro s;simp only[kT,fN,pN];by_cases e:d=s
     .grind
     .grind
    refine⟨i1,by simpa[kT]using i2,?_,?_⟩
    .intro s hs;rw[hget,if_neg (by grind)];exact i3 s hs
    .have e:(λs=>(a.put (some d) v).tmps.getD s undef)=(λs=>if s=d then v else a.tmps.getD s undef):=funext hget;grind
  unfold wpOp;rw[ho];simp only[];rw[DU];by_cases hw:gl o (gdV ops λs=>a.tmps.getD s undef)=true
  .rw[if_pos hw]at hrun|-;refine .inl ?_;unfold Oper.wp;rw[Act.eval_evalV];unfold cS at hrun;cases hr:(execOp (bE λs=>a.tmps.getD s undef) o).run P w with
   |halt x w'=>grind
   |ok n w'=>
    rw[hr]at hrun;cases n<;>simp only[]at hrun<;>first|exact hrun.elim|skip
    .exact hput _ _ hrun
    .exact hput _ _ hrun
    .rename_i f args;refine hrun.mono ?_;rintro e w'' ⟨v,rfl,hK⟩;exact hput _ _ hK
  .rw[if_neg hw]at hrun|-;exact hput _ _ hrun
 .intro D a w ⟨i1,i2,i3,i4⟩ hall;obtain⟨p1,p2,p3⟩:=x9 (λs=>a.tmps.getD s undef) dsts a0 hds;have e:jg a0 dsts (λs=>a.tmps.getD s undef)=a:=by
   obtain⟨t,df⟩:=a;have ht:(jg a0 dsts (λs=>t.getD s undef)).tmps=t:=by
    apply Array.ext
    .rw[p2];exact i2.symm
    .intro s h1 h2;have h3:=p3 s (by grind);rw[fN,rL h1,mF]at h3;rw[h3];by_cases hm:s∈dsts
     .rw[if_pos hm];simp[fN,h2]
     .rw[if_neg hm,<-i3 s hm];simp[fN,h2]
   have hdf:(jg a0 dsts (λs=>t.getD s undef)).defers=df:=p1.trans i1.symm;show jg a0 dsts (λs=>t.getD s undef)={tmps:=t,defers:=df};cases hp:jg a0 dsts (λs=>t.getD s undef)with
   |mk t' df'=>
    grind
  grind
def Rt{P:Program}{id:Nat}{ops:Array Oper}{Q:Exit->Act->World->Prop}{a0:Act}{w0:World}(hm:P.follows .mixedOrders=true)
  (dsts:List Nat)
  (hok:((bM ops.size).all λi=>((ops[i]?).map λo=>(o.after.toList.all λe=> !iN .any e||decide (e.on<i))&&(match o.dst with|some d=>dsts.contains d|none=>true)).getD true)=true)
  (hds:∀s∈dsts,s<a0.tmps.size)
  (F:(Nat->Bool)->(Nat->Value)->World->Prop) (h0:F (λ_=>false) (λs=>a0.tmps.getD s undef) w0.drew)
  (hstep:∀(i:Nat) (o:Oper) (D:Nat->Bool) (V:Nat->Value) (w:World),ops[i]? =some o->F D V w->D i=false->(∀e∈o.after.toList,iN .any e=true->D e.on=true)->
    (∀s,s∉dsts->V s=a0.tmps.getD s undef)->
    if gl o (gdV ops V)=true then
     cS P o V w (λv w'=>F (λj=>if j=i then true else D j) (match o.dst with|some d=>λs=>if s=d then v else V s|none=>V) w')
    else F (λj=>if j=i then true else D j) (match o.dst with|some d=>λs=>if s=d then undef else V s|none=>V) w)
  (hend:∀(D:Nat->Bool) (V:Nat->Value) (w:World),F D V w->(∀i,i<ops.size->D i=true)->Q .normal (jg a0 dsts V) w):
  (CX id ops true).wp P Q a0 w0:=
 wp_region_any hm (Rg dsts hok hds F h0 hstep hend)
def aX(g:Nat->Option Ob)(W:List (Nat×Option Ob)):Nat->Option Ob:=λs=>match W.lookup s with|some x=>x|none=>g s
@[simp] def y7 (g : Nat → Option Ob) : aX g [] = g := rfl
def iV:Value->AV
 | .int k n=> .p (.int k n)
 | .bool b=> .p (.bool b)
 | .string s=> .p (.str s)
 | .slice none 0 0=> .nil
 |_=> .any
def EE{ρ:Ren}{C:bF}(v:Value):aR ρ C (iV v) v:=by unfold iV;split<;>(unfold aR;try unfold az)<;>first|rfl|trivial
def pZ{ρ:Ren}{C:bF}:∀(vs:List Value),ak ρ C (vs.map iV) vs
 |[] =>by rfl
 |v::vs=>by exact⟨v,vs,rfl,EE v,pZ vs⟩
def bJ:List AV->Option (List PV)
 |[] =>some []
 | .p x::l=>(bJ l).map (x:: ·)
 |_::_=>none
def dt(l:List AV):AV:=match bJ l with|some q=> .p (.agg q)|none=> .agg l
def mq{ρ:Ren}{C:bF}:∀{l:List AV} {q:List PV} {vs:List Value},bJ l=some q->ak ρ C l vs->bK C q vs
 |[],q,vs,h,hr=>by simp[bJ]at h;subst h;exact hr
 |x::l,q,vs,h,hr=>by
  unfold bJ at h;split at h
  .grind
  .rename_i y l' e;cases e;simp only[iO]at h;obtain⟨r,h1,rfl⟩:=h;obtain⟨v,vs',rfl,h2,h3⟩:=hr;exact⟨v,vs',rfl,h2,mq h1 h3⟩
  .cases h
def vB{ρ:Ren}{C:bF}{l:List AV}{vs:List Value}(h:ak ρ C l vs)(h1:eu vs):aR ρ C (dt l) (.agg vs.toArray):=by
 unfold dt;split
 .rename_i q hq;exact⟨vs,rfl,mq hq h,h1⟩
 .unfold aR;grind
def bK.toA{ρ:Ren}{C:bF}:∀{l:List PV} {vs:List Value},bK C l vs->ak ρ C (l.map .p) vs
 |[],vs,h=>by exact h
 |x::l,vs,h=>by
  obtain⟨v,r,rfl,h2,h3⟩:=h;exact⟨v,r,rfl,by exact h2,bK.toA h3⟩
def oT:Value->AV
 | .agg cs=>if cs.toList.all (·.oneCell')=true then dt (cs.toList.map iV)else .any
 | .tuple vs=>if vs.toList=[]then .undef else .any
 |v=>iV v
def R7{ρ:Ren}{C:bF}(v:Value):aR ρ C (oT v) v:=by
 unfold oT;split
 .split
  .rename_i cs h;have:=vB (pZ (ρ:=ρ) (C:=C) cs.toList) (λu hu=>by grind);omega
  .trivial
 .split
  .unfold aR Go.undef;simp_all
  .trivial
 .exact EE v
def dA(F:List AV):Operand->AV
 | .tmp t=>F.getD t .any
 | .const v=>oT v
 | .func f=> .p (.fn (.func f) [] [])
 | .global _=> .any
def ag(P:Program)(t:TypeId):Nat:=((P.info? t).map (·.size)).getD 0
def fm(P:Program)(t:TypeId):Bool:=match P.underlying t with|some (.struct _)|some (.array _ _)=>true|_=>false
def tok(P:Program)(t:TypeId):Bool:=(P.info? t).isSome&&(P.underlying t).isSome
def lu(P:Program)(t:TypeId):Option (List AV):=(P.info? t).bind λi=>i.zero.map λz=>z.cells.toList.map iV
def ko(P:Program)(t:TypeId):Bool:=((P.info? t).bind λi=>i.zero.map λz=>z.cells.toList.all (·.oneCell')&&z.cells.size==i.size).getD false
def bm(P:Program)(t:TypeId):Option TypeId:=match P.underlying t with|some (.slice e)=>some e|_=>none
def nV(P:Program)(t:TypeId):Option (Nat×TypeId):=match P.underlying t with|some (.array n e)=>some (n,e)|_=>none
def Bv(P:Program)(t:TypeId):Option IntKind:=match P.underlying t with|some (.int k)=>some k|_=>none
def mB(P:Program)(t:TypeId)(f:Nat):Option (Nat×TypeId):=match P.underlying t with
 |some (.struct fs)=>(fs[f]?).bind λx=>if ag P x.type=0 then none else some (x.offset,x.type)
 |_=>none
def uB:Nat->Nat->Nat
 |0,_=>0
 |f+1,s=>if s % 2=0 then uB f (s/2)+1 else 0
def cls(s:Nat):Nat:=uB s s
def sit(n i:Nat):Nat:=2^n*(2*i+1)
def GD(i:Nat):∀(n f:Nat),n<f->uB f (sit n i)=n
 |0,f+1,_=>by unfold uB sit;grind
 |n+1,f+1,h=>by
  have e:sit (n+1) i=2*sit n i:=by unfold sit;rw[Nat.pow_succ,uL (2^n) 2,Nat.mul_assoc]
  unfold uB;rw[e,if_pos (by omega),Nat.mul_div_cancel_left _ (by decide),GD i n f (by omega)]
def fL(n i:Nat):cls (sit n i)=n:=GD i n _ (by unfold sit;have h1:n<2^n:=Nat.lt_two_pow_self;grind)
abbrev Res:=AV->List Nat->List (Nat×Option Ob)->Prop
def a7(P:Program)(o:Oper)(E:Operand->AV)(σ:Nat->Option Ob)(n:Nat)(r:AV)(R:List Nat)(W:List (Nat×Option Ob)):Prop:=
 ∀(C0:bF) (ρ:Ren) (g:Nat->Option Ob) (V:Nat->Value) (w:World) (B:Nat),StR C0 ρ g w B->B<=w.heap.size->(∀s∈R,g s=σ s)->(∀s,cls s=n->ρ s=none)->(∀s,cls s=n->g s=none)->
  (∀x∈o.op.operands.toList,aR ρ (ai C0 B w ρ g) (E x) (bE V x))->
  cS P o V w λv w'=>∃ρ':Ren,(∀s,cls s≠n->ρ' s=ρ s)/\(∀b o' x,ai C0 B w ρ g b o' x->ai C0 B w' ρ' (aX g W) b o' x)/\
   StR C0 ρ' (aX g W) w' B/\aR ρ' (ai C0 B w' ρ' (aX g W)) r v/\Below B w w'
def a7.pure{P:Program}{o:Oper}{E:Operand->AV}{σ:Nat->Option Ob}{n:Nat}{r:AV}{R:List Nat}
  (h:∀(C0:bF) (ρ:Ren) (g:Nat->Option Ob) (V:Nat->Value) (w:World) (B:Nat),StR C0 ρ g w B->(∀s∈R,g s=σ s)->(∀x∈o.op.operands.toList,aR ρ (ai C0 B w ρ g) (E x) (bE V x))->
    cS P o V w λv w'=>w'=w/\aR ρ (ai C0 B w ρ g) r v):a7 P o E σ n r R [] :=by
 intro C0 ρ g V w B hs hB hR hn hg hE;have:=h C0 ρ g V w B hs hR hE;have hmono':∀(K K':Value->World->Prop),(∀v w,K v w->K' v w)->cS P o V w K->cS P o V w K':=by
  intro K K' hk h;unfold cS at h|-;split at h
  .grind
  .grind
  .exact h.mono (by grind)
  .exact h.elim
 refine hmono' _ _ ?_ this;rintro v w' ⟨rfl,hr⟩;exact⟨ρ,λ_ _=>rfl,λ_ _ _ h=>h,hs,hr,Below.refl _ _⟩
def Bh(P:Program)(t:TypeId)(cs:List PV)(off:Nat)(K:PV->Prop):Prop:=
 tok P t=true/\if fm P t=true then∃l,(cs.drop off).take (ag P t)=l/\l.length=ag P t/\K (.agg l)else∃x,cs[off]? =some x/\K x
def nM(P:Program)(t:TypeId)(cs:List AV)(off:Nat)(K:AV->Prop):Prop:=
 tok P t=true/\if fm P t=true then∃l,(cs.drop off).take (ag P t)=l/\l.length=ag P t/\K (dt l)else∃x,cs[off]? =some x/\K x
def DF{P:Program}(w:World)(b o:Nat)(t:TypeId)(ht:tok P t=true)(vs:List Value)(v:Value)
  (h:if fm P t=true then vs.length=ag P t/\w.rangeAt b o vs/\v= .agg vs.toArray else w.cell? ⟨b,o,none⟩=some v):
  (xg t (.pointer (some ⟨b,o,none⟩))).run P w= .ok v w:=by
 unfold tok at ht;simp only[bv,lJ]at ht;obtain⟨⟨i,hi⟩,d,hd⟩:=ht;cases hg:fm P t with
 |true=>
  rw[hg,if_pos rfl]at h;obtain⟨h1,h2,rfl⟩:=h;refine run_loadAt_mid w b o t vs d h2 hd ?_ ?_
  .unfold fm at hg;grind
  .rw[h1];unfold ag;rw[hi];rfl
 |false=>
  rw[hg]at h;simp only[ng,if_false]at h;have:(isAgg t).run P w= .ok false w:=by unfold isAgg;rw[bi,run_underlying hd w];unfold fm at hg;rw[hd]at hg;cases d<;>simp_all
  simp[xg,xh,loadVar,this,h,load,Sem.run]
def T2{P:Program}{o:Oper}{E:Operand->AV}{σ:Nat->Option Ob}{n:Nat}{t:TypeId}{x:Operand}(ho:o.op= .load t x){cs:List PV}{off:Nat}(hx:E x= .p (.pro cs off)){K:PV->Prop}
  (h:Bh P t cs off K):∃r,a7 P o E σ n (.p r) [] []/\K r:=by
 obtain⟨ht,h⟩:=h;have key:∀(r:PV),(∀(C:bF) (w:World) (b oo:Nat),(∀b o v,C b o v->w.cell? ⟨b,o,none⟩=some v)->cc C cs b oo->∃v vs,(if fm P t=true then vs.length=ag P t/\w.rangeAt b (oo+off) vs/\v= .agg vs.toArray else w.cell? ⟨b,oo+off,none⟩=some v)/\az C r v)->
   a7 P o E σ n (.p r) [] [] :=by
  intro r hr;refine a7.pure ?_;intro C0 ρ g V w B hs _ hE;have h1:=hE x (by rw[ho];simp[cA]);rw[hx]at h1;unfold aR az at h1;obtain⟨b,oo,he,hc⟩:=h1;obtain⟨v,vs,h2,h3⟩:=hr _ w b oo (λb o v hh=>hh.1) hc;have:=DF (P:=P) w b (oo+off) t ht vs v h2;unfold cS execOp;simp only[ho,he,bi,this,bq,cF];exact⟨trivial,by exact h3⟩
 split at h
 .rename_i hg;obtain⟨l,hl,hlen,hK⟩:=h;refine⟨_,key _ ?_,hK⟩;intro C w b oo hC hc;have hc2:=(hc.drop off).take (ag P t);rw[hl]at hc2;have:∀m,∀l':List PV,l'.length=m->∀o',cc C l' b o'->∃vs:List Value,vs.length=m/\w.rangeAt b o' vs/\bK C l' vs/\eu vs:=by
   intro m;induction m with
   |zero=>intro l' h0 o' _;refine⟨[],rfl,(λj v hj=>by simp at hj),?_⟩;rw[ig.1 h0];exact⟨by rfl,λu hu=>by cases hu⟩
   |succ m ih=>
    intro l' h1 o' h2;cases l' with
    |nil=>simp at h1
    |cons y l'=>
     obtain⟨⟨v,h3,h6,h4⟩,h5⟩:=h2;obtain⟨vs,g1,g2,g3,g4⟩:=ih l' (by grind) (o'+1) h5;refine⟨v::vs,by simp[g1],?_,?_,λu hu=>by rcases bc.1 hu with rfl|hu;exact h6;exact g4 u hu⟩
     .intro j u hj;cases j with
      |zero=>grind
      |succ j=>have:=g2 j u (by grind);grind
     .unfold bK;grind
  obtain⟨vs,g1,g2,g3,g4⟩:=this _ l rfl _ hc2;refine⟨_,vs,?_,by exact⟨vs,rfl,g3,g4⟩⟩;grind
 .obtain⟨y,hy,hK⟩:=h;refine⟨y,key _ ?_,hK⟩;intro C w b oo hC hc;obtain⟨v,h1,_,h2⟩:=cc.get cs b oo hc off y hy;refine⟨v,[],?_,h2⟩;grind
def Ea{P:Program}{t:TypeId}{ob:Ob}{off:Nat}{K:AV->Prop}(h:nM P t ob.cells off K):∃r,K r/\∀(ρ:Ren) (C:bF) (w:World) (b c:Nat) (arr:Array Value),ObRep ρ C w b c ob arr->
  ∃v,(xg t (.pointer (some ⟨b,off,none⟩))).run P w= .ok v w/\aR ρ C r v:=by
 obtain⟨ht,h⟩:=h;have key:∀(r:AV),(∀(ρ:Ren) (C:bF) (w:World) (b c:Nat) (arr:Array Value),ObRep ρ C w b c ob arr->∃v vs,(if fm P t=true then vs.length=ag P t/\w.rangeAt b off vs/\v= .agg vs.toArray else w.cell? ⟨b,off,none⟩=some v)/\aR ρ C r v)->
   ∀(ρ:Ren) (C:bF) (w:World) (b c:Nat) (arr:Array Value),ObRep ρ C w b c ob arr->∃v,(xg t (.pointer (some ⟨b,off,none⟩))).run P w= .ok v w/\aR ρ C r v:=by
  intro r hr ρ C w b c arr h3;obtain⟨v,vs,h4,h5⟩:=hr _ _ w b c arr h3;exact⟨v,DF (P:=P) w b off t ht vs v h4,h5⟩
 split at h
 .rename_i hg;obtain⟨l,hl,hlen,hK⟩:=h;refine⟨_,hK,key _ ?_⟩;intro ρ C w b c arr hc;have:∀m,∀l':List AV,l'.length=m->∀o',(∀(i:Nat) x,l'[i]? =some x->∃v,arr[o'+i]? =some v/\v.oneCell'=true/\aR ρ C x v)->∃vs:List Value,vs.length=m/\w.rangeAt b o' vs/\ak ρ C l' vs/\eu vs:=by
   intro m;induction m with
   |zero=>intro l' h0 o' _;refine⟨[],rfl,(λj v hj=>by simp at hj),?_⟩;rw[ig.1 h0];exact⟨by rfl,λu hu=>by cases hu⟩
   |succ m ih=>
    intro l' h1 o' h2;cases l' with
    |nil=>simp at h1
    |cons y l'=>
     obtain⟨v,h3,h6,h4⟩:=h2 0 y rfl;obtain⟨vs,g1,g2,g3,g4⟩:=ih l' (by grind) (o'+1) (λi x hi=>by have:=h2 (i+1) x (by grind);grind)
     refine⟨v::vs,by simp[g1],?_,?_,λu hu=>by rcases bc.1 hu with rfl|hu;exact h6;exact g4 u hu⟩
     .intro j u hj;cases j with
      |zero=>simp at hj;subst hj;rw[hc.cell];exact h3
      |succ j=>have:=g2 j u (by grind);grind
     .unfold ak;grind
  obtain⟨vs,g1,g2,g3,g4⟩:=this _ l rfl off (λi x hi=>hc.cells _ x (by grind))
  refine⟨_,vs,?_,vB g3 g4⟩;grind
 .rename_i hg;obtain⟨y,hy,hK⟩:=h;refine⟨y,hK,key _ ?_⟩;intro ρ C w b c arr hc;obtain⟨v,h1,_,h2⟩:=hc.cells off y hy;refine⟨v,[],?_,h2⟩;rw[if_neg hg,hc.cell];exact h1
def T3{P:Program}{o:Oper}{E:Operand->AV}{σ:Nat->Option Ob}{n:Nat}{t:TypeId}{x:Operand}(ho:o.op= .load t x){s off:Nat}(hx:E x= .ptr s off){ob:Ob}(hob:σ s=some ob){K:AV->Prop}
  (h:nM P t ob.cells off K):∃r,a7 P o E σ n r [s] []/\K r:=by
 obtain⟨r,hK,hr⟩:=Ea h;refine⟨r,a7.pure ?_,hK⟩;intro C0 ρ g V w B hs hR hE;have h1:=hE x (by rw[ho];simp[cA]);rw[hx]at h1;obtain⟨b,c,he,hv⟩:=h1;obtain⟨_,arr,h3⟩:=hs.at ((hR s (by simp)).trans hob) he;obtain⟨v,h4,h5⟩:=hr _ _ w b c arr h3;unfold cS execOp;simp_all
section
variable {P:Program} {o:Oper} {E:Operand->AV} {σ:Nat->Option Ob} {n:Nat}
def a7.val{r:AV}(h:∀(ρ:Ren) (C:bF) (V:Nat->Value) (w:World),(∀x∈o.op.operands.toList,aR ρ C (E x) (bE V x))->
  ∃v,(execOp (bE V) o).run P w= .ok (.value v) w/\aR ρ C r v):a7 P o E σ n r [] [] :=by
 refine a7.pure ?_;intro C0 ρ g V w B _ _ hE;obtain⟨v,h1,h2⟩:=h ρ _ V w hE;unfold cS;grind
def zN{x:Operand}(ho:o.op= .move x\/o.op= .assign x):a7 P o E σ n (E x) [] [] :=by refine a7.val ?_;intro ρ C V w hE;have h1:=hE x (by rcases ho with ho|ho<;>rw[ho] <;>simp[cA]);refine⟨bE V x,?_,h1⟩;rcases ho with ho|ho<;>(unfold execOp;rw[ho];rfl)
def UM{x:Operand}(ho:o.op= .move x\/o.op= .assign x)(hx:E x= .nil):a7 P o E σ n (.p (.sl 0 [])) [] [] :=by
 refine a7.val ?_;intro ρ C V w hE;have h1:=hE x (by rcases ho with ho|ho<;>rw[ho] <;>simp[cA]);rw[hx]at h1;refine⟨bE V x,?_,?_⟩
 .rcases ho with ho|ho<;>(unfold execOp;rw[ho];rfl)
 .rw[h1];unfold aR az;grind
def qZ(c a b:AV)(K:AV->Prop):Prop:=match c with
 | .p (.bool t)=>K (if t=true then a else b)
 |_=>False
def VL{c a b:Operand}(ho:o.op= .pick c a b){K:AV->Prop}(h:qZ (E c) (E a) (E b) K):∃r,a7 P o E σ n r [] []/\K r:=by
 unfold qZ at h;have key:∀t:Bool,E c= .p (.bool t)->a7 P o E σ n (if t=true then E a else E b) [] [] :=by
  intro t ht;refine a7.val ?_;intro ρ C V w hE;have h1:=hE c (by rw[ho];simp[cA]);have h2:=hE a (by rw[ho];simp[cA]);have h3:=hE b (by rw[ho];simp[cA]);rw[ht]at h1;unfold aR az at h1;refine⟨if t then bE V a else bE V b,?_,?_⟩
  .unfold execOp;rw[ho];simp[h1,asBool]
  .grind
 grind
def xF(x:AV):Bool:=match x with
 | .ptr .. =>true
 | .p (.pro ..)=>true
 | .fn (.func _) .. =>true
 | .p (.fn (.func _) ..)=>true
 |_=>false
def Gt{x:Operand}(ho:o.op= .nilCheck x)(h:xF (E x)=true):a7 P o E σ n (E x) [] [] :=by
 refine a7.val ?_;intro ρ C V w hE;have h1:=hE x (by rw[ho];simp[cA]);refine⟨bE V x,?_,h1⟩;unfold execOp;rw[ho];unfold xF at h;split at h
 .rename_i e;rw[e]at h1;obtain⟨b,c,_,h1⟩:=h1;simp[h1]
 .rename_i e;rw[e]at h1;obtain⟨b,c,h1,_⟩:=h1;simp[h1]
 .rename_i e;rw[e]at h1;obtain⟨b,c,h1,_⟩:=h1;simp[h1]
 .rename_i e;rw[e]at h1;obtain⟨b,c,h1,_⟩:=h1;simp[h1]
 .cases h
def eO(l:List Int):List PV:=l.map (.int .i64)
def ou(P:Program)(t:TypeId)(m:Nat):Prop:=∀(xs ys:List Int) (x y:Operand) (w:World),xs.length=m->ys.length=m->
 (do eqGuard .eql t x y (.agg (xs.map (c6 .i64)).toArray) (.agg (ys.map (c6 .i64)).toArray);binOp .eql t (.agg (xs.map (c6 .i64)).toArray) (.agg (ys.map (c6 .i64)).toArray):Sem Value).run P w= .ok (.bool (xs==ys)) w/\
 (do eqGuard .neq t x y (.agg (xs.map (c6 .i64)).toArray) (.agg (ys.map (c6 .i64)).toArray);binOp .neq t (.agg (xs.map (c6 .i64)).toArray) (.agg (ys.map (c6 .i64)).toArray):Sem Value).run P w= .ok (.bool (xs !=ys)) w
def BL(P:Program)(t:TypeId):Bool:=match P.underlying t with|some .bool=>true|_=>false
def ki:List PV->Option (List Int)
 |[] =>some []
 | .int .i64 k::l=>(ki l).map (k:: ·)
 |_=>none
def yV{C:bF}:∀{l:List PV} {xs:List Int} {vs:List Value},ki l=some xs->bK C l vs->vs=xs.map (c6 .i64)
 |[],xs,vs,h,hr=>by simp[ki]at h;subst h;subst hr;rfl
 |x::l,xs,vs,h,hr=>by
  unfold ki at h;split at h
  .grind
  .rename_i k l' e;cases e;simp only[iO]at h;obtain⟨r,h1,rfl⟩:=h;obtain⟨v,vs',rfl,h2,h3⟩:=hr;rw[h2,yV h1 h3];rfl
  .cases h
def DG{t:TypeId}(hu:P.underlying t=some .bool)(a b:Bool)(w:World):(uM t (.bool a) (.bool b)).run P w= .ok (a==b) w:=by unfold uM;rw[show CY=9999+1 from rfl];unfold jX;simp[run_underlying hu]
def qR(op:BinOp)(k:IntKind)(a b:Int)(K:AV->Prop):Prop:=match op with
 | .add=>K (.p (.int k (k.wrap (a+b))))
 | .sub=>K (.p (.int k (k.wrap (a-b))))
 | .mul=>K (.p (.int k (k.wrap (a*b))))
 | .quo=>b≠0/\K (.p (.int k (k.wrap (a.tdiv b))))
 | .rem=>b≠0/\K (.p (.int k (a.tmod b)))
 | .eql=>K (.p (.bool (a==b)))
 | .neq=>K (.p (.bool (a !=b)))
 | .lss=>K (.p (.bool (decide (a<b))))
 | .leq=>K (.p (.bool (decide (a<=b))))
 | .gtr=>K (.p (.bool (decide (b<a))))
 | .geq=>K (.p (.bool (decide (b<=a))))
 | .xor=>K (.p (.int k (k.wrap ((BitVec.ofInt k.bits a^^^BitVec.ofInt k.bits b).toNat:Int))))
 | .and=>K (.p (.int k (k.wrap ((BitVec.ofInt k.bits a&&&BitVec.ofInt k.bits b).toNat:Int))))
 | .or=>K (.p (.int k (k.wrap ((BitVec.ofInt k.bits a|||BitVec.ofInt k.bits b).toNat:Int))))
 | .shr=>0<=b/\K (.p (.int k (a.fdiv (2^min b.toNat k.bits))))
 | .shl=>0<=b/\K (.p (.int k (k.wrap (a*2^min b.toNat k.bits))))
 |_=>False
def rG(P:Program)(op:BinOp)(t:TypeId)(x y:AV)(K:AV->Prop):Prop:=match x,y with
 | .p (.int k a),.p (.int k' b)=>k'=k/\qR op k a b K
 | .p (.bool a),.p (.bool b)=>BL P t=true/\(match op with| .eql=>K (.p (.bool (a==b)))| .neq=>K (.p (.bool (a !=b)))|_=>False)
 | .p (.agg l),.p (.agg m)=>∃xs ys,ki l=some xs/\ki m=some ys/\xs.length=ys.length/\ou P t xs.length/\(match op with| .eql=>K (.p (.bool (xs==ys)))| .neq=>K (.p (.bool (xs !=ys)))|_=>False)
 | .p (.sl _ cs),.nil=>(bm P t).isSome=true/\cs≠[]/\op= .eql/\K (.p (.bool false))
 |_,_=>False
def Xk{op:BinOp}{t t':TypeId}{x y:Operand}(ho:o.op= .binOp op t x y t'){K:AV->Prop}(h:rG P op t (E x) (E y) K):∃r,a7 P o E σ n r [] []/\K r:=by
 have hx:x∈o.op.operands.toList:=by rw[ho];simp[cA]
 have hy:y∈o.op.operands.toList:=by rw[ho];simp[cA]
 unfold rG at h;split at h
 .rename_i k a k' b ea eb;obtain⟨rfl,h⟩:=h;have key:∀r:AV,(∀ρ C,∃v,(∀w:World,(do eqGuard op t x y (.int k' a) (.int k' b);binOp op t (.int k' a) (.int k' b):Sem Value).run P w= .ok v w)/\aR ρ C r v)->a7 P o E σ n r [] [] :=by intro r hr;refine a7.val ?_;intro ρ C V w hE;have h1:=hE x hx;have h2:=hE y hy;rw[ea]at h1;rw[eb]at h2;unfold aR az at h1 h2;obtain⟨v,h3,h4⟩:=hr ρ C;refine⟨v,?_,h4⟩;unfold execOp;rw[ho];simp only[h1,h2,bi (x:=(do eqGuard op t x y (.int k' a) (.int k' b);binOp op t (.int k' a) (.int k' b):Sem Value)),h3,bq,cF]
  unfold qR at h;split at h
  .exact⟨_,key _ λρ C=>⟨.int k' _,λw=>by simp[eqGuard,binOp,CZ];rfl,by rfl⟩,h⟩
  .exact⟨_,key _ λρ C=>⟨.int k' _,λw=>by simp[eqGuard,binOp,CZ];rfl,by rfl⟩,h⟩
  .exact⟨_,key _ λρ C=>⟨.int k' _,λw=>by simp[eqGuard,binOp,CZ];rfl,by rfl⟩,h⟩
  .exact⟨_,key _ λρ C=>⟨.int k' _,λw=>by simp[eqGuard,binOp,Op.intDiv,h.1];rfl,by rfl⟩,h.2⟩
  .exact⟨_,key _ λρ C=>⟨.int k' _,λw=>by simp[eqGuard,binOp,Op.intDiv,h.1];rfl,by rfl⟩,h.2⟩
  .exact⟨_,key _ λρ C=>⟨.bool _,λw=>by simp[eqGuard,binOp,uN];rfl,by rfl⟩,h⟩
  .exact⟨_,key _ λρ C=>⟨.bool _,λw=>by simp[eqGuard,binOp,uN];rfl,by rfl⟩,h⟩
  .exact⟨_,key _ λρ C=>⟨.bool _,λw=>by simp[eqGuard,binOp,uN];rfl,by rfl⟩,h⟩
  .exact⟨_,key _ λρ C=>⟨.bool _,λw=>by simp[eqGuard,binOp,uN];rfl,by rfl⟩,h⟩
  .exact⟨_,key _ λρ C=>⟨.bool _,λw=>by simp[eqGuard,binOp,uN];rfl,by rfl⟩,h⟩
  .exact⟨_,key _ λρ C=>⟨.bool _,λw=>by simp[eqGuard,binOp,uN];rfl,by rfl⟩,h⟩
  .exact⟨_,key _ λρ C=>⟨.int k' _,λw=>by simp[eqGuard,binOp,Op.intBits];rfl,by rfl⟩,h⟩
  .exact⟨_,key _ λρ C=>⟨.int k' _,λw=>by simp[eqGuard,binOp,Op.intBits];rfl,by rfl⟩,h⟩
  .exact⟨_,key _ λρ C=>⟨.int k' _,λw=>by simp[eqGuard,binOp,Op.intBits];rfl,by rfl⟩,h⟩
  .exact⟨_,key _ λρ C=>⟨.int k' _,λw=>by simp only[eqGuard,binOp,Op.shift,bi,cF,bq,if_neg (show¬b<0 by omega)];rfl,by rfl⟩,h.2⟩
  .exact⟨_,key _ λρ C=>⟨.int k' _,λw=>by simp only[eqGuard,binOp,Op.shift,bi,cF,bq,if_neg (show¬b<0 by omega)];rfl,by rfl⟩,h.2⟩
  grind
 .rename_i a b ea eb;obtain⟨ht,h⟩:=h;unfold BL at ht;have hu:P.underlying t=some .bool:=by
   split at ht
   .assumption
   .cases ht
  have key:∀r:AV,(∀ρ C,∃v,(∀w:World,(do eqGuard op t x y (.bool a) (.bool b);binOp op t (.bool a) (.bool b):Sem Value).run P w= .ok v w)/\aR ρ C r v)->a7 P o E σ n r [] [] :=by intro r hr;refine a7.val ?_;intro ρ C V w hE;have h1:=hE x hx;have h2:=hE y hy;rw[ea]at h1;rw[eb]at h2;unfold aR az at h1 h2;obtain⟨v,h3,h4⟩:=hr ρ C;refine⟨v,?_,h4⟩;unfold execOp;rw[ho];simp only[h1,h2,bi (x:=(do eqGuard op t x y (.bool a) (.bool b);binOp op t (.bool a) (.bool b):Sem Value)),h3,bq,cF]
  split at h
  .exact⟨_,key _ λρ C=>⟨.bool _,λw=>by simp only[eqGuard,binOp,DG hu,bi,bq,cF];rfl,by rfl⟩,h⟩
  .exact⟨_,key _ λρ C=>⟨.bool _,λw=>by simp only[eqGuard,binOp,DG hu,bi,bq,cF];rfl,by rfl⟩,h⟩
  grind
 .rename_i l m ea eb;obtain⟨xs,ys,hxs,hys,hlen,hEq,h⟩:=h;have key:∀r:AV,(∀ρ C,∃v,(∀w:World,(do eqGuard op t x y (.agg (xs.map (c6 .i64)).toArray) (.agg (ys.map (c6 .i64)).toArray);binOp op t (.agg (xs.map (c6 .i64)).toArray) (.agg (ys.map (c6 .i64)).toArray):Sem Value).run P w= .ok v w)/\aR ρ C r v)->a7 P o E σ n r [] [] :=by intro r hr;refine a7.val ?_;intro ρ C V w hE;have h1:=hE x hx;have h2:=hE y hy;rw[ea]at h1;rw[eb]at h2;unfold aR az at h1 h2;obtain⟨vs1,h1,r1,_⟩:=h1;obtain⟨vs2,h2,r2,_⟩:=h2;rw[yV hxs r1]at h1;rw[yV hys r2]at h2;obtain⟨v,h3,h4⟩:=hr ρ C;refine⟨v,?_,h4⟩;unfold execOp;rw[ho];simp only[h1,h2,bi (x:=(do eqGuard op t x y (.agg (xs.map (c6 .i64)).toArray) (.agg (ys.map (c6 .i64)).toArray);binOp op t (.agg (xs.map (c6 .i64)).toArray) (.agg (ys.map (c6 .i64)).toArray):Sem Value)),h3,bq,cF]
  split at h
  .exact⟨_,key _ λρ C=>⟨.bool _,λw=>(hEq xs ys x y w rfl hlen.symm).1,by rfl⟩,h⟩
  .exact⟨_,key _ λρ C=>⟨.bool _,λw=>(hEq xs ys x y w rfl hlen.symm).2,by rfl⟩,h⟩
  grind
 .rename_i m cs ea eb;obtain⟨ht,hcs,rfl,h⟩:=h;obtain⟨e,hu⟩:∃e,P.underlying t=some (.slice e):=by unfold bm at ht;grind
  refine⟨_,a7.val ?_,h⟩;intro ρ C V w hE;have h1:=hE x hx;have h2:=hE y hy;rw[ea]at h1;rw[eb]at h2;unfold aR at h1 h2;obtain⟨a,c,h1,_,h3,_⟩:=h1;obtain⟨ad,rfl⟩:∃ad,a=some ad:=by
   cases a with
   |none=>grind
   |some ad=>grind
  refine⟨.bool false,?_,by rfl⟩;unfold execOp;rw[ho];have h4:∀w:World,(jX (9999+1) t (.slice (some ad) m c) (.slice none 0 0)).run P w= .ok false w:=λw=>by generalize 9999=D;simp only[jX,bi,run_underlying hu,bq,cF]
  have h5:∀w:World,(binOp .eql t (.slice (some ad) m c) (.slice none 0 0)).run P w= .ok (.bool false) w:=λw=>by have:=h4 w;simp only[binOp,uM,CY,bi,this,bq];rfl
  simp only[h1,h2,eqGuard,bi,h5,bq,cF];try rfl
 grind
def unA(op:UnOp)(x:AV)(K:AV->Prop):Prop:=match op,x with
 | .not,.p (.bool b)=>K (.p (.bool !b))
 | .neg,.p (.int k a)=>K (.p (.int k (k.wrap (0-a))))
 |_,_=>False
def Xp{op:UnOp}{t:TypeId}{x:Operand}(ho:o.op= .unOp op t x){K:AV->Prop}(h:unA op (E x) K):∃r,a7 P o E σ n r [] []/\K r:=by
 have hx:x∈o.op.operands.toList:=by rw[ho];simp[cA]
 unfold unA at h;split at h
 .rename_i b e;refine⟨_,a7.val ?_,h⟩;intro ρ C V w hE;have h1:=hE x hx;rw[e]at h1;unfold aR az at h1;exact⟨.bool !b,by unfold execOp;rw[ho];simp[h1,Op.unary],by rfl⟩
 .rename_i k a e;refine⟨_,a7.val ?_,h⟩;intro ρ C V w hE;have h1:=hE x hx;rw[e]at h1;unfold aR az at h1;exact⟨_,by unfold execOp;rw[ho];simp only[h1,Op.unary,CZ];rfl,by rfl⟩
 grind
def wg(P:Program)(src dst:TypeId)(x:AV)(K:AV->Prop):Prop:=match x with
 | .p (.int _ a)=>(P.underlying src).isSome=true/\∃k,Bv P dst=some k/\K (.p (.int k (k.wrap a)))
 |_=>False
def V6{src dst:TypeId}{x:Operand}(ho:o.op= .convert src dst x){K:AV->Prop}(h:wg P src dst (E x) K):∃r,a7 P o E σ n r [] []/\K r:=by
 have hx:x∈o.op.operands.toList:=by rw[ho];simp[cA]
 unfold wg at h;split at h
 .rename_i k0 a e;obtain⟨hs,k,hk,h⟩:=h;obtain⟨d,hs⟩:=lJ.1 hs;have hd:P.underlying dst=some (.int k):=by
   unfold Bv at hk;split at hk
   .grind
   .cases hk
  refine⟨_,a7.val ?_,h⟩;intro ρ C V w hE;have h1:=hE x hx;rw[e]at h1;unfold aR az at h1;refine⟨_,?_,by rfl⟩;unfold execOp;rw[ho];simp only[h1,convert,bi,run_underlying hs,run_underlying hd,bq,Conv.intToInt,cF]
 grind
def Vc{f:Fn}{first caps:Array Operand}(ho:o.op= .makeFunc f first caps):a7 P o E σ n (.fn f (first.toList.map E) (caps.toList.map E)) [] [] :=by
 refine a7.val ?_;intro ρ C V w hE;refine⟨.func f (first.map (bE V)) (caps.map (bE V)),?_,?_⟩
 .unfold execOp;rw[ho];rfl
 .have key:∀l:List Operand,(∀x∈l,aR ρ C (E x) (bE V x))->ak ρ C (l.map E) (l.map (bE V)):=by
   intro l;induction l with
   |nil=>intro _;rfl
   |cons x l ih=>
    unfold ak;grind
  refine⟨first.toList.map (bE V),caps.toList.map (bE V),?_,key _ λx hx=>hE x ?_,key _ λx hx=>hE x ?_⟩
  .congr 1<;>(apply kV.1;simp)
  .rw[ho];simp only[cA,Array.toList_append,eA];exact .inl hx
  .rw[ho];simp only[cA,Array.toList_append,eA];exact .inr hx
def A2(P:Program)(t:TypeId)(f:Nat)(x:AV)(K:AV->Prop):Prop:=∃q,mB P t f=some q/\match x with
 | .ptr s off=>K (.ptr s (off+q.1))
 | .p (.pro cs off)=>K (.p (.pro cs (off+q.1)))
 |_=>False
def Fr{t:TypeId}{f:Nat}{q:Nat×TypeId}(h:mB P t f=some q)(w:World)(b off:Nat):
  (Instr.fieldAt t (.pointer (some ⟨b,off,none⟩)) f).run P w= .ok (.pointer (some ⟨b,off+q.1,none⟩)) w:=by
 unfold mB at h;split at h
 .rename_i fs hu;simp only[jx]at h;obtain⟨x,hx,h⟩:=h;split at h
  .cases h
  .rename_i hz;cases h;cases hi:P.info? x.type with
   |none=>simp[ag,hi]at hz
   |some i=>
    have hne:i.size≠0:=by simpa[ag,hi]using hz
    simp[Instr.fieldAt,run_underlying hu,hx,xh,fieldPlace,sizeOf,typeInfo,hi,hne,uO]
 .cases h
def Ej{t:TypeId}{f:Nat}{x:Operand}(ho:o.op= .fieldAddr t x f){K:AV->Prop}(h:A2 P t f (E x) K):∃r,a7 P o E σ n r [] []/\K r:=by
 have hx:x∈o.op.operands.toList:=by rw[ho];simp[cA]
 obtain⟨q,hq,h⟩:=h;split at h
 .rename_i s off e;refine⟨_,a7.val ?_,h⟩;intro ρ C V w hE;have h1:=hE x hx;rw[e]at h1;obtain⟨b,c,h1,h2⟩:=h1;refine⟨.pointer (some ⟨b,off+q.1,none⟩),?_,by unfold aR;grind⟩;unfold execOp;rw[ho];simp only[h2,bi,Fr hq,bq,cF]
 .rename_i cs off e;refine⟨_,a7.val ?_,h⟩;intro ρ C V w hE;have h1:=hE x hx;rw[e]at h1;obtain⟨b,oo,h1,h2⟩:=h1;refine⟨.pointer (some ⟨b,oo+off+q.1,none⟩),?_,by unfold aR az;grind⟩;unfold execOp;rw[ho];simp only[h1,bi,Fr hq,bq,cF]
 grind
def o8(P:Program)(t:TypeId)(l:List AV)(off:Nat)(K:AV->Prop):Prop:=
 tok P t=true/\if fm P t=true then∃m,(l.drop off).take (ag P t)=m/\K (dt m)else∃x,l[off]? =some x/\K x
def Ay(P:Program)(t:TypeId)(f:Nat)(x:AV)(K:AV->Prop):Prop:=∃q,mB P t f=some q/\match x with
 | .agg l=>o8 P q.2 l q.1 K
 | .p (.agg l)=>o8 P q.2 (l.map .p) q.1 K
 |_=>False
def ak.take{ρ:Ren}{C:bF}{l:List AV}{vs:List Value}(h:ak ρ C l vs)(k:Nat):ak ρ C (l.take k) (vs.take k):=
 ak.of _ _ (by simp[h.length]) λi x hi=>by
  rw[pM]at hi|-;split at hi
  .rw[if_pos ‹_›];exact h.get _ _ i x hi
  .cases hi
def ak.drop{ρ:Ren}{C:bF}{l:List AV}{vs:List Value}(h:ak ρ C l vs)(k:Nat):ak ρ C (l.drop k) (vs.drop k):=
 ak.of _ _ (by simp[h.length]) λi x hi=>by rw[uK]at hi|-;exact h.get _ _ _ x hi
def VM{t:TypeId}{l:List AV}{off:Nat}{K:AV->Prop}(h:o8 P t l off K):∃r,K r/\∀(ρ:Ren) (C:bF) (vs:List Value) (w:World),ak ρ C l vs->eu vs->∃v,(part t vs.toArray off).run P w= .ok v w/\aR ρ C r v:=by
 obtain⟨ht,h⟩:=h;unfold tok at ht;simp only[bv,lJ]at ht;obtain⟨⟨i,hi⟩,d,hd⟩:=ht;have hag:∀w:World,(isAgg t).run P w= .ok (fm P t) w:=by intro w;unfold isAgg fm;rw[bi,run_underlying hd w,hd];cases d<;>rfl
 split at h
 .rename_i hg;obtain⟨m,hm,hK⟩:=h;refine⟨_,hK,?_⟩;intro ρ C vs w hr h1s;have h2:=(hr.drop off).take (ag P t);rw[hm]at h2;refine⟨_,?_,vB h2 λu hu=>h1s u (by grind)⟩;have hsz:ag P t=i.size:=by simp[ag,hi]
  simp only[part,bi,hag,hg,bq,if_true,sizeOf,typeInfo,run_program,hi,cF];grind
 .rename_i hg;obtain⟨x,hx,hK⟩:=h;refine⟨x,hK,?_⟩;intro ρ C vs w hr _;obtain⟨v,h1,h2⟩:=hr.get _ _ off x hx;refine⟨v,?_,h2⟩;have hg':fm P t=false:=by simpa using hg
  simp[part,hag,hg',h1]
def UG{t:TypeId}{f:Nat}{x:Operand}(ho:o.op= .field t x f){K:AV->Prop}(h:Ay P t f (E x) K):∃r,a7 P o E σ n r [] []/\K r:=by
 have hx:x∈o.op.operands.toList:=by rw[ho];simp[cA]
 obtain⟨q,hq,h⟩:=h;have key:∀l,o8 P q.2 l q.1 K->(∀ρ C v,aR ρ C (E x) v->∃vs:List Value,v= .agg vs.toArray/\ak ρ C l vs/\eu vs)->∃r,a7 P o E σ n r [] []/\K r:=by
  intro l hl hv;obtain⟨r,hK,hr⟩:=VM hl;refine⟨r,a7.val ?_,hK⟩;intro ρ C V w hE;obtain⟨vs,h1,h2,h2s⟩:=hv ρ C _ (hE x hx);obtain⟨v,h3,h4⟩:=hr ρ C vs w h2 h2s;refine⟨v,?_,h4⟩;unfold mB at hq;split at hq
  .rename_i fs hu;simp only[jx]at hq;obtain⟨y,hy,hq⟩:=hq;split at hq
   .cases hq
   .cases hq;unfold execOp;rw[ho];simp[h1,Instr.field,run_underlying hu,hy,asAgg,h3]
  .cases hq
 split at h
 .rename_i l e;refine key l h λρ C v hv=> ?_;rw[e]at hv;exact hv
 .rename_i l e;refine key _ h λρ C v hv=> ?_;rw[e]at hv;obtain⟨vs,h1,h2,h3⟩:=hv;exact⟨vs,h1,h2.toA,h3⟩
 grind
def wJ(P:Program)(t:TypeId)(x i:AV)(K:AV->Prop):Prop:=match x,i with
 | .p (.sl n cs),.p (.int _ a)=>∃e,bm P t=some e/\(P.info? e).isSome=true/\0<=a/\a<n/\K (.p (.pro cs (a.toNat*ag P e)))
 | .own s o n,.p (.int _ a)=>∃e,bm P t=some e/\(P.info? e).isSome=true/\0<=a/\a<n/\K (.ptr s (o+a.toNat*ag P e))
 | .ptr s off,.p (.int _ a)=>∃q,nV P t=some q/\(P.info? q.2).isSome=true/\0<=a/\a<q.1/\K (.ptr s (off+a.toNat*ag P q.2))
 | .p (.pro cs off),.p (.int _ a)=>∃q,nV P t=some q/\(P.info? q.2).isSome=true/\0<=a/\a<q.1/\K (.p (.pro cs (off+a.toNat*ag P q.2)))
 |_,_=>False
def Ef{t e:TypeId}(ht:P.underlying t=some (.slice e))(he:(P.info? e).isSome=true){k:IntKind}{a:Int}{n c b off:Nat}(h0:0<=a)(h1:a<n)(w:World):
  (Ca t (.slice (some ⟨b,off,none⟩) n c) (.int k a)).run P w= .ok (.pointer (some ⟨b,off+a.toNat*ag P e,none⟩)) w:=by
 obtain⟨i,hi⟩:=lJ.1 he;simp[Ca,asIntOf,run_underlying ht,h0,h1,sizeOf,typeInfo,hi,ag,uO]
def EB{t e:TypeId}{m:Nat}(ht:P.underlying t=some (.array m e))(he:(P.info? e).isSome=true){k:IntKind}{a:Int}{b off:Nat}(h0:0<=a)(h1:a<m)(w:World):
  (Ca t (.pointer (some ⟨b,off,none⟩)) (.int k a)).run P w= .ok (.pointer (some ⟨b,off+a.toNat*ag P e,none⟩)) w:=by
 obtain⟨i,hi⟩:=lJ.1 he;simp[Ca,xh,asIntOf,run_underlying ht,h0,h1,sizeOf,typeInfo,hi,ag,uO]
def iq{t e:TypeId}(h:bm P t=some e):P.underlying t=some (.slice e):=by unfold bm at h;grind
def Hu{t:TypeId}{q:Nat×TypeId}(h:nV P t=some q):P.underlying t=some (.array q.1 q.2):=by unfold nV at h;grind
def UC{t:TypeId}{x i:Operand}(ho:o.op= .indexAddr t x i){K:AV->Prop}(h:wJ P t (E x) (E i) K):∃r,a7 P o E σ n r [] []/\K r:=by
 have hx:x∈o.op.operands.toList:=by rw[ho];simp[cA]
 have hi:i∈o.op.operands.toList:=by rw[ho];simp[cA]
 unfold wJ at h;split at h
 .rename_i m cs k a ex ei;obtain⟨e,he,he2,h0,h1,hK⟩:=h;refine⟨_,a7.val ?_,hK⟩;intro ρ C V w hE;have g1:=hE x hx;have g2:=hE i hi;rw[ex]at g1;rw[ei]at g2;unfold aR az at g1 g2;obtain⟨ad,c,g1,g3,g4,g5⟩:=g1;cases ad with
  |none=>grind
  |some ad=>
   obtain⟨b,off,sp⟩:=ad;obtain⟨g5,g6⟩:=g5 _ rfl;have g5:sp=none:=g5 (by omega);subst g5;refine⟨.pointer (some ⟨b,off+a.toNat*ag P e,none⟩),?_,by unfold aR az;grind⟩;unfold execOp;rw[ho];simp only[g1,g2,bi,Ef (iq he) he2 h0 h1,bq,cF]
 .rename_i s oo m k a ex ei;obtain⟨e,he,he2,h0,h1,hK⟩:=h;refine⟨_,a7.val ?_,hK⟩;intro ρ C V w hE;have g1:=hE x hx;have g2:=hE i hi;rw[ex]at g1;rw[ei]at g2;unfold aR at g1 g2;unfold az at g2;obtain⟨q,c,g1,g3|⟨b,o',c',rfl,g4,g5,g6,g7⟩⟩:=g1
  .omega
  .have:=g6 (by omega);refine⟨.pointer (some ⟨b,o'+a.toNat*ag P e,none⟩),?_,by unfold aR;grind⟩;unfold execOp;rw[ho];simp only[g4,g2,bi,Ef (iq he) he2 h0 h1,bq,cF]
 .rename_i s off k a ex ei;obtain⟨q,he,he2,h0,h1,hK⟩:=h;refine⟨_,a7.val ?_,hK⟩;intro ρ C V w hE;have g1:=hE x hx;have g2:=hE i hi;rw[ex]at g1;rw[ei]at g2;unfold aR at g1 g2;unfold az at g2;obtain⟨b,c,g1,g3⟩:=g1;refine⟨.pointer (some ⟨b,off+a.toNat*ag P q.2,none⟩),?_,by unfold aR;grind⟩;unfold execOp;rw[ho];simp only[g3,g2,bi,EB (Hu he) he2 h0 h1,bq,cF]
 .rename_i cs off k a ex ei;obtain⟨q,he,he2,h0,h1,hK⟩:=h;refine⟨_,a7.val ?_,hK⟩;intro ρ C V w hE;have g1:=hE x hx;have g2:=hE i hi;rw[ex]at g1;rw[ei]at g2;unfold aR az at g1 g2;obtain⟨b,oo,g1,g3⟩:=g1;refine⟨.pointer (some ⟨b,oo+off+a.toNat*ag P q.2,none⟩),?_,by unfold aR az;grind⟩;unfold execOp;rw[ho];simp only[g1,g2,bi,EB (Hu he) he2 h0 h1,bq,cF]
 grind
def tc(x:AV)(i:Nat)(K:AV->Prop):Prop:=match x with
 | .tup l=>∃y,l[i]? =some y/\K y
 | .p (.tup l)=>∃y,l[i]? =some y/\K (.p y)
 |_=>False
def Vw{x:Operand}{i:Nat}(ho:o.op= .extract x i){K:AV->Prop}(h:tc (E x) i K):∃r,a7 P o E σ n r [] []/\K r:=by
 have hx:x∈o.op.operands.toList:=by rw[ho];simp[cA]
 unfold tc at h;split at h
 .rename_i l e;obtain⟨y,hy,h⟩:=h;refine⟨_,a7.val ?_,h⟩;intro ρ C V w hE;have h1:=hE x hx;rw[e]at h1;obtain⟨vs,h1,h2⟩:=h1;obtain⟨v,h3,h4⟩:=h2.get _ _ i y hy;refine⟨v,?_,h4⟩;unfold execOp;rw[ho];simp[h1,Instr.extract,h3]
 .rename_i l e;obtain⟨y,hy,h⟩:=h;refine⟨_,a7.val ?_,h⟩;intro ρ C V w hE;have h1:=hE x hx;rw[e]at h1;obtain⟨vs,h1,h2⟩:=h1;obtain⟨v,h3,h4⟩:=h2.get _ _ i y hy;refine⟨v,?_,by exact h4⟩;unfold execOp;rw[ho];simp[h1,Instr.extract,h3]
 grind
end
def jk(l:List Oper)(j:Nat):Nat:=((l[j]?).bind (·.dst)).getD 1000000
def iZ(anc:List (List Nat))(i:Nat):List Nat:=anc.getD i []
def Rd(w:World)(a:Option Addr)(cs:List Value):Prop:=∀i u,cs[i]? =some u->∃b off,a=some ⟨b,off,none⟩/\b<w.heap.size/\w.cell? ⟨b,off+i,none⟩=some u
def RZ{w:World}{base:Nat}{e:TypeId}{size:Nat}{v:Value}{n:Nat}{xs:List Value}(h:w.ownsRow base e size v n xs):∀k,v.ownBlock=some k->base<=k/\k<w.heap.size:=by
 intro k hk;rcases h.2 with⟨rfl,_⟩|⟨g,cap,cur,rfl,h2,h3,_⟩
 .simp[Value.ownBlock]at hk
 .simp[Value.ownBlock]at hk;grind
def Tt{P:Program}{o:Oper}{V:Nat->Value}{w:World}{K:Value->World->Prop}(s x:Operand)(t:TypeId)
  (ho:o.op= .call {callee:= .builtin .append,args:= #[s,x],argTypes:= #[t,t]})
  (base:Nat) (e:TypeId) (z:Value) (size bytes:Nat) (ht:P.underlying t=some (.slice e)) (hi:(P.info? e).map (λi=>(i.zero,i.size,i.bytes))=some (some z,size,bytes)) (hzs:z.cells.size=size) (hsz:0<size)
  (v:Value) (n:Nat) (xs:List Value) (hs:bE V s=v) (hown:w.ownsRow base e size v n xs)
  (a:Option Addr) (m c:Nat) (cs:List Value) (hx:bE V x= .slice a m c) (hl:cs.length=m*size) (hg:Rd w a cs) (hn:a=none->c=0) (h1:∀u∈cs,u.oneCell'=true)
  (h63:n+m<=1000000) (hbytes:bytes<=1000000) (hbase:base<=w.heap.size)
  (h:∀v' w',w'.ownsRow base e size v' (n+m) (xs++cs)->Below base w w'->w.grownBy w' v.ownBlock->(∀k,v'.ownBlock=some k->v.ownBlock=some k\/w.heap.size<=k)->K v' w'):cS P o V w K:=by
 obtain⟨i,hi1,hi2⟩:=iO.1 hi;simp only[Prod.mk.injEq]at hi2;obtain⟨i1,i2,i3⟩:=hi2;have hb:∀k,v.ownBlock=some k->base<=k:=λk hk=>(RZ hown k hk).1;by_cases hm:m=0
 .subst hm;have hcs:cs=[] :=by grind
  subst hcs;by_cases ha:a=none
  .subst ha;have hc:=hn rfl;subst hc;have hr:=run_append_owned_none (P:=P) (w:=w) base t o.type e i size ht hi1 v n xs hown;unfold cS execOp;simp only[ho,resolve,invoke,builtin,bi,cF,bq,uP,cO,lK,hs,hx,hr];exact h v w (by grind) (Below.refl _ _) ⟨rfl,rfl,rfl,bA _,λ_ _ _=>rfl⟩ (by grind)
  .obtain⟨a',rfl⟩:=Option.ne_none_iff_exists'.1 ha;obtain⟨v',w',hr,h2,h3,_,h5⟩:=run_append_own_at (P:=P) (w:=w) base t o.type e i z size bytes ht hi1 i1 i2 i3 hzs hsz v n xs hown a' 0 c [] (by simp) (by simp) (by simp) (by simp only[maxLen];omega) (cZ (Cb h63 hbytes) (by decide)) hbase;unfold cS execOp;simp only[ho,resolve,invoke,builtin,bi,cF,bq,uP,cO,lK,hs,hx,hr];exact h v' w' h2 ((Below.refl base w).grown h3 hbase hb) h3 (by grind)
 .obtain⟨u0,hu0⟩:∃u,cs[0]? =some u:=by
   have:0<cs.length:=by rw[hl];exact Nat.mul_pos (by omega) hsz
   grind
  obtain⟨b,off,rfl,hbl,_⟩:=hg 0 u0 hu0;have hnews:∀j u,cs[j]? =some u->w.cell? ((⟨b,off,none⟩:Addr).add j)=some u:=by
   intro j u hj;obtain⟨b',off',he,_,hc⟩:=hg j u hj;simp only[fO,Addr.mk.injEq,and_true]at he;obtain⟨rfl,rfl⟩:=he;unfold Addr.add;by_cases hj0:j=0
   .grind
   .grind
  obtain⟨v',w',hr,h2,h3,_,h5⟩:=run_append_own_at (P:=P) (w:=w) base t o.type e i z size bytes ht hi1 i1 i2 i3 hzs hsz v n xs hown ⟨b,off,none⟩ m c cs hl hnews h1 (by simp only[maxLen];omega) (cZ (Cb h63 hbytes) (by decide)) hbase;unfold cS execOp;simp only[ho,resolve,invoke,builtin,bi,cF,bq,uP,cO,lK,hs,hx,hr];exact h v' w' h2 ((Below.refl base w).grown h3 hbase hb) h3 (by grind)
section
variable {m i:Nat} {A B:World->Prop} {D:Nat->Bool} {wx:World}
end
section
variable {m n i:Nat} {A B C:World->Prop} {D:Nat->Bool} {wx:World}
end
section
variable {P:Program} {o:Oper} {E:Operand->AV} {σ:Nat->Option Ob} {n:Nat}
def xH:AV->Option Int
 | .p (.int _ a)=>some a
 |_=>none
def Fo{ρ:Ren}{C:bF}{x:AV}{a:Int}{v:Value}(h:xH x=some a)(hr:aR ρ C x v):∃k,v= .int k a:=by
 unfold xH at h;split at h
 .unfold aR az at hr;grind
 .cases h
def loA(E:Operand->AV)(lo:Option Operand)(d:Int):Option Int:=match lo with|none=>some d|some x=>xH (E x)
def qM(P:Program)(t:TypeId)(x:AV)(lo hi:Option Int)(K:AV->Prop):Prop:=∃e l h,bm P t=some e/\(P.info? e).isSome=true/\ag P e≠0/\lo=some l/\hi=some h/\0<=l/\l<=h/\match x with
 | .p (.sl m cs)=>h<=m/\K (.p (.sl (h.toNat-l.toNat) ((cs.take (h.toNat*ag P e)).drop (l.toNat*ag P e))))
 | .own s oo m=>h<=m/\K (.own s (oo+l.toNat*ag P e) (h.toNat-l.toNat))
 |_=>False
def qO:AV->Int
 | .p (.sl m _)=>m
 | .own _ _ m=>m
 |_=>0
def yd{t e:TypeId}(ht:P.underlying t=some (.slice e))(he:(P.info? e).isSome=true)(a:Option Addr)(m c:Nat)(hmc:m<=c)(lo hi:Option Value)(l h:Int)(h0:0<=l)(h1:l<=h)(h2:h<=m)
  (hlo:(lo=none/\l=0)\/∃k,lo=some (.int k l)) (hhi:(hi=none/\h=m)\/∃k,hi=some (.int k h)) (w:World):
  (Instr.sliceAt t (.slice a m c) lo hi none).run P w= .ok (.slice (if c=l.toNat then a else a.map (·.add (l.toNat*ag P e))) (h.toNat-l.toNat) (c-l.toNat)) w:=by
 obtain⟨i,hi'⟩:=lJ.1 he;have hsz:ag P e=i.size:=by simp[ag,hi']
 have hb:(xi true m c lo hi none).run P w= .ok (l.toNat,h.toNat,c) w:=by
  rcases hlo with⟨rfl,rfl⟩|⟨k,rfl⟩<;>rcases hhi with⟨rfl,rfl⟩|⟨k',rfl⟩
  .simp[xi]
  .simp[xi,Instr.sliceBound,asIntOf,show 0<=h by omega,show h<=(c:Int) by omega]
  .simp[xi,Instr.sliceBound,asIntOf,h0,h1]
  .simp[xi,Instr.sliceBound,asIntOf,h0,show 0<=h by omega,show h<=(c:Int) by omega,show l<=max h 0 by omega]
 simp only[Instr.sliceAt,bi,run_underlying ht,bq,Instr.slice,hb,sizeOf,typeInfo,run_program,hi',cF,hsz]
def TS{t:TypeId}{x:Operand}{lo hi:Option Operand}(ho:o.op= .slice t x lo hi none){K:AV->Prop}(h:qM P t (E x) (loA E lo 0) (loA E hi (qO (E x))) K):∃r,a7 P o E σ n r [] []/\K r:=by
 have hx:x∈o.op.operands.toList:=by rw[ho];simp[cA]
 have hl:∀y,lo=some y->y∈o.op.operands.toList:=by intro y hy;rw[ho];simp[cA,hy]
 have hh:∀y,hi=some y->y∈o.op.operands.toList:=by intro y hy;rw[ho];simp[cA,hy]
 obtain⟨e,l,hv,he,he2,hez,hlo,hhi,h0,h1,h⟩:=h;have klo:∀(ρ:Ren) (C:bF) (V:Nat->Value),(∀x∈o.op.operands.toList,aR ρ C (E x) (bE V x))->(lo.map (bE V)=none/\l=0)\/∃k,lo.map (bE V)=some (.int k l):=by
  intro ρ C V hE;unfold loA at hlo;cases lo with
  |none=>grind
  |some y=>obtain⟨k,hk⟩:=Fo hlo (hE y (hl y rfl));grind
 have khi:∀(m:Nat),qO (E x)=m->∀(ρ:Ren) (C:bF) (V:Nat->Value),(∀x∈o.op.operands.toList,aR ρ C (E x) (bE V x))->(hi.map (bE V)=none/\hv=m)\/∃k,hi.map (bE V)=some (.int k hv):=by
  intro m hm ρ C V hE;unfold loA at hhi;cases hi with
  |none=>grind
  |some y=>obtain⟨k,hk⟩:=Fo hhi (hE y (hh y rfl));grind
 split at h
 .rename_i m cs ex;obtain⟨h2,hK⟩:=h;refine⟨_,a7.val ?_,hK⟩;intro ρ C V w hE;have g1:=hE x hx;rw[ex]at g1;obtain⟨a,c,g1,g2,g3,g4⟩:=g1;have hrun:=yd (iq he) he2 a m c g2 _ _ l hv h0 h1 h2 (klo ρ C V hE) (khi m (by rw[ex];rfl) ρ C V hE) w;refine⟨.slice (if c=l.toNat then a else a.map (·.add (l.toNat*ag P e))) (hv.toNat-l.toNat) (c-l.toNat),?_,?_⟩
  .unfold execOp;simp_all
  .refine⟨_,_,rfl,by omega,?_,?_⟩
   .intro hn;have:a=none:=by
     split at hn
     .exact hn
     .simp_all
    grind
   .intro ad had;split at had
    .subst had;refine⟨by grind,?_⟩;have:((cs.take (hv.toNat*ag P e)).drop (l.toNat*ag P e))=[] :=by
      apply List.drop_eq_nil_of_le;rw[fV];have:hv.toNat=l.toNat:=by omega
      rw[this];omega
     rw[this];trivial
    .cases a with
     |none=>simp at had
     |some ad'=>
      simp at had;subst had;obtain⟨g5,g6⟩:=g4 ad' rfl;rcases nj m with hm0|hm0
      .have e0:hv.toNat=0:=by omega
       rw[e0];simp;trivial
      .have g5:=g5 hm0;obtain⟨b,off,sp⟩:=ad';subst g5;rw[uO];exact⟨λ_=>rfl,(g6.take _).drop _⟩
 .rename_i s oo m ex;obtain⟨h2,hK⟩:=h;refine⟨_,a7.val ?_,hK⟩;intro ρ C V w hE;have g1:=hE x hx;rw[ex]at g1;obtain⟨q,c,g1,⟨rfl,g2,g3,g4⟩|⟨b,o',c',rfl,g2,g3,g4,g5⟩⟩:=g1
  .have hrun:=yd (iq he) he2 none m 0 (by omega) _ _ l hv h0 h1 h2 (klo ρ C V hE) (khi m (by rw[ex];rfl) ρ C V hE) w;have e1:l=0:=by omega
   have e2:hv=0:=by omega
   refine⟨.slice none 0 0,?_,?_⟩
   .unfold execOp;simp_all
   grind
  .have hrun:=yd (iq he) he2 (some ⟨b,o',none⟩) m c' g3 _ _ l hv h0 h1 h2 (klo ρ C V hE) (khi m (by rw[ex];rfl) ρ C V hE) w;refine⟨.slice (if c'=l.toNat then some ⟨b,o',none⟩else(some (⟨b,o',none⟩:Addr)).map (·.add (l.toNat*ag P e))) (hv.toNat-l.toNat) (c'-l.toNat),?_,?_⟩
   .unfold execOp;simp_all
   .refine⟨some b,c,g1,.inr ⟨b,if c'=l.toNat then o' else o'+l.toNat*ag P e,c'-l.toNat,rfl,?_,by omega,?_,?_⟩⟩
    .split<;>simp[uO]
    .grind
    .intro hz;have h3:oo=0:=by omega
     have h4:l.toNat*ag P e=0:=by omega
     rcases Cc.1 h4 with h5|h5
     .grind
     omega
 grind
def xG(P:Program)(t:TypeId)(x:AV)(K:AV->Prop):Prop:=match x with
 | .p (.sl m _)=>(bm P t).isSome=true/\K (.p (.int .i64 m))
 | .own _ _ m=>(bm P t).isSome=true/\K (.p (.int .i64 m))
 | .nil=>(bm P t).isSome=true/\K (.p (.int .i64 0))
 | .p (.str s)=>(match P.underlying t with|some .string=>true|_=>false)=true/\K (.p (.int .i64 s.size))
 |_=>False
def XG{x:Operand}{t:TypeId}(ho:o.op= .call {callee:= .builtin .len,args:= #[x],argTypes:= #[t]}){K:AV->Prop}(h:xG P t (E x) K):∃r,a7 P o E σ n r [] []/\K r:=by
 have hx:x∈o.op.operands.toList:=by rw[ho];simp[cA,fw]
 have key:∀(m:Nat),(bm P t).isSome=true->(∀ρ C v,aR ρ C (E x) v->∃a c,v= .slice a m c)->a7 P o E σ n (.p (.int .i64 m)) [] [] :=by intro m ht hv;obtain⟨e,he⟩:=lJ.1 ht;have hu:=iq he;refine a7.val ?_;intro ρ C V w hE;obtain⟨a,c,h1⟩:=hv ρ C _ (hE x hx);refine⟨.int .i64 m,?_,by rfl⟩;unfold execOp;rw[ho];simp[resolve,invoke,builtin,Builtin.len_,h1,run_underlying hu,goInt]
 unfold xG at h;split at h
 .rename_i m cs e;refine⟨_,key m h.1 λρ C v hv=> ?_,h.2⟩;unfold aR az at hv;grind
 .rename_i s oo m e;refine⟨_,key m h.1 λρ C v hv=> ?_,h.2⟩;unfold aR at hv;grind
 .rename_i e;refine⟨_,key 0 h.1 λρ C v hv=> ?_,h.2⟩;unfold aR at hv;grind
 .rename_i s e;obtain⟨ht,hK⟩:=h;refine⟨_,a7.val ?_,hK⟩;intro ρ C V w hE;have h1:=hE x hx;rw[e]at h1;unfold aR az at h1;have hu:P.underlying t=some .string:=by
   split at ht
   .assumption
   .cases ht
  refine⟨.int .i64 s.size,?_,by rfl⟩;unfold execOp;rw[ho];simp[resolve,invoke,builtin,Builtin.len_,h1,run_underlying hu,goInt]
 grind
def jK:AV->Option (List AV)
 | .agg l=>some l
 | .p (.agg l)=>some (l.map .p)
 | .p (.tup _)=>none
 | .p .junk=>none
 | .p x=>some [.p x]
 | .mp s=>some [.mp s]
 | .nil=>some [.nil]
 | .ptr s off=>some [.ptr s off]
 | .own s o n=>some [.own s o n]
 | .fn f a b=>some [.fn f a b]
 |_=>none
def yY{ρ:Ren}{C:bF}{x:AV}{l:List AV}{v:Value}(h:jK x=some l)(hr:aR ρ C x v):ak ρ C l v.cells.toList/\eu v.cells.toList:=by
 have key:∀(y:AV),l=[y]->aR ρ C y v->v.oneCell'=true->ak ρ C l v.cells.toList/\eu v.cells.toList:=by
  intro y hl hy h1;have hc:v.cells.toList=[v] :=by cases v<;>first|rfl|(simp[Value.oneCell']at h1;done)
  rw[hc,hl];refine⟨?_,λu hu=>by grind⟩;unfold ak;exact⟨v,[],rfl,hy,by rfl⟩
 unfold jK at h;split at h
 .cases h;obtain⟨vs,rfl,h1,h2⟩:=hr;exact⟨by simpa[Cd]using h1,by simpa[Cd]using h2⟩
 .cases h;obtain⟨vs,rfl,h1,h2⟩:=hr;exact⟨by simpa[Cd]using h1.toA,by simpa[Cd]using h2⟩
 .cases h
 .cases h
 .rename_i y hn1 hn2 hn3;cases h;refine key _ rfl hr ?_;unfold aR at hr;cases y<;>unfold az at hr
  .rw[hr];rfl
  .rw[hr];rfl
  .rw[hr];rfl
  .grind
  .grind
  .obtain⟨a,c,h1,_⟩:=hr;rw[h1];rfl
  .obtain⟨a,c,h1,_⟩:=hr;rw[h1];rfl
  .obtain⟨a,c,h1,_⟩:=hr;rw[h1];rfl
  grind
 .cases h;refine key _ rfl hr ?_;obtain⟨c,_,h2⟩:=hr;rw[h2];rfl
 .cases h;refine key _ rfl hr ?_;rw[hr];rfl
 .cases h;refine key _ rfl hr ?_;obtain⟨b,c,_,h2⟩:=hr;rw[h2];rfl
 .cases h;refine key _ rfl hr ?_;obtain⟨q,c,_,⟨_,h2,_⟩|⟨b,o',c',_,h2,_⟩⟩:=hr<;>(rw[h2];rfl)
 .cases h;refine key _ rfl hr ?_;obtain⟨a,b,h2,_⟩:=hr;rw[h2];rfl
 .cases h
def cn(cs:List AV)(off:Nat):List AV->List AV
 |[] =>cs
 |x::l=>cn (cs.set off x) (off+1) l
def mM:∀(l:List AV) (cs:List AV) (off:Nat),(cn cs off l).length=cs.length
 |[],cs,off=>rfl
 |x::l,cs,off=>by unfold cn;rw[mM l];simp
def kJ(place:Nat->Option (Nat×Nat))(cells:List AV):List (Nat×AV)->Option (List AV)
 |[] =>some cells
 |(i,v)::rest=>match place i,jK v with
  |some (off,size),some l=>if l.length=size/\off+size<=cells.length then kJ place (cn cells off l) rest else none
  |_,_=>none
def ak.set{ρ:Ren}{C:bF}{l:List AV}{vs:List Value}(h:ak ρ C l vs)(k:Nat){x:AV}{v:Value}(hx:aR ρ C x v):ak ρ C (l.set k x) (vs.set k v):=
 ak.of _ _ (by simp[h.length]) λi y hi=>by
  have hl:=h.length;rw[iG]at hi|-;split at hi
  .grind
  .rename_i e;rw[if_neg e];exact h.get _ _ i y hi
def FC{ρ:Ren}{C:bF}:∀(l:List AV) (vs:List Value) (cs:List AV) (us:List Value) (off:Nat) (j:Nat),ak ρ C l vs->ak ρ C cs us->eu vs->eu us->
  ak ρ C (cn cs (off+j) l) ((vs.zipIdx j).foldl (λ(a:Array Value) (c,j)=>a.setIfInBounds (off+j) c) us.toArray).toList/\eu ((vs.zipIdx j).foldl (λ(a:Array Value) (c,j)=>a.setIfInBounds (off+j) c) us.toArray).toList
 |[],vs,cs,us,off,j,h1,h2,h3,h4=>by subst h1;simpa[cn]using⟨h2,h4⟩
 |x::l,vs,cs,us,off,j,h1,h2,h3,h4=>by
  obtain⟨v,r,rfl,hv,hr⟩:=h1;have:=FC l r (cs.set (off+j) x) (us.set (off+j) v) off (j+1) hr (h2.set _ hv) (λu hu=>h3 u (by grind)) (λu hu=>by
   rcases List.mem_or_eq_of_mem_set hu with h|h
   .exact h4 u h
   .subst h;exact h3 _ (by grind))
  simpa[cn,List.zipIdx_cons,nk]using this
def yu{ρ:Ren}{C:bF}{place:Nat->Option (Nat×Nat)}:∀(parts:List (Nat×AV)) (vparts:List (Nat×Value)) (cs res:List AV) (us:List Value),
  kJ place cs parts=some res->vparts.length=parts.length->(∀(j:Nat) q,parts[j]? =some q->∃v,vparts[j]? =some (q.1,v)/\aR ρ C q.2 v)->ak ρ C cs us->eu us->
  ∃vs:List Value,Instr.fill place us.toArray vparts=some vs.toArray/\ak ρ C res vs/\eu vs
 |[],vparts,cs,res,us,h,hl,hp,hc,h1=>by
  simp[kJ]at h;subst h;have:vparts=[] :=by grind
  subst this;exact⟨us,rfl,hc,h1⟩
 |(i,x)::rest,vparts,cs,res,us,h,hl,hp,hc,h1=>by
  obtain⟨v,hv0,hv⟩:=hp 0 (i,x) rfl;cases vparts with
  |nil=>simp at hl
  |cons q vparts=>
   simp at hv0;subst hv0;unfold kJ at h;split at h
   .rename_i off size l hpl hcl;split at h
    .obtain⟨c1,c2⟩:=yY hcl hv;have hlen:=c1.length;have hcs:=hc.length;obtain⟨s1,s2⟩:=FC l v.cells.toList cs us off 0 c1 hc c2 h1;obtain⟨vs,f1,f2,f3⟩:=yu rest vparts _ res _ h (by grind) (λj q hj=>hp (j+1) q (by grind)) s1 s2;refine⟨vs,?_,f2,f3⟩;unfold Instr.fill;rw[hpl];dsimp only;simp only[rM]at hlen;have e1:¬(v.cells.size≠size||decide (off+v.cells.size>us.toArray.size))=true:=by simp;omega
     rw[if_neg e1];rw[<-f1];have e2:∀(a:Array Value),a.zipIdx.foldl (λ(cs:Array Value) (x:Value×Nat)=>match x with|(c,j)=>cs.setIfInBounds (off+j) c) us.toArray=(a.toList.zipIdx 0).foldl (λ(cs:Array Value) (x:Value×Nat)=>match x with|(c,j)=>cs.setIfInBounds (off+j) c) us.toArray:=by intro a;rw[<-Array.foldl_toList,Array.toList_zipIdx]
     rw[e2]
    .cases h
   .cases h
def An(P:Program)(t:TypeId):Nat->Option (Nat×Nat):=match P.underlying t with
 |some (.struct fs)=>λi=>(fs[i]?).map λf=>(f.offset,ag P f.type)
 |some (.array _ e)=>λi=>some (i*ag P e,ag P e)
 |_=>λ_=>none
def z7(P:Program)(t:TypeId):Bool:=match P.underlying t with
 |some (.struct fs)=>fs.toList.all λf=>(P.info? f.type).isSome
 |some (.array _ e)=>(P.info? e).isSome
 |_=>false
def mmA(f:Int->Int->Int)(x y:AV)(K:AV->Prop):Prop:=match x,y with
 | .p (.int .i64 a),.p (.int .i64 b)=>K (.p (.int .i64 (f a b)))
 |_,_=>False
def LS{P:Program}(ts:Array TypeId)(t:TypeId)(x y:Int)(w:World):(Builtin.min_ ts t #[.int .i64 x,.int .i64 y]).run P w= .ok (.int .i64 (min x y)) w/\(Builtin.max_ ts t #[.int .i64 x,.int .i64 y]).run P w= .ok (.int .i64 (max x y)) w:=by have h:= @run_min_int2 P w ts t .i64 .i64 x y;have h2:= @run_max_int2 P w ts t .i64 .i64 x y;grind
def W4{x y:Operand}{ts:Array TypeId}(ho:o.op= .call {callee:= .builtin .min,args:= #[x,y],argTypes:=ts}){K:AV->Prop}(h:mmA min (E x) (E y) K):∃r,a7 P o E σ n r [] []/\K r:=by
 unfold mmA at h;split at h
 .rename_i a b ea eb;refine⟨_,a7.val ?_,h⟩;intro ρ C V w hE;have h1:=hE x (by rw[ho];simp[cA,fw]);have h2:=hE y (by rw[ho];simp[cA,fw]);rw[ea]at h1;rw[eb]at h2;unfold aR az at h1 h2;refine⟨.int .i64 (min a b),?_,by rfl⟩;unfold execOp;rw[ho];simp[resolve,invoke,builtin,h1,h2,(LS _ _ _ _ _).1]
 grind
def XD{x y:Operand}{ts:Array TypeId}(ho:o.op= .call {callee:= .builtin .max,args:= #[x,y],argTypes:=ts}){K:AV->Prop}(h:mmA max (E x) (E y) K):∃r,a7 P o E σ n r [] []/\K r:=by
 unfold mmA at h;split at h
 .rename_i a b ea eb;refine⟨_,a7.val ?_,h⟩;intro ρ C V w hE;have h1:=hE x (by rw[ho];simp[cA,fw]);have h2:=hE y (by rw[ho];simp[cA,fw]);rw[ea]at h1;rw[eb]at h2;unfold aR az at h1 h2;refine⟨.int .i64 (max a b),?_,by rfl⟩;unfold execOp;rw[ho];simp[resolve,invoke,builtin,h1,h2,(LS _ _ _ _ _).2]
 grind
end
section
variable {P:Program} {o:Oper} {E:Operand->AV} {σ:Nat->Option Ob} {n:Nat}
def JB(P:Program)(t:TypeId)(parts:List (Nat×AV))(K:AV->Prop):Prop:=∃z,lu P t=some z/\ko P t=true/\z7 P t=true/\∃l,kJ (An P t) z parts=some l/\K (dt l)
def EY:∀(fs:List Field),fs.all (λf=>(P.info? f.type).isSome)=true->fs.mapM (λf=>(P.info? f.type).map λi=>(f.offset,i.size))=some (fs.map λf=>(f.offset,ag P f.type))
 |[],_=>rfl
 |f::fs,h=>by
  simp only[List.all_cons,bv]at h;obtain⟨i,hi⟩:=lJ.1 h.1;simp[List.mapM_cons,hi,EY fs h.2,ag]
def rh{t:TypeId}{z:List AV}(h:lu P t=some z)(h1:ko P t=true):∃i zv,P.info? t=some i/\i.zero=some zv/\zv.cells.size=i.size/\eu zv.cells.toList/\z=zv.cells.toList.map iV:=by unfold lu at h;simp only[jx,iO]at h;obtain⟨i,hi,zv,hz,rfl⟩:=h;unfold ko at h1;simp only[hi,kU,hz,dm,mF,bv,beq_iff_eq,dW]at h1;exact⟨i,zv,hi,hz,h1.2,h1.1,rfl⟩
def Uc{t:TypeId}{parts:Array (Nat×Operand)}(ho:o.op= .build t parts){K:AV->Prop}(h:JB P t (parts.toList.map λq=>(q.1,E q.2)) K):∃r,a7 P o E σ n r [] []/\K r:=by
 obtain⟨z,hz,hz1,hpo,l,hl,hK⟩:=h;refine⟨_,a7.val ?_,hK⟩;intro ρ C V w hE;obtain⟨i,zv,hi,hiz,hsz,hone,rfl⟩:=rh hz hz1;have hp:∀(j:Nat) q,(parts.toList.map λq=>(q.1,E q.2))[j]? =some q->∃v,(parts.toList.map λq=>(q.1,bE V q.2))[j]? =some (q.1,v)/\aR ρ C q.2 v:=by
  intro j q hj;rw[du]at hj|-;cases hq:parts.toList[j]? with
  |none=>grind
  |some q'=>
   rw[hq]at hj;simp only[dm,fO]at hj;subst hj;refine⟨bE V q'.2,rfl,hE q'.2 ?_⟩;simp only[cA];grind
 obtain⟨vs,f1,f2,f3⟩:=yu _ (parts.toList.map λq=>(q.1,bE V q.2)) _ l zv.cells.toList hl (by simp) hp (pZ _) hone;have hb:P.built t (parts.map λq=>(q.1,bE V q.2)).toList=some vs.toArray:=by
  unfold Program.built;rw[hi];unfold z7 at hpo;unfold An at f1;cases hu:P.underlying t with
  |none=>grind
  |some d=>
   rw[hu]at hpo f1;cases d<;>first|(cases hpo;done)|skip
   case struct fs=>
    dsimp only at hpo f1|-;rw[hiz,EY _ hpo];simp_all
   case array m e=>
    dsimp only at hpo f1|-;obtain⟨ie,hie⟩:=lJ.1 hpo;rw[hiz,hie];rw[<-f1];simp[ag,hie]
 refine⟨.agg vs.toArray,?_,vB f2 f3⟩;unfold execOp;rw[ho];simp only[bi,run_build w t _ _ hb,bq,cF]
def wq.mono{B c:Nat}{w w':World}{vs:List Value}(h:wq B w c vs)(hm:∀k,qo w k->(k=c\/∃since seen c0,w.heap[k]? =some (.mapIter (some c) since seen c0))->w'.heap[k]? =w.heap[k]?):wq B w' c vs:=by obtain⟨r,since,seen,c0,es,clock,cur,h1,h2,h3,h4⟩:=h;exact⟨r,since,seen,c0,es,clock,cur,h1,(hm r ⟨_,h2,by simp⟩ (.inr ⟨_,_,_,h2⟩)).trans h2,(hm c ⟨_,h3,by simp⟩ (.inl rfl)).trans h3,h4⟩
def ss.mono{C0:bF}{B:Nat}{ρ ρ':Ren}{C C':bF}{w w':World}{c:Nat}{o:Ob}(h:ss C0 B ρ C w c o)(hext:∀s q,ρ s=some q->ρ' s=some q)(hC:∀b o x,C b o x->C' b o x)
  (hm:∀k,o.ty≠0->qo w k->(k=c\/∃since seen c0,w.heap[k]? =some (.mapIter (some c) since seen c0))->w'.heap[k]? =w.heap[k]?):ss C0 B ρ' C' w' c o:=by
 rcases h with⟨h0,h1,h2⟩|⟨h0,hB,es,clock,h1,h3,h4,h2⟩|⟨h0,hB,vs,h1,h2⟩
 .exact .inl ⟨h0,λi x hi v hv=>aR.mono hext hC x v (h1 i x hi v hv),h2⟩
 .exact .inr (.inl ⟨h0,hB,es,clock,(hm c (by rw[h0];decide) ⟨_,h1,by simp⟩ (.inl rfl)).trans h1,h3,h4,ak.mono hext hC _ _ h2⟩)
 .exact .inr (.inr ⟨h0,hB,vs,h1.mono λk=>hm k (by rw[h0];decide),ak.mono hext hC _ _ h2⟩)
def StR.stepG{C0:bF}{ρ ρ':Ren}{g:Nat->Option Ob}{w w':World}{B:Nat}{W:List (Nat×Option Ob)}(hs:StR C0 ρ g w B)
  (hρ:∀s o,W.lookup s=none->g s=some o->ρ' s=ρ s) (hext:∀s q,ρ s=some q->ρ' s=some q)
  (hmono:∀b o x,ai C0 B w ρ g b o x->ai C0 B w' ρ' (aX g W) b o x)
  (hold:∀s o b c,W.lookup s=none->g s=some o->ρ s=some (some b,c)->w'.heap[b]? =w.heap[b]?)
  (hmap:∀(s:Nat) (o:Ob) (c k:Nat),W.lookup s=none->g s=some o->o.esz=0->o.ty≠0->ρ s=some (none,c)->qo w k->(k=c\/∃since seen c0,w.heap[k]? =some (.mapIter (some c) since seen c0))->w'.heap[k]? =w.heap[k]?)
  (hnew:∀s o,W.lookup s=some (some o)->∃q c,ρ' s=some (q,c)/\((q=none/\o.esz≠0/\o.cells=[]/\c=0)\/(q=none/\o.esz=0/\ss C0 B ρ' (ai C0 B w' ρ' (aX g W)) w' c o/\
     (∀s' o' c',s'≠s->aX g W s'=some o'->o'.esz=0->ρ' s'=some (none,c')->¬mC o c o' c'))\/∃b arr,q=some b/\B<=b/\ObRep ρ' (ai C0 B w' ρ' (aX g W)) w' b c o arr/\
    ∀s' o' c',s'≠s->aX g W s'=some o'->ρ' s'≠some (some b,c'))):StR C0 ρ' (aX g W) w' B:=by
 refine⟨?_,?_,?_⟩
 .intro s ob hob;unfold aX at hob;split at hob
  .grind
  .rename_i hx;obtain⟨q,c,h1,⟨h2,h3|⟨h3,h4⟩⟩|⟨b,arr,h2,h3,h4⟩⟩:=hs.ob s ob hob
   .grind
   .subst h2;exact⟨none,c,by grind,.inl ⟨rfl,.inr ⟨h3,h4.mono hext hmono λk hty=>hmap s ob c k hx hob h3 hty h1⟩⟩⟩
   .refine⟨q,c,by grind,.inr ⟨b,arr,h2,h3,?_,h4.box,h4.row,?_⟩⟩
    .subst h2;rw[hold s ob b c hx hob h1];exact h4.blk
    .intro i x hi;obtain⟨v,g1,g2,g3⟩:=h4.cells i x hi;exact⟨v,g1,g2,aR.mono hext hmono x v g3⟩
 .intro s s' ob ob' b c c' h1 h2 h3 h4;by_cases hss:s=s'
  .exact hss
  have k1:=h1;have k2:=h2;unfold aX at h1 h2;split at h1
  .grind
  .rename_i hx;split at h2
   .grind
   .rename_i hx2;exact hs.inj s s' ob ob' b c c' h1 h2 (by grind) (by grind)
 .intro s s' ob ob' c c' h1 h2 m1 m2 h3 h4 hT;by_cases hss:s=s'
  .exact hss
  have k1:=h1;have k2:=h2;unfold aX at h1 h2;split at h1
  .grind
  .rename_i hx;split at h2
   .rename_i x hx2;subst h2;obtain⟨q,c2,e1,⟨_,e2,_⟩|⟨e2,_,_,e5⟩|⟨b2,arr,e2,_,_,_⟩⟩:=hnew s' ob' hx2
    .omega
    .rw[h4]at e1;cases e1;exact absurd hT.symm (by grind)
    grind
   .rename_i hx2;exact hs.mpi s s' ob ob' c c' h1 h2 m1 m2 (by grind) (by grind) hT
def StR.step{C0:bF}{ρ ρ':Ren}{g:Nat->Option Ob}{w w':World}{B:Nat}{W:List (Nat×Option Ob)}(hs:StR C0 ρ g w B)
  (hρ:∀s o,W.lookup s=none->g s=some o->ρ' s=ρ s) (hext:∀s q,ρ s=some q->ρ' s=some q)
  (hmono:∀b o x,ai C0 B w ρ g b o x->ai C0 B w' ρ' (aX g W) b o x)
  (hold:∀s o b c,W.lookup s=none->g s=some o->ρ s=some (some b,c)->w'.heap[b]? =w.heap[b]?)
  (hnew:∀s o,W.lookup s=some (some o)->∃q c,ρ' s=some (q,c)/\((q=none/\o.esz≠0/\o.cells=[]/\c=0)\/∃b arr,q=some b/\B<=b/\ObRep ρ' (ai C0 B w' ρ' (aX g W)) w' b c o arr/\
    ∀s' o' c',s'≠s->aX g W s'=some o'->ρ' s'≠some (some b,c')))
  (hmap:∀(c:Nat) (_ _:Unit),qo w c->w'.heap[c]? =w.heap[c]?):StR C0 ρ' (aX g W) w' B:=
 hs.stepG hρ hext hmono hold (λ_ _ _ k _ _ _ _ _ h _=>hmap k () () h) (by grind)
def iv{w:World}{c:Nat}(h:qo w c):c<w.heap.size:=by grind
def li{w:World}{b c:Nat}{arr:Array Value}{t:TypeId}{q:Nat×Nat}(h:qo w c)(hb:w.heap[b]? =some (.cells arr t q)):c≠b:=by grind
def a7.alloc{r:AV}{ob:Ob}(h:∀(ρ:Ren) (C:bF) (V:Nat->Value) (w:World),(∀x∈o.op.operands.toList,aR ρ C (E x) (bE V x))->
  ∃v arr c,(execOp (bE V) o).run P w= .ok (.value v) (w.alloc (.cells arr ob.ty))/\(ob.esz=0->arr.size=ob.cells.length)/\(ob.esz≠0->arr.size=c*ob.esz/\ob.cells.length<=arr.size/\c<=maxLen)/\
   ak ρ C ob.cells (arr.toList.take ob.cells.length)/\eu arr.toList/\∀(ρ':Ren) (C':bF),ρ' (sit n 0)=some (some w.heap.size,c)->aR ρ' C' r v):a7 P o E σ n r [] [(sit n 0,some ob)] :=by
 intro C0 ρ g V w B hs hB _ hn hgn hE;have hcl:∀s,cls s≠n->s≠sit n 0:=λs h e=>h (by rw[e];exact fL n 0);generalize sit n 0=m at*;obtain⟨v,arr,c,hrun,h1,h2,h3,h4,h5⟩:=h ρ _ V w hE;unfold cS;rw[hrun];have hblk:(w.alloc (.cells arr ob.ty)).heap[w.heap.size]? =some (.cells arr ob.ty (0,0)):=heap_alloc_new w _
 let ρ':Ren:=λs=>if s=m then some (some w.heap.size,c)else ρ s
 have hext:∀s q,ρ s=some q->ρ' s=some q:=by intro s q hq;show(if s=m then _ else _)=_;rw[if_neg (by grind)];exact hq
 have hlt:∀s ob b c,g s=some ob->ρ s=some (some b,c)->b<w.heap.size:=by intro s ob b c e1 e2;obtain⟨_,arr,e3⟩:=hs.at e1 e2;exact e3.lt
 have hold:∀b,b<w.heap.size->(w.alloc (.cells arr ob.ty)).heap[b]? =w.heap[b]? :=λb hb=>Below.heap_alloc w _ b hb;have hlk:∀s,s≠m->[(m,some ob)].lookup s=none:=by intro s hs;simp[cG,beq_eq_false_iff_ne.2 hs]
 have hup:∀s,s≠m->aX g [(m,some ob)] s=g s:=by intro s hs;unfold aX;rw[hlk s hs]
 have hmono:∀b o' x,ai C0 B w ρ g b o' x->ai C0 B (w.alloc (.cells arr ob.ty)) ρ' (aX g [(m,some ob)]) b o' x:=by
  intro b o' x ⟨e1,e2,e0⟩;have hb:b<w.heap.size:=fx w ⟨b,o',none⟩ e1;refine⟨(gW (hold b hb)).trans e1,?_,e0⟩;intro s c' e3;by_cases e:s=m
  .grind
  .grind
 refine⟨ρ',by grind,hmono,?_,by grind,(Below.refl B w).alloc hB _⟩;refine hs.step ?_ hext hmono ?_ ?_ (by grind)
 .grind
 .grind
 .intro s ob' e;have e1:s=m:=by
   rcases ii s m with h|h
   .grind
   .exact h
  subst e1;have e2:ob'=ob:=by simp[cG]at e;exact e.symm
  subst e2;refine⟨some w.heap.size,c,by simp[ρ'],.inr ⟨w.heap.size,arr,rfl,hB,⟨hblk,h1,h2,?_⟩,?_⟩⟩
  .intro i x hi;obtain⟨u,g1,g2⟩:=h3.get _ _ i x hi;rw[pM]at g1;split at g1
   .refine⟨u,by grind,h4 u (by grind),aR.mono hext hmono x u g2⟩
   .cases g1
  grind
def JL(P:Program)(n:Nat)(t:TypeId)(K:Res):Prop:=∃z,lu P t=some z/\ko P t=true/\K (.ptr (sit n 0) 0) [] [(sit n 0,some ⟨t,0,z⟩)]
def Ui{t:TypeId}(ho:o.op= .alloc t){K:Res}(h:JL P n t K):∃r R W,a7 P o E σ n r R W/\K r R W:=by
 obtain⟨z,hz,hz1,hK⟩:=h;refine⟨_,_,_,a7.alloc ?_,hK⟩;intro ρ C V w hE;obtain⟨i,zv,hi,hiz,hsz,hone,rfl⟩:=rh hz hz1;refine⟨.pointer (some ⟨w.heap.size,0,none⟩),zv.cells,0,?_,λ_=>by simp,by grind,?_,hone,λρ' C' h=> ?_⟩
 .unfold execOp;rw[ho];simp[Instr.alloc,zeroValue,typeInfo,hi,hiz,newVar,newRow]
 .rw[ij (by simp)];exact pZ _
 .unfold aR;grind
def QS(n:Nat)(t:TypeId)(x:AV)(K:Res):Prop:=∃l,jK x=some l/\K (.ptr (sit n 0) 0) [] [(sit n 0,some ⟨t,0,l⟩)]
def Xj{t:TypeId}{x:Operand}(ho:o.op= .box t x){K:Res}(h:QS n t (E x) K):∃r R W,a7 P o E σ n r R W/\K r R W:=by
 obtain⟨l,hl,hK⟩:=h;refine⟨_,_,_,a7.alloc ?_,hK⟩;intro ρ C V w hE;obtain⟨h1,h2⟩:=yY hl (hE x (by rw[ho];simp[cA]));have h3:=h1.length;refine⟨.pointer (some ⟨w.heap.size,0,none⟩),(bE V x).cells,0,?_,λ_=>by omega,by grind,?_,h2,λρ' C' h=> ?_⟩
 .unfold execOp;rw[ho];simp[Instr.box,newVar,newRow]
 .grind
 .unfold aR;grind
def jo:Nat->List AV->List AV
 |0,_=>[]
 |m+1,z=>z++jo m z
def Hj(P:Program)(n:Nat)(t:TypeId)(len:Nat)(parts:List (Nat×AV))(K:Res):Prop:=∃e z,bm P t=some e/\lu P e=some z/\ko P e=true/\z≠[]/\len*ag P e<=1000000/\
 ∃l,kJ (λi=>some (i*ag P e,ag P e)) (jo len z) parts=some l/\K (.own (sit n 0) 0 len) [] [(sit n 0,some ⟨e,ag P e,l⟩)]
def yI(z:List AV):∀m,(jo m z).length=m*z.length
 |0=>by simp[jo]
 |m+1=>by simp[jo,yI z m,lL];omega
def FJ(zv:Array Value)(_hz:0<zv.size)(m:Nat):((Ce (m*zv.size)).map (λj=>zv[j % zv.size]!)).toList=(bS m zv.toList).flatten:=by
 apply List.ext_getElem?;induction m with
 |zero=>simp
 |succ m ih=>
  intro i;rw[nl,Qe];by_cases hi:i<zv.size
  .rw[ik (by omega)];have h1:i<(m+1)*zv.size:=by rw[lL];omega
   simp[h1,ni hi,hi]
  .rw[jD (by simp;omega)];have e1:(i-zv.size) % zv.size=i % zv.size:=by
    conv=>rhs;rw[show i=(i-zv.size)+zv.size by omega,Nat.add_mod_right]
   grind
def yf{ρ:Ren}{C:bF}(zs:List Value):∀m,ak ρ C (jo m (zs.map iV)) (bS m zs).flatten
 |0=>by rfl
 |m+1=>by
  rw[nl,Qe,jo];have ih:=yf (ρ:=ρ) (C:=C) zs m;refine ak.of _ _ (by simp[ih.length]) λi x hi=> ?_;by_cases h:i<(zs.map iV).length
  .rw[ik h]at hi;rw[ik (by simpa using h)];exact(pZ zs).get _ _ i x hi
  .rw[jD (by omega)]at hi;have:=ih.get _ _ _ x hi;grind
def TC{t:TypeId}{len:Nat}{parts:Array (Nat×Operand)}(ho:o.op= .buildSlice t len parts){K:Res}(h:Hj P n t len (parts.toList.map λq=>(q.1,E q.2)) K):∃r R W,a7 P o E σ n r R W/\K r R W:=by
 obtain⟨e,z,he,hz,hz1,hne,hlen,l,hl,hK⟩:=h;refine⟨_,_,_,a7.alloc ?_,hK⟩;intro ρ C V w hE;obtain⟨i,zv,hi,hiz,hsz,hone,rfl⟩:=rh hz hz1;have hsize:ag P e=zv.cells.size:=by simp[ag,hi,hsz]
 have hpos:0<zv.cells.size:=by
  rcases nj zv.cells.size with h|h
  .grind
  .exact h
 have hp:∀(j:Nat) q,(parts.toList.map λq=>(q.1,E q.2))[j]? =some q->∃v,(parts.toList.map λq=>(q.1,bE V q.2))[j]? =some (q.1,v)/\aR ρ C q.2 v:=by
  intro j q hj;rw[du]at hj|-;cases hq:parts.toList[j]? with
  |none=>grind
  |some q'=>
   rw[hq]at hj;simp only[dm,fO]at hj;subst hj;refine⟨bE V q'.2,rfl,hE q'.2 ?_⟩;simp only[cA];grind
 have hones:eu (bS len zv.cells.toList).flatten:=by intro u hu;simp only[List.mem_flatten,Qf]at hu;obtain⟨l',⟨_,rfl⟩,hu⟩:=hu;exact hone u hu
 obtain⟨vs,f1,f2,f3⟩:=yu _ (parts.toList.map λq=>(q.1,bE V q.2)) _ l _ hl (by simp) hp (yf _ len) hones;have hl2:=f2.length;have hl3:l.length=len*ag P e:=by
  have:∀(parts:List (Nat×AV)) (cs res:List AV),kJ (λi=>some (i*ag P e,ag P e)) cs parts=some res->res.length=cs.length:=by
   intro parts;induction parts with
   |nil=>intro cs res h;simp[kJ]at h;rw[h]
   |cons q parts ih=>
    intro cs res h;unfold kJ at h;split at h
    .split at h
     .rw[ih _ _ h,mM]
     .cases h
    .cases h
  rw[this _ _ _ hl,yI,d6,rM,hsize]
 refine⟨.slice (some ⟨w.heap.size,0,none⟩) len len,vs.toArray,len,?_,λh=>by omega,λ_=> ?_,?_,by omega,λρ' C' h=> ?_⟩
 .unfold execOp;rw[ho];have e1:¬(len*ag P e>2^24):=by omega
  have e2:((parts.map λq=>(q.1,bE V q.2)).toList)=(parts.toList.map λq=>(q.1,bE V q.2)):=by simp
  have e3:∀w:World,(sizeOf e).run P w= .ok (ag P e) w:=λw=>by simp[sizeOf,typeInfo,hi,ag]
  have e4:∀w:World,(zeroValue e).run P w= .ok zv w:=λw=>by simp[zeroValue,typeInfo,hi,hiz]
  by_cases h0:len*ag P e=0
  .have hl0:len=0:=by
    rcases Cc.1 h0 with h|h
    .exact h
    .omega
   subst hl0;simp only[List.replicate_zero,List.flatten_nil]at f1;simp only[Instr.buildSlice,bi,run_underlying (iq he),bq,e3,Nat.zero_mul,if_neg (show¬(0:Nat)>2^24 by omega),if_true,cF];have e6:(Ce 0).map (λx=>(#[] :Array Value)[x % (#[] :Array Value).size]!)= #[] :=by simp
   rw[e6,e2];rw[f1];simp[newRow]
  .have e5:(Ce (len*ag P e)).map (λj=>zv.cells[j % zv.cells.size]!)=(bS len zv.cells.toList).flatten.toArray:=by rw[hsize];apply kV.1;rw[FJ zv.cells hpos len]
   simp only[Instr.buildSlice,bi,run_underlying (iq he),bq,e3,if_neg e1,if_neg h0,e4,cF,e5,e2,f1];simp[newRow]
 .refine⟨?_,?_,?_⟩
  .simp;omega
  .simp;omega
  .have:len<=len*ag P e:=Qg _ (by omega);unfold maxLen;omega
 .grind
 .unfold aR;grind
end
section
variable {P:Program} {o:Oper} {E:Operand->AV} {σ:Nat->Option Ob} {n:Nat}
def vP:∀(l cs:List AV) (off:Nat),off+l.length<=cs.length->∀(i:Nat) x,(cn cs off l)[i]? =some x->(off<=i/\l[i-off]? =some x)\/((i<off\/off+l.length<=i)/\cs[i]? =some x)
 |[],cs,off,_,i,x,h=>by
  simp only[cn]at h;grind
 |y::l,cs,off,hl,i,x,h=>by
  simp only[iE]at hl;rcases vP l (cs.set off y) (off+1) (by simp;omega) i x h with⟨h1,h2⟩|⟨h1,h2⟩
  .grind
  grind
def qL(P:Program)(t:TypeId)(σ:Nat->Option Ob)(a v:AV)(K:Res):Prop:=match a with
 | .ptr s off=>∃ob l,σ s=some ob/\jK v=some l/\l.length=ag P t/\(P.info? t).isSome=true/\off+l.length<=ob.cells.length/\K .undef [s] [(s,some ⟨ob.ty,ob.esz,cn ob.cells off l⟩)]
 |_=>False
def EL{t:TypeId}{a x:Operand}(ho:o.op= .store t a x){K:Res}(h:qL P t σ (E a) (E x) K):∃r R W,a7 P o E σ n r R W/\K r R W:=by
 unfold qL at h;split at h
 case h_2=>exact h.elim
 rename_i s off ea;obtain⟨ob,l,hob,hl,hsz,ht,hoff,hK⟩:=h;refine⟨_,_,_,?_,hK⟩;intro C0 ρ g V w B hs hB hR hn hgn hE;have g1:=hE a (by rw[ho];simp[cA]);rw[ea]at g1;obtain⟨b,c,hρ,hv⟩:=g1;have hgs:g s=some ob:=by grind
 obtain⟨hBb,arr,hO⟩:=hs.at hgs hρ;obtain⟨r1,r2⟩:=yY hl (hE x (by rw[ho];simp[cA]));have hlen:=r1.length;have hle:ob.cells.length<=arr.size:=by
  by_cases hz:ob.esz=0
  .rw[hO.box hz];omega
  .exact(hO.row hz).2.1
 have hst:=run_storeCells_at P b off ob.ty (bE V x).cells.toList 0 arr w hO.blk (by omega) r2;obtain⟨i,hi⟩:=lJ.1 ht;have hsi:(bE V x).cells.size=i.size:=by
  have:ag P t=i.size:=by simp[ag,hi]
  rw[<-rM,hlen,hsz,this]
 unfold cS execOp;simp only[ho,hv,Instr.storeAt,xh,storeVar,sizeOf,typeInfo,bi,cF,bq,run_program,hi,if_neg (show¬(bE V x).cells.size≠i.size from λh=>h hsi),hst];simp only[uQ];generalize hvs:(bE V x).cells.toList=vs at*;have hblk:(w.setRow b (arr.toList.take off++vs++arr.toList.drop (off+vs.length)).toArray).heap[b]? =some (.cells (arr.toList.take off++vs++arr.toList.drop (off+vs.length)).toArray ob.ty (0,0)):=setRow_heap w b arr _ ob.ty _ hO.blk;have hold:∀k,k≠b->(w.setRow b (arr.toList.take off++vs++arr.toList.drop (off+vs.length)).toArray).heap[k]? =w.heap[k]? :=by intro k hk;unfold uR;simp only[xb];rw[if_neg (by grind)]
 have hsize:(w.setRow b (arr.toList.take off++vs++arr.toList.drop (off+vs.length)).toArray).heap.size=w.heap.size:=by unfold uR;simp
 have hlk:∀s',s'≠s->[(s,some (⟨ob.ty,ob.esz,cn ob.cells off l⟩:Ob))].lookup s'=none:=by intro s' hs';simp[cG,beq_eq_false_iff_ne.2 hs']
 have hup:∀s',s'≠s->aX g [(s,some ⟨ob.ty,ob.esz,cn ob.cells off l⟩)] s'=g s':=by intro s' hs';unfold aX;rw[hlk s' hs']
 have hmono:∀b' o' x,ai C0 B w ρ g b' o' x->ai C0 B (w.setRow b (arr.toList.take off++vs++arr.toList.drop (off+vs.length)).toArray) ρ (aX g [(s,some ⟨ob.ty,ob.esz,cn ob.cells off l⟩)]) b' o' x:=by
  intro b' o' x ⟨e1,e2,e0⟩;have hne:b'≠b:=λe=>by grind
  refine⟨(gW (hold b' hne)).trans e1,?_,e0⟩;intro s' c' e3;by_cases e:s'=s
  .grind
  .grind
 refine⟨ρ,λ_ _=>rfl,hmono,?_,by rfl,⟨rfl,rfl,rfl,by omega,by grind⟩⟩;refine hs.step (by grind) (λ_ _ h=>h) hmono ?_ ?_ λk es clock hk=>hold k (li hk hO.blk)
 .intro s' o' b' c' e1 e2 e3;refine hold b' λe=> ?_;subst e;have:=hs.inj s s' ob o' b' c c' hgs e2 hρ e3;grind
 .intro s' o' e;have e1:s'=s:=by
   rcases ii s' s with h|h
   .grind
   .exact h
  subst e1;have e2:o'=⟨ob.ty,ob.esz,cn ob.cells off l⟩:=by simp[cG]at e;exact e.symm
  subst e2;have hasz:(arr.toList.take off++vs++arr.toList.drop (off+vs.length)).toArray.size=arr.size:=by simp[fV];omega
  refine⟨some b,c,hρ,.inr ⟨b,_,rfl,hBb,⟨hblk,?_,?_,?_⟩,?_⟩⟩
  .intro hz;rw[hasz,hO.box hz];exact(mM _ _ _).symm
  .intro hz;obtain⟨k1,k2,k3⟩:=hO.row hz;rw[hasz];exact⟨k1,by rw[mM];exact k2,k3⟩
  .intro j y hj;rcases vP l ob.cells off hoff j y hj with⟨h1,h2⟩|⟨h1,h2⟩
   .obtain⟨u,k1,k2⟩:=r1.get _ _ _ y h2;refine⟨u,?_,r2 u (by grind),aR.mono (λ_ _ h=>h) hmono y u k2⟩;grind
   .obtain⟨u,k1,k3,k2⟩:=hO.cells j y h2;refine⟨u,?_,k3,aR.mono (λ_ _ h=>h) hmono y u k2⟩;grind
  .intro s2 o' c' hne e3 e4;rw[hup s2 hne]at e3;exact hne (hs.inj s' s2 ob o' b c c' hgs e3 hρ e4).symm
def jn(P:Program)(e:TypeId):Bool:=((P.info? e).bind λi=>i.zero.map λz=>z.cells.size==i.size&&decide (0<i.size)&&decide (i.bytes<=1000000)).getD false
def Bi(σ:Nat->Option Ob)(e:TypeId)(esz:Nat)(x:AV)(K:Nat->List AV->List Nat->Prop):Prop:=match x with
 | .nil=>K 0 [] []
 | .own s 0 k=>∃ob,σ s=some ob/\ob.ty=e/\ob.esz=esz/\ob.cells.length=k*esz/\K k ob.cells [s]
 |_=>False
def wQ(σ:Nat->Option Ob)(esz:Nat)(y:AV)(K:Nat->List AV->List Nat->Prop):Prop:=match y with
 | .nil=>K 0 [] []
 | .p (.sl m cs)=>cs.length=m*esz/\K m (cs.map .p) []
 | .own s o m=>∃ob l,σ s=some ob/\(ob.cells.drop o).take (m*esz)=l/\l.length=m*esz/\K m l [s]
 |_=>False
def uE(P:Program)(n:Nat)(t:TypeId)(σ:Nat->Option Ob)(x y:AV)(K:Res):Prop:=∃e,bm P t=some e/\jn P e=true/\
 Bi σ e (ag P e) x λk cs R1=>wQ σ (ag P e) y λm cs' R2=>k+m<=1000000/\
  K (.own (sit n 0) 0 (k+m)) (R1++R2) (R1.map (·,none)++[(sit n 0,some ⟨e,ag P e,cs++cs'⟩)])
def cc.vals{C:bF}:∀(l:List PV) (b off:Nat),cc C l b off->∃vs:List Value,vs.length=l.length/\(∀(i:Nat) v,vs[i]? =some v->C b (off+i) v)/\bK C l vs/\eu vs
 |[],b,off,_=>⟨[],rfl,(by grind),by rfl,λu hu=>by cases hu⟩
 |x::l,b,off,h=>by
  obtain⟨⟨v,h1,h2,h3⟩,h4⟩:=h;obtain⟨vs,g1,g2,g3,g4⟩:=cc.vals l b (off+1) h4;refine⟨v::vs,by simp[g1],?_,?_,λu hu=>by rcases bc.1 hu with rfl|hu;exact h2;exact g4 u hu⟩
  .grind
  .unfold bK;grind
def ObRep.vals{ρ:Ren}{C:bF}{w:World}{b c:Nat}{ob:Ob}{arr:Array Value}(h:ObRep ρ C w b c ob arr):ak ρ C ob.cells (arr.toList.take ob.cells.length)/\eu (arr.toList.take ob.cells.length):=by
 have hle:ob.cells.length<=arr.size:=by
  by_cases hz:ob.esz=0
  .rw[h.box hz];omega
  .exact(h.row hz).2.1
 refine⟨ak.of _ _ (by simp;omega) λi x hi=> ?_,?_⟩
 .obtain⟨v,h1,_,h3⟩:=h.cells i x hi;grind
 .intro u hu;obtain⟨i,hi,he⟩:=iF hu;simp only[fV,rM]at hi;obtain⟨v,h1,h2,_⟩:=h.cells i ob.cells[i] (by grind);grind
def Vo{C0:bF}{ρ:Ren}{g:Nat->Option Ob}{w:World}{B:Nat}(hs:StR C0 ρ g w B){e:TypeId}{esz:Nat}{x:AV}{v:Value}(hz:esz≠0)(hx:aR ρ (ai C0 B w ρ g) x v){k:Nat}{cs:List AV}{R:List Nat}
  (hd:(x= .nil/\k=0/\cs=[]/\R=[])\/∃s ob,x= .own s 0 k/\R=[s]/\g s=some ob/\ob.ty=e/\ob.esz=esz/\ob.cells.length=k*esz/\cs=ob.cells):
  ∃xs,w.ownsRow B e esz v k xs/\ak ρ (ai C0 B w ρ g) cs xs/\eu xs/\((v.ownBlock=none/\∀s∈R,∀b c,ρ s≠some (some b,c))\/∃s b c ob,R=[s]/\g s=some ob/\ρ s=some (some b,c)/\v.ownBlock=some b):=by
 rcases hd with⟨rfl,rfl,rfl,rfl⟩|⟨s,ob,rfl,rfl,h1,h2,h3,h4,rfl⟩
 .subst hx;exact⟨[],World.ownsRow_nil _ _ _ _,by rfl,(λu hu=>by cases hu),.inl ⟨rfl,by grind⟩⟩
 .obtain⟨q,c,hq,⟨rfl,hv,rfl,_⟩|⟨b,o',c',rfl,hv,h5,h6,h7⟩⟩:=hx
  .subst hv;have hc:ob.cells=[] :=by grind
   rw[hc];exact⟨[],World.ownsRow_nil _ _ _ _,by rfl,(λu hu=>by cases hu),.inl ⟨rfl,by grind⟩⟩
  .obtain⟨rfl,rfl⟩:=h7 rfl;obtain⟨hB,arr,hO⟩:=hs.at h1 hq;obtain⟨r1,r2⟩:=hO.vals;obtain⟨k1,k2,k3⟩:=hO.row (by omega);refine⟨_,⟨?_,.inr ⟨b,c',arr,hv,hB,?_,h5,k3,?_,?_⟩⟩,r1,r2,.inr ⟨s,b,c',ob,rfl,h1,hq,by rw[hv];rfl⟩⟩
   .grind
   .have:=hO.blk;grind
   .rw[k1,h3]
   .rw[h4]
def Uo{C0:bF}{ρ:Ren}{g:Nat->Option Ob}{w:World}{B:Nat}(hs:StR C0 ρ g w B){esz:Nat}{y:AV}{v:Value}(hy:aR ρ (ai C0 B w ρ g) y v){m:Nat}{cs:List AV}
  (hd:(y= .nil/\m=0/\cs=[])\/(∃l,y= .p (.sl m l)/\l.length=m*esz/\cs=l.map .p)\/∃s o ob,y= .own s o m/\g s=some ob/\(ob.cells.drop o).take (m*esz)=cs/\cs.length=m*esz):
  ∃a c us,v= .slice a m c/\us.length=m*esz/\Rd w a us/\(a=none->c=0)/\ak ρ (ai C0 B w ρ g) cs us/\eu us:=by
 rcases hd with⟨rfl,rfl,rfl⟩|⟨l,rfl,hl,rfl⟩|⟨s,oo,ob,rfl,h1,h2,h3⟩
 .exact⟨none,0,[],hy,by simp,(λi u hi=>by simp at hi),λ_=>rfl,by rfl,λu hu=>by cases hu⟩
 .obtain⟨a,c,hv,h1,h2,h3⟩:=hy;cases a with
  |none=>
   obtain⟨rfl,rfl⟩:=h2 rfl;exact⟨none,0,[],hv,hl,(λi u hi=>by simp at hi),λ_=>rfl,by rfl,λu hu=>by cases hu⟩
  |some ad=>
   obtain⟨b,off,sp⟩:=ad;obtain⟨h4,h5⟩:=h3 _ rfl;rcases nj m with hm0|hm0
   .subst hm0;have hl0:_=[] :=ig.1 (by simpa using hl);subst hl0;exact⟨_,c,[],hv,by simp,(λi u hi=>by simp at hi),(by grind),by rfl,λu hu=>by cases hu⟩
   have h4:=h4 hm0;subst h4;obtain⟨vs,k1,k2,k3,k4⟩:=h5.vals;refine⟨_,c,vs,hv,by omega,?_,(by grind),k3.toA,k4⟩;intro i u hi;have:=k2 i u hi;exact⟨b,off,rfl,fx w ⟨b,_,none⟩ this.1,this.1⟩
 .obtain⟨q,c,hq,⟨rfl,hv,rfl,rfl⟩|⟨b,o',c',rfl,hv,h5,h6,h7⟩⟩:=hy
  .have:cs=[] :=by grind
   subst this;exact⟨none,0,[],hv,by simp,(λi u hi=>by simp at hi),λ_=>rfl,by rfl,λu hu=>by cases hu⟩
  .obtain⟨hB,arr,hO⟩:=hs.at h1 hq;obtain⟨r1,r2⟩:=hO.vals;refine⟨_,c',((arr.toList.take ob.cells.length).drop oo).take (m*esz),hv,?_,?_,(by grind),by rw[<-h2];exact(r1.drop _).take _,λu hu=>r2 u (by grind)⟩
   .have:=r1.length;grind
   .intro i u hi;rw[pM]at hi;split at hi
    .rename_i hlt;have hm:m≠0:=by intro h;subst h;simp at hlt
     have e:=h6 hm;rw[uK,pM]at hi;split at hi
     .refine⟨b,o',rfl,hO.lt,?_⟩;rw[hO.cell];grind
     .cases hi
    .cases hi
def Rr{t t' ty e e':TypeId}(ht:P.underlying t=some (.slice e))(ht':P.underlying t'=some (.slice e'))(s x:Value)(w:World):
  (Builtin.append_ #[t,t'] ty #[s,x]).run P w=(Builtin.append_ #[t,t] ty #[s,x]).run P w:=by
 cases s<;>simp[Builtin.append_,run_underlying ht,run_underlying ht']
def sr{x y:Operand}{t t':TypeId}(ht':(bm P t').isSome=true)(ho:o.op= .call {callee:= .builtin .append,args:= #[x,y],argTypes:= #[t,t']}){K:Res}(h:uE P n t σ (E x) (E y) K):∃r R W,a7 P o E σ n r R W/\K r R W:=by
 obtain⟨e,he,hta,h⟩:=h;unfold jn at hta;have hx:x∈o.op.operands.toList:=by rw[ho];simp[cA,fw]
 have hy:y∈o.op.operands.toList:=by rw[ho];simp[cA,fw]
 cases hi:P.info? e with
 |none=>grind
 |some i=>
 rw[hi]at hta;simp only[kU]at hta;cases hz:i.zero with
 |none=>grind
 |some z=>
 rw[hz]at hta;simp only[dm,mF,bv,beq_iff_eq,decide_eq_true_eq]at hta;obtain⟨⟨t1,t2⟩,t3⟩:=hta;have hesz:ag P e=i.size:=by simp[ag,hi]
 have hh:∃k cs R1 m cs' R2,((E x= .nil/\k=0/\cs=[]/\R1=[])\/∃s ob,E x= .own s 0 k/\R1=[s]/\σ s=some ob/\ob.ty=e/\ob.esz=ag P e/\ob.cells.length=k*ag P e/\cs=ob.cells)/\
   ((E y= .nil/\m=0/\cs'=[]/\R2=[])\/(∃l,E y= .p (.sl m l)/\l.length=m*ag P e/\cs'=l.map .p/\R2=[])\/∃s o ob,E y= .own s o m/\σ s=some ob/\(ob.cells.drop o).take (m*ag P e)=cs'/\cs'.length=m*ag P e/\R2=[s])/\
   k+m<=1000000/\K (.own (sit n 0) 0 (k+m)) (R1++R2) (R1.map (·,none)++[(sit n 0,some ⟨e,ag P e,cs++cs'⟩)]):=by
  have tl:∀k cs R1,wQ σ (ag P e) (E y) (λm cs' R2=>k+m<=1000000/\K (.own (sit n 0) 0 (k+m)) (R1++R2) (R1.map (·,none)++[(sit n 0,some ⟨e,ag P e,cs++cs'⟩)]))->
    ∃m cs' R2,((E y= .nil/\m=0/\cs'=[]/\R2=[])\/(∃l,E y= .p (.sl m l)/\l.length=m*ag P e/\cs'=l.map .p/\R2=[])\/∃s o ob,E y= .own s o m/\σ s=some ob/\(ob.cells.drop o).take (m*ag P e)=cs'/\cs'.length=m*ag P e/\R2=[s])/\
    k+m<=1000000/\K (.own (sit n 0) 0 (k+m)) (R1++R2) (R1.map (·,none)++[(sit n 0,some ⟨e,ag P e,cs++cs'⟩)]):=by
   intro k cs R1 h;unfold wQ at h;split at h
   .rename_i ey;exact⟨0,[],[],by grind,h⟩
   .grind
   .grind
   .exact h.elim
  unfold Bi at h;split at h
  .rename_i ex;obtain⟨m,cs',R2,h1,h2⟩:=tl _ _ _ h;exact⟨0,[],[],m,cs',R2,by grind,h1,h2⟩
  .obtain⟨ob,g1,g2,g3,g4,g5⟩:=h;obtain⟨m,cs',R2,h1,h2⟩:=tl _ _ _ g5;grind
  .exact h.elim
 obtain⟨k,cs,R1,m,cs',R2,hd1,hd2,hkm,hK⟩:=hh;refine⟨_,_,_,?_,hK⟩;intro C0 ρ g V w B hs hB hR hn hgn hE;have hn:=hn _ (fL n 0);have hgn:=hgn _ (fL n 0);have hcl:∀s,cls s≠n->s≠sit n 0:=λs h e=>h (by rw[e];exact fL n 0);have hd1':(E x= .nil/\k=0/\cs=[]/\R1=[])\/∃s ob,E x= .own s 0 k/\R1=[s]/\g s=some ob/\ob.ty=e/\ob.esz=ag P e/\ob.cells.length=k*ag P e/\cs=ob.cells:=by
  rcases hd1 with h|⟨s,ob,h1,h2,h3,h4⟩
  .exact .inl h
  .grind
 have hd2':(E y= .nil/\m=0/\cs'=[])\/(∃l,E y= .p (.sl m l)/\l.length=m*ag P e/\cs'=l.map .p)\/∃s o ob,E y= .own s o m/\g s=some ob/\(ob.cells.drop o).take (m*ag P e)=cs'/\cs'.length=m*ag P e:=by
  rcases hd2 with⟨h1,h2,h3,_⟩|⟨l,h1,h2,h3,_⟩|⟨s,oo,ob,h1,h2,h3,h4,h5⟩
  .grind
  .grind
  .grind
 obtain⟨xs,hown,q1,q2,hsep⟩:=Vo hs (by omega) (hE x hx) hd1';obtain⟨a,c,us,hyv,p1,p2,p3,p4,p5⟩:=Uo hs (hE y hy) hd2';have hlenx:xs.length=k*ag P e:=hown.1;have hsuff:∀K0:Value->World->Prop,cS P {o with op:= .call {callee:= .builtin .append,args:= #[x,y],argTypes:= #[t,t]}} V w K0->cS P o V w K0:=by intro K0 h;obtain⟨e',he'⟩:=lJ.1 ht';have hr:=Rr (ty:=o.type) (iq he) (iq he') (bE V x) (bE V y) w;unfold cS execOp at*;simp only[ho,resolve,invoke,builtin,bi,cF,bq,uP,cO,lK]at*;rw[hr];exact h
 refine hsuff _ ?_;refine Tt x y t rfl B e z (ag P e) i.bytes (iq he) (by grind) (by rw[t1,hesz]) (by omega) _ k xs rfl hown a m c us hyv p1 p2 p3 p5 hkm t3 hB ?_;intro v' w' hown' hbel hgrow hblk;obtain⟨q',c',hq',hq2⟩:∃(q':Option Nat) (c':Nat),((q'=none/\v'= .slice none 0 0/\k+m=0/\c'=0/\xs++us=[])\/∃b' arr,q'=some b'/\v'= .slice (some ⟨b',0,none⟩) (k+m) c'/\B<=b'/\w'.heap[b']? =some (.cells arr e (0,0))/\k+m<=c'/\c'<=maxLen/\arr.size=c'*ag P e/\arr.toList.take ((k+m)*ag P e)=xs++us)/\True:=by
  obtain⟨o1,⟨h1,h2⟩|⟨b',c',arr,h1,h2,h3,h4,h5,h6,h7⟩⟩:=hown'
  .exact⟨none,0,.inl ⟨rfl,h1,h2,rfl,ig.1 (by grind)⟩,trivial⟩
  .exact⟨some b',c',by grind,trivial⟩
 clear hq2;generalize hnS:sit n 0=nS at*
 let ρ':Ren:=λs=>if s=nS then some (q',c')else ρ s
 let W:List (Nat×Option Ob):=R1.map (·,none)++[(nS,some ⟨e,ag P e,cs++cs'⟩)]
 show∃ρ'':Ren,(∀s,cls s≠n->ρ'' s=ρ s)/\(∀b o' x,ai C0 B w ρ g b o' x->ai C0 B w' ρ'' (aX g W) b o' x)/\StR C0 ρ'' (aX g W) w' B/\aR ρ'' (ai C0 B w' ρ'' (aX g W)) (.own nS 0 (k+m)) v'/\Below B w w';have hext:∀s q,ρ s=some q->ρ' s=some q:=by intro s q hq;show(if s=nS then _ else _)=_;rw[if_neg (by grind)];exact hq
 have hR1:∀s∈R1,s≠nS:=by
  intro s hs' e;rcases hd1' with⟨_,_,_,h⟩|⟨s',ob,_,h1,h2,_⟩
  .grind
  .grind
 have hlkn:W.lookup nS=some (some ⟨e,ag P e,cs++cs'⟩):=by
  rcases hd1' with⟨_,_,_,h⟩|⟨s',ob,_,h1,h2,_⟩
  .simp[W,h]
  .grind
 have hlkR:∀s,s∈R1->W.lookup s=some none:=by
  intro s hs';rcases hd1' with⟨_,_,_,h⟩|⟨s',ob,_,h1,h2,_⟩
  .grind
  .grind
 have hlk:∀s,s≠nS->s∉R1->W.lookup s=none:=by
  intro s h1 h2;rcases hd1' with⟨_,_,_,h⟩|⟨s',ob,_,h3,_⟩
  .grind
  .grind
 have hupR:∀s,s∈R1->aX g W s=none:=by intro s h;unfold aX;rw[hlkR s h]
 have hup:∀s,s≠nS->s∉R1->aX g W s=g s:=by intro s h1 h2;unfold aX;rw[hlk s h1 h2]
 have hrow:∀s ob b c,g s=some ob->ρ s=some (some b,c)->s∉R1->some b≠(bE V x).ownBlock:=by
  intro s ob b c e1 e2 e3 e4;rcases hsep with⟨h1,_⟩|⟨s',b',c2,ob',h1,h2,h3,h4⟩
  .grind
  .rw[h4]at e4;cases e4;have:=hs.inj s s' ob ob' b c c2 e1 h2 e2 h3;grind
 have hlt:∀s ob b c,g s=some ob->ρ s=some (some b,c)->b<w.heap.size:=by intro s ob b c e1 e2;obtain⟨_,arr,e3⟩:=hs.at e1 e2;exact e3.lt
 have hmono:∀b o' x,ai C0 B w ρ g b o' x->ai C0 B w' ρ' (aX g W) b o' x:=by
  intro b o' x' ⟨e1,e2,e0⟩;have hb:b<w.heap.size:=fx w ⟨b,o',none⟩ e1;have hnr:some b≠(bE V x).ownBlock:=by
   intro e4;rcases hsep with⟨h1,_⟩|⟨s',b',c2,ob',h1,h2,h3,h4⟩
   .grind
   .grind
  refine⟨(gW (hgrow.block b hb hnr)).trans e1,?_,e0⟩;intro s c2 e3;by_cases e:s=nS
  .subst e;simp only[ρ',if_true]at e3;cases e3;rcases hq' with⟨h1,_⟩|⟨b',arr,h1,h2,_⟩
   .cases h1
   .cases h1;rcases hblk b (by rw[h2];rfl)with h3|h3
    .grind
    .omega
  .grind
 refine⟨ρ',by grind,hmono,?_,?_,hbel⟩
 .refine hs.step ?_ hext hmono ?_ ?_ λk es clock hk=>hgrow.block k (iv hk) ?_
  rotate_left 3
  .intro e4;rcases hsep with⟨h1,_⟩|⟨s',b',c2,ob',h1,h2,h3,h4⟩
   .grind
   .rw[h4]at e4;cases e4;obtain⟨_,arr,e5⟩:=hs.at h2 h3;exact li hk e5.blk rfl
  .grind
  .intro s ob' b c2 e1 e2 e3;have e4:s∉R1:=λh=>by grind
   exact hgrow.block b (by grind) (by grind)
  .intro s ob' e1;have e2:s=nS:=by
    by_cases h1:s=nS
    .exact h1
    .grind
   subst e2;rw[hlkn]at e1;simp only[fO]at e1;subst e1;refine⟨q',c',by simp[ρ'],?_⟩;rcases hq' with⟨h1,h2,h3,h4,h5⟩|⟨b',arr,h1,h2,h3,h4,h5,h6,h7,h8⟩
   .refine .inl ⟨h1,by grind,?_,h4⟩;have l1:=q1.length;have l2:=p4.length;have l3:=congrArg fh h5;simp only[dn,iM]at l3;rw[List.append_eq_nil_iff];exact⟨ig.1 (by omega),ig.1 (by omega)⟩
   .refine .inr ⟨b',arr,h1,h3,⟨h4,by grind,λ_=>⟨h7,?_,h6⟩,?_⟩,?_⟩
    .have l1:=q1.length;have l2:=p4.length;rw[h7,dn,<-l1,<-l2,hlenx,p1,<-lL];exact Nat.mul_le_mul_right _ h5
    .intro j u hj;have l1:=q1.length;have hjj:∃v,(xs++us)[j]? =some v/\v.oneCell'=true/\aR ρ (ai C0 B w ρ g) u v:=by
      by_cases hlt2:j<cs.length
      .rw[ik hlt2]at hj;obtain⟨v,g1,g2⟩:=q1.get _ _ j u hj;exact⟨v,by grind,q2 v (by grind),g2⟩
      .rw[jD (by omega)]at hj;obtain⟨v,g1,g2⟩:=p4.get _ _ _ u hj;exact⟨v,by grind,p5 v (by grind),g2⟩
     obtain⟨v,g1,g2,g3⟩:=hjj;refine⟨v,?_,g2,aR.mono hext hmono u v g3⟩;grind
    .intro s' o' c2 hne e3 e4;have e5:s'∉R1:=λh=>by grind
     rcases hblk b' (by rw[h2];rfl)with h9|h9
     .grind
     grind
 .unfold aR;grind
end
def wc(C0:bF)(B:Nat)(w:World):bF:=λb o v=>w.cell? ⟨b,o,none⟩=some v/\(B<=b\/C0 b o v)
def cI{α β:Type}(f:α->Option β):List α->Option (List β)
 |[] =>some []
 |x::l=>match f x,cI f l with
  |some y,some m=>some (y::m)
  |_,_=>none
def bD{α β:Type}(f:α->List β):List α->List β
 |[] =>[]
 |x::l=>f x++bD f l
def ci:Nat->(Nat->Option Ob)->AV->Option PV
 |_,_,.p x=>some x
 |_,_,.nil=>some (.sl 0 [])
 |d+1,σ,.own s o m=>(σ s).bind λob=>(cI (ci d σ) ob.cells).map λl=> .sl m ((l.drop o).take (m*ob.esz))
 |d+1,σ,.ptr s off=>(σ s).bind λob=>(cI (ci d σ) ob.cells).map λl=> .pro l off
 |d+1,σ,.agg l=>(cI (ci d σ) l).map .agg
 |d+1,σ,.fn f a b=>(cI (ci d σ) a).bind λx=>(cI (ci d σ) b).map λy=> .fn f x y
 |_,_,_=>none
def bZ:Nat->(Nat->Option Ob)->AV->List Nat
 |0,_,_=>[]
 |d+1,σ,.own s _ _=>s::(match σ s with|some ob=>bD (bZ d σ) ob.cells|none=>[])
 |d+1,σ,.ptr s _=>s::(match σ s with|some ob=>bD (bZ d σ) ob.cells|none=>[])
 |d+1,σ,.agg l=>bD (bZ d σ) l
 |d+1,σ,.fn _ a b=>bD (bZ d σ) a++bD (bZ d σ) b
 |_,_,_=>[]
def Ah(d:Nat)(σ:Nat->Option Ob)(x:PV):ci d σ (.p x)=some x:=by cases d<;>rfl
def oe(d:Nat)(σ:Nat->Option Ob):∀(l:List PV),cI (ci d σ) (l.map .p)=some l
 |[] =>rfl
 |x::l=>by simp only[cO,cI,Ah,oe d σ l]
def IS(d:Nat)(σ:Nat->Option Ob)(x:PV):bZ d σ (.p x)=[] :=by cases d<;>rfl
def kD(d:Nat)(σ:Nat->Option Ob):∀(l:List PV),bD (bZ d σ) (l.map .p)=[]
 |[] =>rfl
 |x::l=>by simp only[cO,bD,IS,kD d σ l,List.append_nil]
def jc{α β:Type}{f:α->List β}{x:α}{y:β}:∀{l:List α},x∈l->y∈f x->y∈bD f l
 |a::l,h,hy=>by
  rcases bc.1 h with rfl|h
  .exact fy _ hy
  .exact fi _ (jc h hy)
def jH{α β:Type}{f:α->Option β}:∀{l:List α} {m:List β},cI f l=some m->l.length=m.length/\∀(i:Nat) x,l[i]? =some x->∃y,m[i]? =some y/\f x=some y
 |[],m,h=>by simp[cI]at h;grind
 |a::l,m,h=>by
  unfold cI at h;split at h
  .rename_i y r h1 h2;obtain⟨g1,g2⟩:=jH h2;grind
  .cases h
section
variable {P:Program}
def vM{C0:bF}{ρ:Ren}{g σ:Nat->Option Ob}{w:World}{B:Nat}(hs:StR C0 ρ g w B)(T:bF)(S:Nat->Prop)(hfull:∀b o v,ai C0 B w ρ g b o v->T b o v)(hT:∀s ob b c,S s->g s=some ob->ρ s=some (some b,c)->B<=b->∀o v,w.cell? ⟨b,o,none⟩=some v->T b o v):∀(d:Nat) (x:AV) (y:PV) (v:Value),ci d σ x=some y->(∀s∈bZ d σ x,S s/\g s=σ s)->aR ρ (ai C0 B w ρ g) x v->az T y v:=by
 intro d;induction d with
 |zero=>
  intro x y v h hr hx;unfold ci at h;split at h<;>first|(cases h;done)|skip
  .cases h;exact az.mono hfull _ v hx
  .cases h;unfold aR at hx;unfold az;grind
  all_goals (rename_i e;cases e)
 |succ d ih=>
  have ihL:∀(l:List AV) (m:List PV) (vs:List Value),cI (ci d σ) l=some m->(∀s∈bD (bZ d σ) l,S s/\g s=σ s)->ak ρ (ai C0 B w ρ g) l vs->bK T m vs:=by
   intro l m vs h hr hv;obtain⟨h1,h2⟩:=jH h;refine bK.of _ _ (by rw[<-h1];exact hv.length) λi y hi=> ?_;have hlt:i<l.length:=by rw[h1];grind
   obtain⟨y',h3,h4⟩:=h2 i l[i] (by grind);rw[hi]at h3;cases h3;obtain⟨v,h5,h6⟩:=hv.get _ _ i l[i] (by grind);exact⟨v,h5,ih _ _ v h4 (λs hs'=>hr s (jc (by grind) hs')) h6⟩
  have ihC:∀(s b c:Nat) (ob:Ob) (m:List PV),S s->g s=some ob->ρ s=some (some b,c)->cI (ci d σ) ob.cells=some m->(∀s∈bD (bZ d σ) ob.cells,S s/\g s=σ s)->cc T m b 0:=by
   intro s b c ob m hS h1 h2 h3 h4;obtain⟨hBb,arr,hO⟩:=hs.at h1 h2;obtain⟨g1,g2⟩:=jH h3;refine cc.of _ _ _ λi y hi=> ?_;have hlt:i<ob.cells.length:=by rw[g1];grind
   obtain⟨y',h5,h6⟩:=g2 i ob.cells[i] (by grind);rw[hi]at h5;cases h5;obtain⟨v,k1,k2,k3⟩:=hO.cells i ob.cells[i] (by grind);refine⟨v,?_,k2,ih _ _ v h6 (λs hs'=>h4 s (jc (by grind) hs')) k3⟩;refine hT s ob b c hS h1 h2 hBb _ _ ?_;rw[Nat.zero_add,hO.cell];exact k1
  intro x y v h hr hx;unfold ci at h;split at h
  .cases h;exact az.mono hfull _ v hx
  .cases h;unfold aR at hx;unfold az;grind
  .rename_i σ _ _ _ d' s o m e;cases e;simp only[jx,iO]at h;obtain⟨ob,h1,l,h2,rfl⟩:=h;have hg:g s=some ob:=(hr s (by simp[bZ])).2.trans h1;have hSs:=(hr s (by simp[bZ])).1;have hr2:∀s'∈bD (bZ d σ) ob.cells,S s'/\g s'=σ s':=λs' hs'=>hr s' (by simp only[bZ,h1];grind);unfold az;obtain⟨q,c,hq,⟨rfl,hv,rfl,rfl⟩|⟨b,o',c',rfl,hv,h5,h6,h7⟩⟩:=hx
   .grind
   .refine⟨_,c',hv,h5,(by grind),λad e=> ?_⟩;cases e;by_cases hm:m=0
    .subst hm;simp;trivial
    .have e:=h6 hm;have:=((ihC s b c ob l hSs hg hq h2 hr2).drop o').take (m*ob.esz);grind
  .rename_i σ _ _ _ d' s off e;simp only[jx,iO]at h;obtain⟨ob,h1,l,h2,rfl⟩:=h;have hg:g s=some ob:=(hr s (by simp[bZ])).2.trans h1;have hSs:=(hr s (by simp[bZ])).1;have hr2:∀s'∈bD (bZ d σ) ob.cells,S s'/\g s'=σ s':=λs' hs'=>hr s' (by simp only[bZ,h1];grind);unfold aR at hx;unfold az;grind
  .rename_i d' l e;cases e;simp only[iO]at h;obtain⟨m,h2,rfl⟩:=h;obtain⟨vs,h3,h4,h5⟩:=hx;exact⟨vs,h3,ihL l m vs h2 (λs hs'=>hr s hs') h4,h5⟩
  .rename_i d' f a b e;cases e;simp only[jx,iO]at h;obtain⟨x1,h1,x2,h2,rfl⟩:=h;obtain⟨vs1,vs2,h3,h4,h5⟩:=hx;exact⟨vs1,vs2,h3,ihL a x1 vs1 h1 (λs hs'=>hr s (fy _ hs')) h4,ihL b x2 vs2 h2 (λs hs'=>hr s (fi _ hs')) h5⟩
  .cases h
def gF(P:Program)(f:FuncId):Bool:=((P.funcs[f]?).map λfn=> !(fn.name== "runtime.NumGoroutine")&& !fn.body.isNone).getD false
def Sat(P:Program)(fr:Bool)(f:FuncId)(A:List PV)(r:PV):Prop:=gF P f=true/\
 ∀(C:bF) (w:World) (vs:List Value),(∀b o v,C b o v->w.cell? ⟨b,o,none⟩=some v)->bK C A vs->
  Calls P f vs.toArray w λe w'=>∃v,e= .returned v/\az (λb o x=>(fr=false/\C b o x)\/(w.heap.size<=b/\w'.cell? ⟨b,o,none⟩=some x)) r v/\Below w.heap.size w w'
def j6{f:FuncId}(h:gF P f=true)(args:Array Value)(w:World):(callFunc f args).run P w= .ok (.enter f args) w:=by
 unfold gF at h;cases hf:P.funcs[f]? with
 |none=>grind
 |some fn=>
  rw[hf]at h;simp only[dm,mF,bv,Qb]at h;simp only[callFunc,bi,run_program,bq,hf,h.1,h.2,ng,if_false,cF]
structure Lent(C:bF)(w:World)(b c:Nat)(ty:TypeId)(esz:Nat)(cells:List PV)(arr:Array Value):Prop where
 blk:w.heap[b]? =some (.cells arr ty (0,0))
 box:esz=0->arr.size=cells.length
 row:esz≠0->arr.size=c*esz/\cells.length<=arr.size/\c<=maxLen
 cells:∀(i:Nat) x,cells[i]? =some x->∃v,arr[i]? =some v/\v.oneCell'=true/\az C x v
def LW(n:Option Nat)(b c:Nat):Value:=match n with
 |none=> .pointer (some ⟨b,0,none⟩)
 |some n=> .slice (some ⟨b,0,none⟩) n c
def nf(P:Program)(f:FuncId)(n:Option Nat)(A:List PV)(ty:TypeId)(esz:Nat)(cells cells':List PV):Prop:=gF P f=true/\cells'.length=cells.length/\
 (∀(C:bF) (w:World) (b c:Nat) (arr:Array Value) (vs:List Value),(∀b' o v,C b' o v->w.cell? ⟨b',o,none⟩=some v/\b'≠b)->Lent C w b c ty esz cells arr->(∀m,n=some m->m<=c)->bK C A vs->
   Calls P f (LW n b c::vs).toArray w λe w'=>∃arr',e= .returned Go.undef/\Lent C w' b c ty esz cells' arr'/\w.grownBy w' (some b))/\
 (n=some 0->∀(C:bF) (w:World) (vs:List Value),(∀b' o v,C b' o v->w.cell? ⟨b',o,none⟩=some v)->bK C A vs->
   Calls P f (.slice none 0 0::vs).toArray w λe w'=>e= .returned Go.undef/\Below w.heap.size w w')
def AJ(P:Program)(σ:Nat->Option Ob)(f:FuncId)(avs:List AV)(K:Res):Prop:=match avs with
 | .ptr s 0::rest=>∃ty cells,σ s=some ⟨ty,0,cells.map .p⟩/\∃A cells',bJ rest=some A/\nf P f none A ty 0 cells cells'/\K .undef [s] [(s,some ⟨ty,0,cells'.map .p⟩)]
 | .own s 0 n::rest=>∃ty esz cells,σ s=some ⟨ty,esz,cells.map .p⟩/\esz≠0/\∃A cells',bJ rest=some A/\nf P f (some n) A ty esz cells cells'/\K .undef [s] [(s,some ⟨ty,esz,cells'.map .p⟩)]
 |_=>False
def XO(P:Program)(σ:Nat->Option Ob)(f:FuncId)(avs:List AV)(K:Res):Prop:=
 ∃A,cI (ci 3 σ) avs=some A/\∃fr r,Sat P fr f A r/\(((fr=true\/bJ avs=some A)/\K (.p r) (bD (bZ 3 σ) avs) [])\/K (.p r) (bD (bZ 3 σ) avs) ((bD (bZ 3 σ) avs).map (·,none)))
def rJ(σ:Nat->Option Ob):List AV->List PV->List Nat->Prop
 |[],[],R=>R=[]
 |x::l,y::m,R=>∃R1 R2,R=R1++R2/\((y= .junk/\R1=[])\/(ci 3 σ x=some y/\R1=bZ 3 σ x))/\rJ σ l m R2
 |_,_,_=>False
def XN(P:Program)(σ:Nat->Option Ob)(f:FuncId)(avs:List AV)(K:Res):Prop:=∃A R r,rJ σ avs A R/\Sat P true f A r/\K (.p r) R []
def lk(P:Program)(σ:Nat->Option Ob)(f:FuncId)(avs:List AV)(K:Res):Prop:=XO P σ f avs K\/AJ P σ f avs K\/XN P σ f avs K
def wk(P:Program)(σ:Nat->Option Ob)(fv:AV)(args:List AV)(K:Res):Prop:=match fv with
 | .fn (.func f) first caps=>lk P σ f (first++args++caps) K
 | .p (.fn (.func f) first caps)=>lk P σ f (first.map .p++args++caps.map .p) K
 |_=>False
variable {o:Oper} {E:Operand->AV} {σ:Nat->Option Ob} {n:Nat}
def ak.append{ρ:Ren}{C:bF}{l m:List AV}{vs us:List Value}(h:ak ρ C l vs)(k:ak ρ C m us):ak ρ C (l++m) (vs++us):=
 ak.of _ _ (by simp[h.length,k.length]) λi x hi=>by
  have hl:=h.length;by_cases hlt:i<l.length
  .rw[ik hlt]at hi;rw[ik (by omega)];exact h.get _ _ i x hi
  .rw[jD (by omega)]at hi;rw[jD (by omega),hl];exact k.get _ _ _ x hi
def Ep{s n0:Nat}{nn:Option Nat}{f:FuncId}{A:List PV}{ty esz:Nat}{cells cells':List PV}(hob:σ s=some ⟨ty,esz,cells.map .p⟩)(hS:nf P f nn A ty esz cells cells')
  (hkind:(nn=none/\esz=0)\/(nn=some n0/\esz≠0))
  (hrun:∀(ρ:Ren) (C:bF) (V:Nat->Value) (w:World),(∀x∈o.op.operands.toList,aR ρ C (E x) (bE V x))->∃v us,(execOp (bE V) o).run P w= .ok (.enter f (v::us).toArray) w/\bK C A us/\
    aR ρ C (match nn with|none=> .ptr s 0|some n0=> .own s 0 n0) v):a7 P o E σ n .undef [s] [(s,some ⟨ty,esz,cells'.map .p⟩)] :=by
 obtain⟨_,hlen,hcall,hnil⟩:=hS;intro C0 ρ g V w B hs hB hR hn hgn hE;obtain⟨v,us,hr,hA,hv⟩:=hrun ρ _ V w hE;have hgs:g s=some ⟨ty,esz,cells.map .p⟩:=by grind
 unfold cS;rw[hr];dsimp only;have hlk:∀s',s'≠s->[(s,some (⟨ty,esz,cells'.map .p⟩:Ob))].lookup s'=none:=by intro s' hs';simp[cG,beq_eq_false_iff_ne.2 hs']
 have hup:∀s',s'≠s->aX g [(s,some ⟨ty,esz,cells'.map .p⟩)] s'=g s':=by intro s' hs';unfold aX;rw[hlk s' hs']
 have hat:∀s' o',[(s,some (⟨ty,esz,cells'.map .p⟩:Ob))].lookup s'=some (some o')->s'=s/\o'=⟨ty,esz,cells'.map .p⟩:=by
  intro s' o' e;have e1:s'=s:=by
   rcases ii s' s with h|h
   .grind
   .exact h
  subst e1;simp[cG]at e;exact⟨rfl,e.symm⟩
 have hlt:∀s ob b c,g s=some ob->ρ s=some (some b,c)->b<w.heap.size:=by intro s ob b c e1 e2;obtain⟨_,arr,e3⟩:=hs.at e1 e2;exact e3.lt
 have real:∀b c,ρ s=some (some b,c)->v=LW nn b c->(∀m,nn=some m->m<=c)->
   Calls P f (v::us).toArray w λe w''=>∃v,e= .returned v/\∃ρ':Ren,(∀s,cls s≠n->ρ' s=ρ s)/\(∀b o' x,ai C0 B w ρ g b o' x->ai C0 B w'' ρ' (aX g [(s,some ⟨ty,esz,cells'.map .p⟩)]) b o' x)/\
    StR C0 ρ' (aX g [(s,some ⟨ty,esz,cells'.map .p⟩)]) w'' B/\aR ρ' (ai C0 B w'' ρ' (aX g [(s,some ⟨ty,esz,cells'.map .p⟩)])) .undef v/\Below B w w'':=by
  intro b c hρ hv hnc;obtain⟨hBb,arr,hO⟩:=hs.at hgs hρ;subst hv;have hL:Lent (ai C0 B w ρ g) w b c ty esz cells arr:=by refine⟨hO.blk,λh=>by simpa using hO.box h,λh=>by simpa using hO.row h,λi x hi=> ?_⟩;obtain⟨u,h1,h2,h3⟩:=hO.cells i (.p x) (by grind);unfold aR at h3;grind
  refine(hcall _ w b c arr us (λb' o' x hx=>⟨hx.1,λe=>by subst e;have:=hx.2.1 s c hρ;grind⟩) hL hnc hA).mono ?_;rintro e w' ⟨arr',rfl,hL',hG⟩;have hold:∀k,k<w.heap.size->k≠b->w'.heap[k]? =w.heap[k]? :=λk h1 h2=>hG.block k h1 (by grind);have hmono:∀b' o' x,ai C0 B w ρ g b' o' x->ai C0 B w' ρ (aX g [(s,some ⟨ty,esz,cells'.map .p⟩)]) b' o' x:=by
   intro b' o' x ⟨e1,e2,e0⟩;have hne:b'≠b:=λe=>by grind
   refine⟨(gW (hold b' (fx w ⟨b',o',none⟩ e1) hne)).trans e1,?_,e0⟩;intro s' c' e3;by_cases e:s'=s
   .grind
   .grind
  refine⟨_,rfl,ρ,λ_ _=>rfl,hmono,?_,by rfl,⟨hG.os,hG.tape,hG.output,hG.size,by grind⟩⟩;refine hs.step (by grind) (λ_ _ h=>h) hmono ?_ ?_ λk es clock hk=>hold k (iv hk) (li hk hO.blk)
  .intro s' o' b' c' e1 e2 e3;refine hold b' (by grind) λe=> ?_;subst e;have:=hs.inj s s' _ o' b' c c' hgs e2 hρ e3;grind
  .intro s' o' e;obtain⟨rfl,rfl⟩:=hat s' o' e;refine⟨some b,c,hρ,.inr ⟨b,arr',rfl,hBb,⟨hL'.blk,λh=>by simpa using hL'.box h,λh=>by simpa using hL'.row h,?_⟩,?_⟩⟩
   .intro i x hi;rw[du]at hi;cases hc:cells'[i]? with
    |none=>grind
    |some y=>
     rw[hc]at hi;simp only[dm,fO]at hi;subst hi;obtain⟨u,h1,h2,h3⟩:=hL'.cells i y hc;exact⟨u,h1,h2,by exact az.mono hmono y u h3⟩
   .intro s2 o' c' hne e3 e4;rw[hup s2 hne]at e3;exact hne (hs.inj s' s2 _ o' b c c' hgs e3 hρ e4).symm
 rcases hkind with⟨rfl,he⟩|⟨rfl,he⟩
 .obtain⟨b,c,hρ,hv⟩:=hv;exact real b c hρ hv (by grind)
 .obtain⟨q,c,hρ,⟨rfl,hv,rfl,_⟩|⟨b,o',c',rfl,hv,h5,h6,h7⟩⟩:=hv
  .subst hv;have hcn:cells'=[] :=by
    obtain⟨q,c2,h1,⟨_,h2|h2⟩|⟨b,arr,h2,_⟩⟩:=hs.ob s _ hgs
    rotate_left
    .grind
    rotate_left
    .have:(cells.map AV.p)=[] :=h2.2.1;have:cells.length=0:=by simpa using congrArg fh this
     grind
    .grind
   refine(hnil rfl _ w us (λb' o' x hx=>hx.1) hA).mono ?_;rintro e w' ⟨rfl,hb⟩;have hold:∀k,k<w.heap.size->w'.heap[k]? =w.heap[k]? :=λk hk=>hb.block k hk;have hmono:∀b' o' x,ai C0 B w ρ g b' o' x->ai C0 B w' ρ (aX g [(s,some ⟨ty,esz,cells'.map .p⟩)]) b' o' x:=by
    intro b' o' x ⟨e1,e2,e0⟩;refine⟨(gW (hold b' (fx w ⟨b',o',none⟩ e1))).trans e1,?_,e0⟩;intro s' c' e3;by_cases e:s'=s
    .grind
    .grind
   refine⟨_,rfl,ρ,λ_ _=>rfl,hmono,?_,by rfl,hb.mono hB⟩;refine hs.step (by grind) (λ_ _ h=>h) hmono (by grind) ?_ (by grind);intro s' o' e;obtain⟨rfl,rfl⟩:=hat s' o' e;obtain⟨q,c2,h1,⟨_,h2|h2⟩|⟨b,arr,h2,_⟩⟩:=hs.ob s' _ hgs
   .grind
   .grind
   grind
  .obtain⟨rfl,rfl⟩:=h7 rfl;exact real b c' hρ hv (by grind)
def Ua{c:Call}{f:Operand}{fid:FuncId}{first caps:List AV}(hfm:f∈o.op.operands.toList)(ham:∀x∈c.args.toList,x∈o.op.operands.toList)(ho:o.op= .call c)(hc:c.callee= .value f)
  (hfv:∀ρ C v,aR ρ C (E f) v->∃vs1 vs2:List Value,v= .func (.func fid) vs1.toArray vs2.toArray/\ak ρ C first vs1/\ak ρ C caps vs2) {K:Res}
  (h:AJ P σ fid (first++c.args.toList.map E++caps) K):∃r R W,a7 P o E σ n r R W/\K r R W:=by
 have hrun:gF P fid=true->∀(ρ:Ren) (C:bF) (V:Nat->Value) (w:World),(∀x∈o.op.operands.toList,aR ρ C (E x) (bE V x))->∃us,(execOp (bE V) o).run P w= .ok (.enter fid us.toArray) w/\ak ρ C (first++c.args.toList.map E++caps) us:=by
  intro hok ρ C V w hE;obtain⟨vs1,vs2,hv,q1,q2⟩:=hfv _ _ _ (hE f hfm);have hargs:∀l:List Operand,(∀x∈l,x∈o.op.operands.toList)->ak ρ C (l.map E) (l.map (bE V)):=by
   intro l;induction l with
   |nil=>intro _;rfl
   |cons x l ih=>
    unfold ak;grind
  refine⟨vs1++c.args.toList.map (bE V)++vs2,?_,(q1.append (hargs _ ham)).append q2⟩;unfold execOp;rw[ho];have e2:vs1.toArray++np (bE V) c.args++vs2.toArray=(vs1++c.args.toList.map (bE V)++vs2).toArray:=by apply kV.1;simp
  simp only[resolve,hc,hv,nq,bi,cF,bq,invoke,j6 hok,e2]
 generalize first++c.args.toList.map E++caps=avs at h hrun
 unfold AJ at h;split at h
 .obtain⟨ty,cells,hob,A,cells',hA,hS,hK⟩:=h;refine⟨_,_,_,Ep (n0:=0) hob hS (by grind) ?_,hK⟩;intro ρ C V w hE;obtain⟨us,h1,h2⟩:=hrun hS.1 ρ C V w hE;obtain⟨v,r,rfl,h3,h4⟩:=h2;exact⟨v,r,h1,mq hA h4,h3⟩
 .rename_i s k rest;obtain⟨ty,esz,cells,hob,he,A,cells',hA,hS,hK⟩:=h;refine⟨_,_,_,Ep (n0:=k) hob hS (by grind) ?_,hK⟩;intro ρ C V w hE;obtain⟨us,h1,h2⟩:=hrun hS.1 ρ C V w hE;obtain⟨v,r,rfl,h3,h4⟩:=h2;exact⟨v,r,h1,mq hA h4,h3⟩
 grind
def rJ.rep{P:Program}{C0:bF}{ρ:Ren}{g σ:Nat->Option Ob}{w:World}{B:Nat}(hs:StR C0 ρ g w B):∀{l:List AV} {A:List PV} {R:List Nat} {vs:List Value},rJ σ l A R->(∀s∈R,g s=σ s)->ak ρ (ai C0 B w ρ g) l vs->bK (wc C0 B w) A vs
 |[],[],_,vs,_,_,hv=>by unfold ak at hv;subst hv;rfl
 |x::l,y::m,R,vs,h,hR,hv=>by
  obtain⟨R1,R2,rfl,h1,h2⟩:=h;obtain⟨v,r,rfl,h3,h4⟩:=hv;refine⟨v,r,rfl,?_,rJ.rep (P:=P) hs h2 (λs hs'=>hR s (fi _ hs')) h4⟩;rcases h1 with⟨rfl,_⟩|⟨h1,rfl⟩
  .trivial
  .exact vM hs (wc C0 B w) (λ_=>True) (λb o v h=>⟨h.1,h.2.2⟩) (λs ob b c _ _ _ hb o v h=>⟨h,.inl hb⟩) 3 x y v h1 (λs hs'=>⟨trivial,hR s (fy _ hs')⟩) h3
 |[],_::_,_,_,h,_,_=>h.elim
 |_::_,[],_,_,h,_,_=>h.elim
def WD{c:Call}{f:Operand}(ho:o.op= .call c)(hc:c.callee= .value f){K:Res}(h:wk P σ (E f) (c.args.toList.map E) K):∃r R W,a7 P o E σ n r R W/\K r R W:=by
 have hfm:f∈o.op.operands.toList:=by rw[ho];simp[cA,fw,hc]
 have ham:∀x∈c.args.toList,x∈o.op.operands.toList:=by intro x hx;rw[ho];simp[cA,fw];exact .inr (by grind)
 have key:∀(fid:FuncId) (first caps:List AV),(∀ρ C v,aR ρ C (E f) v->∃vs1 vs2:List Value,v= .func (.func fid) vs1.toArray vs2.toArray/\ak ρ C first vs1/\ak ρ C caps vs2)->
   lk P σ fid (first++c.args.toList.map E++caps) K->∃r R W,a7 P o E σ n r R W/\K r R W:=by
  intro fid first caps hfv hgo
  refine xk hgo ?_ (λhgo=>xk hgo (λhgo=>Ua hfm ham ho hc hfv hgo) ?_)
  rotate_left
  .rintro⟨A,R,r,hA,⟨hok,hcalls⟩,hK⟩;refine⟨_,_,_,?_,hK⟩;intro C0 ρ g V w B hs hB hR hn hgn hE;obtain⟨vs1,vs2,hv,q1,q2⟩:=hfv _ _ _ (hE f hfm);have hargs:∀l:List Operand,(∀x∈l,x∈o.op.operands.toList)->ak ρ (ai C0 B w ρ g) (l.map E) (l.map (bE V)):=by
    intro l;induction l with
    |nil=>intro _;rfl
    |cons x l ih=>
     unfold ak;grind
   have hall:=(q1.append (hargs _ ham)).append q2;have hrun:(execOp (bE V) o).run P w= .ok (.enter fid (vs1++c.args.toList.map (bE V)++vs2).toArray) w:=by
    unfold execOp;rw[ho];have e2:vs1.toArray++np (bE V) c.args++vs2.toArray=(vs1++c.args.toList.map (bE V)++vs2).toArray:=by apply kV.1;simp
    simp only[resolve,hc,hv,nq,bi,cF,bq,invoke,j6 hok,e2]
   unfold cS;rw[hrun];dsimp only;refine(hcalls (wc C0 B w) w _ (λb o v h=>h.1) (hA.rep (P:=P) hs hR hall)).mono ?_;rintro e w' ⟨v,rfl,hr,hbel⟩;have hlive:∀s ob b c,g s=some ob->ρ s=some (some b,c)->b<w.heap.size:=by intro s ob b c e1 e2;obtain⟨_,arr,e3⟩:=hs.at e1 e2;exact e3.lt
   have hold:∀b,b<w.heap.size->w'.heap[b]? =w.heap[b]? :=λb hb=>hbel.block b hb;have hmono:∀b o' x,ai C0 B w ρ g b o' x->ai C0 B w' ρ g b o' x:=by intro b o' x ⟨e1,e2,e0⟩;exact⟨(gW (hold b (fx w ⟨b,o',none⟩ e1))).trans e1,e2,e0⟩
   refine⟨v,rfl,ρ,λ_ _=>rfl,hmono,?_,?_,hbel.mono hB⟩
   .exact hs.step (by grind) (λ_ _ h=>h) hmono (by grind) (by grind) (by grind)
   .refine az.mono ?_ r v hr;rintro b o' x (⟨h1,h2⟩|⟨h1,h2⟩)
    .cases h1
    .refine⟨h2,?_,by grind⟩;intro s c' e3;show g s=none;cases hgs:g s with
     |none=>rfl
     |some ob=>grind
  rintro⟨A,hA,fr,r,hsat,hcase⟩;have sim:∀W:List (Nat×Option Ob),(W=[]/\(fr=true\/bJ (first++c.args.toList.map E++caps)=some A))\/W=(bD (bZ 3 σ) (first++c.args.toList.map E++caps)).map (·,none)->a7 P o E σ n (.p r) (bD (bZ 3 σ) (first++c.args.toList.map E++caps)) W:= ?_
  .grind
  intro W hW;intro C0 ρ g V w B hs hB hR hn hgn hE;obtain⟨vs1,vs2,hv,q1,q2⟩:=hfv _ _ _ (hE f hfm);have hargs:∀l:List Operand,(∀x∈l,x∈o.op.operands.toList)->ak ρ (ai C0 B w ρ g) (l.map E) (l.map (bE V)):=by
   intro l;induction l with
   |nil=>intro _;rfl
   |cons x l ih=>
    unfold ak;grind
  have hall:=(q1.append (hargs _ ham)).append q2;obtain⟨hok,hcalls⟩:=hsat;have hrun:(execOp (bE V) o).run P w= .ok (.enter fid (vs1++c.args.toList.map (bE V)++vs2).toArray) w:=by
   unfold execOp;rw[ho];have e2:vs1.toArray++np (bE V) c.args++vs2.toArray=(vs1++c.args.toList.map (bE V)++vs2).toArray:=by apply kV.1;simp
   simp only[resolve,hc,hv,nq,bi,cF,bq,invoke,j6 hok,e2]
  have hlive:∀s ob b c,g s=some ob->ρ s=some (some b,c)->b<w.heap.size:=by intro s ob b c e1 e2;obtain⟨_,arr,e3⟩:=hs.at e1 e2;exact e3.lt
  have hnone:∀s x,W.lookup s=some x->W.lookup s=some none:=by
   intro s x h;rcases hW with⟨rfl,_⟩|rfl
   .simp at h
   .have key:∀l:List Nat,(l.map (·,(none:Option Ob))).lookup s=some x->x=none:=by
     intro l;induction l with
     |nil=>grind
     |cons k l ih=>
      grind
    grind
  have hdrop:∀b o' x,ai C0 B w ρ g b o' x->ai C0 B w ρ (aX g W) b o' x:=by
   intro b o' x ⟨e1,e2,e0⟩;refine⟨e1,λs c' e3=> ?_,e0⟩;unfold aX;split
   .grind
   .grind
  unfold cS;rw[hrun];dsimp only;have fin:∀(C:bF),(∀b o v,C b o v->w.cell? ⟨b,o,none⟩=some v)->bK C A (vs1++c.args.toList.map (bE V)++vs2)->(fr=false->∀b o v,C b o v->ai C0 B w ρ (aX g W) b o v)->
    Calls P fid (vs1++c.args.toList.map (bE V)++vs2).toArray w λe w''=>∃v,e= .returned v/\∃ρ':Ren,(∀s,cls s≠n->ρ' s=ρ s)/\(∀b o' x,ai C0 B w ρ g b o' x->ai C0 B w'' ρ' (aX g W) b o' x)/\StR C0 ρ' (aX g W) w'' B/\aR ρ' (ai C0 B w'' ρ' (aX g W)) (.p r) v/\Below B w w'':=by
   intro C hC hrep hCC;refine(hcalls C w _ hC hrep).mono ?_;rintro e w' ⟨v,rfl,hr,hbel⟩;have hold:∀b,b<w.heap.size->w'.heap[b]? =w.heap[b]? :=λb hb=>hbel.block b hb;have hmono:∀b o' x,ai C0 B w ρ (aX g W) b o' x->ai C0 B w' ρ (aX g W) b o' x:=by intro b o' x ⟨e1,e2,e0⟩;exact⟨(gW (hold b (fx w ⟨b,o',none⟩ e1))).trans e1,e2,e0⟩
   refine⟨v,rfl,ρ,λ_ _=>rfl,by grind,?_,?_,hbel.mono hB⟩
   .refine hs.step (by grind) (λ_ _ h=>h) (by grind) ?_ (by grind) (by grind);grind
   .refine az.mono ?_ r v hr;rintro b o' x (⟨h1,h2⟩|⟨h1,h2⟩)
    .grind
    .refine⟨h2,?_,by grind⟩;intro s c' e3;unfold aX;split
     .grind
     .cases hgs:g s with
      |none=>rfl
      |some ob=>grind
  have hsnap:∀(T:bF),(∀b o v,ai C0 B w ρ g b o v->T b o v)->(∀s ob b c2,s∈bD (bZ 3 σ) (first++c.args.toList.map E++caps)->g s=some ob->ρ s=some (some b,c2)->B<=b->∀o v,w.cell? ⟨b,o,none⟩=some v->T b o v)->
    bK T A (vs1++c.args.toList.map (bE V)++vs2):=by
   intro T hT1 hT2;obtain⟨g1,g2⟩:=jH hA;refine bK.of _ _ (by rw[<-g1];exact hall.length) λi y hi=> ?_;have hlt:i<(first++c.args.toList.map E++caps).length:=by rw[g1];grind
   obtain⟨y',h5,h6⟩:=g2 i _ (c7 hlt);rw[hi]at h5;cases h5;obtain⟨v,k1,k2⟩:=hall.get _ _ i _ (c7 hlt);exact⟨v,k1,vM hs T (λs=>s∈bD (bZ 3 σ) (first++c.args.toList.map E++caps)) hT1 hT2 3 _ _ v h6 (λs hs'=>⟨jc (by grind) hs',hR s (jc (by grind) hs')⟩) k2⟩
  rcases hW with⟨rfl,h⟩|rfl
  .cases fr with
   |true=>exact fin (wc C0 B w) (λb o v h=>h.1) (hsnap _ (λb o v h=>⟨h.1,h.2.2⟩) (λs ob b c _ _ _ hb o v h=>⟨h,.inl hb⟩)) (by grind)
   |false=>
    rcases h with h|h
    .cases h
    .exact fin (ai C0 B w ρ g) (λb o v h=>h.1) (mq h hall) (by grind)
  .refine fin (ai C0 B w ρ (aX g ((bD (bZ 3 σ) (first++c.args.toList.map E++caps)).map (·,none)))) (λb o v h=>h.1) (hsnap _ hdrop ?_) (by grind);intro s ob b c' hsm e1 e2 hb o' v e3;have hmem:∀l:List Nat,s∈l->(l.map (·,(none:Option Ob))).lookup s=some none:=by
    intro l;induction l with
    |nil=>grind
    |cons k l ih=>
     grind
   refine⟨e3,λs' c2 e4=> ?_,.inl hb⟩;unfold aX;split
   .grind
   .cases hg':g s' with
    |none=>rfl
    |some ob'=>
     have:=hs.inj s s' ob ob' b c' c2 e1 hg' e2 e4;grind
 unfold wk at h;split at h
 .rename_i fid first caps e
  refine key fid first caps (λρ C v hv=> ?_) h
  rw[e]at hv;exact hv
 .rename_i fid first caps e
  refine key fid _ _ (λρ C v hv=> ?_) h;rw[e]at hv;obtain⟨vs1,vs2,h1,h2,h3⟩:=hv;exact⟨vs1,vs2,h1,h2.toA,h3.toA⟩
 grind
end
def tx(v:Value)(us:List Value):Value:=match us with
 |[] =>v
 |us=> .tuple (v::us).toArray
def ku(C:bF)(N:Nat)(q:Option Nat)(w':World):bF:=λb o x=>C b o x\/(N<=b/\q≠some b/\w'.cell? ⟨b,o,none⟩=some x)
def uG(P:Program)(f:FuncId)(A:List PV)(ty esz:Nat)(cells:List PV)(m:Nat)(ys:List PV):Prop:=gF P f=true/\esz≠0/\
 ∀(C:bF) (w:World) (vs:List Value),(∀b o v,C b o v->w.cell? ⟨b,o,none⟩=some v)->bK C A vs->
  Calls P f vs.toArray w λe w'=>∃v us q c,e= .returned (tx v us)/\Below w.heap.size w w'/\bK (ku C w.heap.size q w') ys us/\
   ((q=none/\v= .slice none 0 0/\m=0/\cells=[]/\c=0)\/∃b arr,q=some b/\v= .slice (some ⟨b,0,none⟩) m c/\m<=c/\w.heap.size<=b/\w'.heap[b]? =some (.cells arr ty (0,0))/\
     arr.size=c*esz/\cells.length<=arr.size/\c<=maxLen/\∀(i:Nat) x,cells[i]? =some x->∃u,arr[i]? =some u/\u.oneCell'=true/\az (ku C w.heap.size q w') x u)
def w7(n m:Nat)(ys:List PV):AV:=match ys with
 |[] => .own (sit n 0) 0 m
 |ys=> .tup (.own (sit n 0) 0 m::ys.map .p)
def CU(P:Program)(f:FuncId)(A:List PV)(ty esz:Nat)(cells:List PV)(m:Nat)(ys:List PV):Prop:=gF P f=true/\esz≠0/\
 ∀(C:bF) (w:World) (vs:List Value),(∀b o v,C b o v->w.cell? ⟨b,o,none⟩=some v)->bK C A vs->
  Calls P f (Value.slice none 0 0::vs).toArray w λe w'=>∃v us q c,e= .returned (tx v us)/\Below w.heap.size w w'/\bK (ku C w.heap.size q w') ys us/\
   ((q=none/\v= .slice none 0 0/\m=0/\cells=[]/\c=0)\/∃b arr,q=some b/\v= .slice (some ⟨b,0,none⟩) m c/\m<=c/\w.heap.size<=b/\w'.heap[b]? =some (.cells arr ty (0,0))/\
     arr.size=c*esz/\cells.length<=arr.size/\c<=maxLen/\∀(i:Nat) x,cells[i]? =some x->∃u,arr[i]? =some u/\u.oneCell'=true/\az (ku C w.heap.size q w') x u)
def vo(P:Program)(n:Nat)(f:FuncId)(avs:List AV)(K:Res):Prop:=
 ∃A ty esz cells m ys,((bJ avs=some A/\uG P f A ty esz cells m ys)\/∃r,avs= .nil::r/\bJ r=some A/\CU P f A ty esz cells m ys)/\K (w7 n m ys) [] [(sit n 0,some ⟨ty,esz,cells.map .p⟩)]
def wi(P:Program)(n:Nat)(fv:AV)(args:List AV)(K:Res):Prop:=match fv with
 | .fn (.func f) first caps=>vo P n f (first++args++caps) K
 | .p (.fn (.func f) first caps)=>vo P n f (first.map .p++args++caps.map .p) K
 |_=>False
section
variable {P:Program} {o:Oper} {E:Operand->AV} {σ:Nat->Option Ob} {n:Nat}
def bK.LU{ρ:Ren}{C:bF}:∀{l:List PV} {vs:List Value},bK C l vs->ak ρ C (l.map .p) vs
 |[],vs,h=>by exact h
 |x::l,vs,h=>by
  obtain⟨v,r,rfl,h2,h3⟩:=h;exact⟨v,r,rfl,by exact h2,bK.LU h3⟩
def UZ{c:Call}{f:Operand}(ho:o.op= .call c)(hc:c.callee= .value f){K:Res}(h:wi P n (E f) (c.args.toList.map E) K):∃r R W,a7 P o E σ n r R W/\K r R W:=by
 have hfm:f∈o.op.operands.toList:=by rw[ho];simp[cA,fw,hc]
 have ham:∀x∈c.args.toList,x∈o.op.operands.toList:=by intro x hx;rw[ho];simp[cA,fw];exact .inr (by grind)
 have key:∀(fid:FuncId) (first caps:List AV),(∀ρ C v,aR ρ C (E f) v->∃vs1 vs2:List Value,v= .func (.func fid) vs1.toArray vs2.toArray/\ak ρ C first vs1/\ak ρ C caps vs2)->
   vo P n fid (first++c.args.toList.map E++caps) K->∃r R W,a7 P o E σ n r R W/\K r R W:=by
  intro fid first caps hfv ⟨A,ty,esz,cells,m,ys,hA,hK⟩
  obtain⟨hok,he,hcalls⟩:gF P fid=true/\esz≠0/\∀(ρ:Ren) (C:bF) (w:World) (vs:List Value),(∀b o v,C b o v->w.cell? ⟨b,o,none⟩=some v)->ak ρ C (first++c.args.toList.map E++caps) vs->
   Calls P fid vs.toArray w λe w'=>∃v us q c,e= .returned (tx v us)/\Below w.heap.size w w'/\bK (ku C w.heap.size q w') ys us/\
    ((q=none/\v= .slice none 0 0/\m=0/\cells=[]/\c=0)\/∃b arr,q=some b/\v= .slice (some ⟨b,0,none⟩) m c/\m<=c/\w.heap.size<=b/\w'.heap[b]? =some (.cells arr ty (0,0))/\
      arr.size=c*esz/\cells.length<=arr.size/\c<=maxLen/\∀(i:Nat) x,cells[i]? =some x->∃u,arr[i]? =some u/\u.oneCell'=true/\az (ku C w.heap.size q w') x u):=by
   rcases hA with⟨hA,h1,h2,h3⟩|⟨r,hr,hA,h1,h2,h3⟩
   .exact⟨h1,h2,λρ C w vs hC h=>h3 C w vs hC (mq hA h)⟩
   .refine⟨h1,h2,λρ C w vs hC h=> ?_⟩;rw[hr]at h;obtain⟨v,vs',rfl,h4,h5⟩:=h;subst h4;exact h3 C w vs' hC (mq hA h5)
  refine⟨_,_,_,?_,hK⟩;intro C0 ρ g V w B hs hB hR hn hgn hE;have hn:=hn _ (fL n 0);have hgn:=hgn _ (fL n 0);have hcl:∀s,cls s≠n->s≠sit n 0:=λs h e=>h (by rw[e];exact fL n 0);obtain⟨vs1,vs2,hv,q1,q2⟩:=hfv _ _ _ (hE f hfm);have hargs:∀l:List Operand,(∀x∈l,x∈o.op.operands.toList)->ak ρ (ai C0 B w ρ g) (l.map E) (l.map (bE V)):=by
   intro l;induction l with
   |nil=>intro _;rfl
   |cons x l ih=>
    unfold ak;grind
  have hall:=(q1.append (hargs _ ham)).append q2;have hrun:(execOp (bE V) o).run P w= .ok (.enter fid (vs1++c.args.toList.map (bE V)++vs2).toArray) w:=by
   unfold execOp;rw[ho];have e2:vs1.toArray++np (bE V) c.args++vs2.toArray=(vs1++c.args.toList.map (bE V)++vs2).toArray:=by apply kV.1;simp
   simp only[resolve,hc,hv,nq,bi,cF,bq,invoke,j6 hok,e2]
  have hlive:∀s ob b c,g s=some ob->ρ s=some (some b,c)->b<w.heap.size:=by intro s ob b c e1 e2;obtain⟨_,arr,e3⟩:=hs.at e1 e2;exact e3.lt
  unfold cS;rw[hrun];dsimp only;refine(hcalls ρ (ai C0 B w ρ g) w _ (λb o v h=>h.1) hall).mono ?_;rintro e w' ⟨v,us,q,c,rfl,hbel,hys,hrow⟩;have hqb:∀b,q=some b->w.heap.size<=b:=by
   intro b hb;rcases hrow with⟨h1,_⟩|⟨b',arr,h1,_,_,h4,_⟩
   .grind
   .grind
  have hold:∀b,b<w.heap.size->w'.heap[b]? =w.heap[b]? :=λb hb=>hbel.block b hb;unfold w7;generalize hnS:sit n 0=nS at*
  let ρ':Ren:=λs=>if s=nS then some (q,c)else ρ s
  have hρn:ρ' nS=some (q,c):=if_pos rfl;have hρs:∀s,s≠nS->ρ' s=ρ s:=by grind
  have hup:∀s,s≠nS->aX g [(nS,some ⟨ty,esz,cells.map .p⟩)] s=g s:=by intro s h;unfold aX;simp[cG,beq_eq_false_iff_ne.2 h]
  have hmono:∀b o' x,ai C0 B w ρ g b o' x->ai C0 B w' ρ' (aX g [(nS,some ⟨ty,esz,cells.map .p⟩)]) b o' x:=by
   intro b o' x ⟨e1,e2,e0⟩;have hlt:=fx w ⟨b,o',none⟩ e1;refine⟨(gW (hold b hlt)).trans e1,λs c' e3=> ?_,e0⟩;by_cases hsn:s=nS
   .grind
   .grind
  have hkeep:∀b o' x,ku (ai C0 B w ρ g) w.heap.size q w' b o' x->ai C0 B w' ρ' (aX g [(nS,some ⟨ty,esz,cells.map .p⟩)]) b o' x:=by
   rintro b o' x (h1|⟨h1,h2,h3⟩)
   .grind
   .refine⟨h3,λs c' e3=> ?_,by grind⟩;by_cases hsn:s=nS
    .grind
    .rw[hup s hsn];cases hgs:g s with
     |none=>rfl
     |some ob=>grind
  refine⟨_,rfl,ρ',by grind,hmono,?_,?_,hbel.mono hB⟩
  .refine hs.step (by grind) (by grind) hmono ?_ ?_ (by grind)
   .grind
   .intro s o' hso;have hsn:s=nS:=by
     rcases ii s nS with h|h
     .grind
     .exact h
    subst hsn;simp[cG]at hso;subst hso;refine⟨q,c,hρn,?_⟩;rcases hrow with⟨h1,h2,h3,h4,h5⟩|⟨b,arr,h1,h2,h3,h4,h5,h6,h7,h8,h9⟩
    .grind
    .refine .inr ⟨b,arr,h1,by grind,⟨h5,by grind,by grind,λi x hi=> ?_⟩,λs' o2 c' hne hg' hr'=> ?_⟩
     .rw[du]at hi;cases hci:cells[i]? with
      |none=>grind
      |some y=>
       rw[hci]at hi;simp only[dm,fO]at hi;subst hi;obtain⟨u,k1,k2,k3⟩:=h9 i y hci;exact⟨u,k1,k2,by exact az.mono hkeep y u k3⟩
     grind
  .have hown:aR ρ' (ai C0 B w' ρ' (aX g [(nS,some ⟨ty,esz,cells.map .p⟩)])) (.own nS 0 m) v:=by
    unfold aR;refine⟨q,c,hρn,?_⟩;rcases hrow with⟨h1,h2,h3,_⟩|⟨b,arr,h1,h2,h3,_⟩
    .grind
    .grind
   have hys2:ak ρ' (ai C0 B w' ρ' (aX g [(nS,some ⟨ty,esz,cells.map .p⟩)])) (ys.map .p) us:=(bK.mono hkeep ys us hys).LU;cases ys with
   |nil=>
    have:us=[] :=by have:=hys.length;simpa using this
    subst this;exact hown
   |cons y ys=>
    have hne:us≠[] :=λh=>by have:=hys.length;grind
    cases us with
    |nil=>grind
    |cons u us=>
     refine⟨v::u::us,rfl,?_⟩;unfold ak;grind
 unfold wi at h;split at h
 .rename_i fid first caps e
  refine key fid first caps (λρ C v hv=> ?_) h
  rw[e]at hv;exact hv
 .rename_i fid first caps e
  refine key fid _ _ (λρ C v hv=> ?_) h;rw[e]at hv;obtain⟨vs1,vs2,h1,h2,h3⟩:=hv;exact⟨vs1,vs2,h1,h2.toA,h3.toA⟩
 grind
end
section
variable {P:Program} {o:Oper} {E:Operand->AV} {σ:Nat->Option Ob} {n:Nat}
def LV(P:Program)(n:Nat)(t:TypeId)(x y:AV)(K:Res):Prop:=∃(k1 k2:IntKind) (m:Nat) (e:TypeId) (z:List AV) (i:TypeInfo),x= .p (.int k1 m)/\y= .p (.int k2 m)/\bm P t=some e/\P.info? e=some i/\
 lu P e=some z/\ko P e=true/\z≠[]/\m*ag P e<=1000000/\m*i.bytes<=1000000000/\K (.own (sit n 0) 0 m) [] [(sit n 0,some ⟨e,ag P e,jo m z⟩)]
def FG{t e:TypeId}{i:TypeInfo}{zv:Value}{m:Nat}{k1 k2:IntKind}(he:bm P t=some e)(hi:P.info? e=some i)(hiz:i.zero=some zv)(hsz:ag P e=zv.cells.size)(hpos:0<zv.cells.size)(h1:m*ag P e<=1000000)(h2:m*i.bytes<=1000000000)(w:World):
  (Instr.makeSlice t (.int k1 m) (.int k2 m)).run P w= .ok (.slice (some ⟨w.heap.size,0,none⟩) m m) (w.alloc (.cells (bS m zv.cells.toList).flatten.toArray e)):=by
 have hm:m<=1000000:=by have:m<=m*ag P e:=Qg _ (by omega);omega
 have wl:dr.wrap (m:Int)=m:=by rw[IntKind.wrap_i64];omega
 have n1:¬(m:Int)<0:=by omega
 have n2:¬(281474976710656<(i.bytes:Int)*m):=by have h3:((m*i.bytes:Nat):Int)<=((1000000000:Nat):Int):=Int.ofNat_le.2 h2;rw[uL,Int.natCast_mul]at h3;omega
 have n4:¬(m:Int)<m:=by omega
 have e3:∀w:World,(sizeOf e).run P w= .ok (ag P e) w:=λw=>by simp[sizeOf,typeInfo,hi,ag]
 have e4:∀w:World,(zeroValue e).run P w= .ok zv w:=λw=>by simp[zeroValue,typeInfo,hi,hiz]
 have e5:(if m*ag P e=0 then #[]else(Ce (m*ag P e)).map (λj=>zv.cells[j % zv.cells.size]!))=(bS m zv.cells.toList).flatten.toArray:=by
  split
  .rename_i h0;have:m=0:=by
    rcases Cc.1 h0 with h|h
    .exact h
    .omega
   grind
  .rw[hsz];apply kV.1;rw[FJ zv.cells hpos m]
 rw[<-e5];by_cases h0:m*ag P e=0
 .have:m=0:=by
   rcases Cc.1 h0 with h|h
   .exact h
   .omega
  subst this;have w0:dr.wrap 0=0:=by simpa using wl
  simp[w0,Instr.makeSlice,asInt,asIntOf,run_underlying (iq he),typeInfo,hi,askRoom,newRow,sizeOf];grind
 .simp[Instr.makeSlice,asInt,asIntOf,run_underlying (iq he),typeInfo,hi,wl,n1,n2,n4,askRoom,e3,e4,h0,newRow]
def Vg{t:TypeId}{a b:Operand}(ho:o.op= .makeSlice t a b){K:Res}(h:LV P n t (E a) (E b) K):∃r R W,a7 P o E σ n r R W/\K r R W:=by
 obtain⟨k1,k2,m,e,z,i0,ha,hb,he,hi0,hz,hz1,hne,h1,h2,hK⟩:=h;refine⟨_,_,_,a7.alloc ?_,hK⟩;intro ρ C V w hE;obtain⟨i,zv,hi,hiz,hsz,hone,rfl⟩:=rh hz hz1;rw[hi0]at hi;cases hi;have hsize:ag P e=zv.cells.size:=by simp[ag,hi0,hsz]
 have hpos:0<zv.cells.size:=by
  rcases nj zv.cells.size with h|h
  .grind
  .exact h
 have hones:eu (bS m zv.cells.toList).flatten:=by intro u hu;simp only[List.mem_flatten,Qf]at hu;obtain⟨l',⟨_,rfl⟩,hu⟩:=hu;exact hone u hu
 have va:bE V a= .int k1 m:=by have:=hE a (by rw[ho];simp[cA]);rw[ha]at this;unfold aR at this;unfold az at this;exact this
 have vb:bE V b= .int k2 m:=by have:=hE b (by rw[ho];simp[cA]);rw[hb]at this;unfold aR at this;unfold az at this;exact this
 have hlen:(bS m zv.cells.toList).flatten.length=m*ag P e:=by rw[hsize];simp
 have hl2:(jo m (zv.cells.toList.map iV)).length=m*ag P e:=by rw[yI,d6,rM,hsize]
 refine⟨.slice (some ⟨w.heap.size,0,none⟩) m m,(bS m zv.cells.toList).flatten.toArray,m,?_,λh=>by grind,λ_=> ?_,?_,hones,λρ' C' h=> ?_⟩
 .unfold execOp;rw[ho];dsimp only;rw[va,vb];have:=FG (k1:=k1) (k2:=k2) he hi0 hiz hsize hpos h1 h2 w;simp[this]
 .refine⟨?_,?_,?_⟩
  .omega
  .grind
  .have:m<=m*ag P e:=Qg _ (by omega);unfold maxLen;omega
 .rw[ij (by grind)];exact yf _ m
 .unfold aR;grind
def yA{α:Type}(g0:Nat->Nat)(x:α)(s:Nat):∀l:List Nat,(l.map λi=>(g0 i,x)).lookup s=if s∈l.map g0 then some x else none
 |[] =>rfl
 |i::l=>by
  rw[cO,dF,yA g0 x s l,cO];grind
def a7.fam{r:AV}{ob iob:Ob}{g0:Nat->Nat}{m0:Nat}(hi1:iob.esz≠0)(hi2:iob.cells=[])(hg0:∀i,cls (g0 i)=n)(hg1:∀i,g0 i≠sit n 0)
  (h:∀(ρ:Ren) (C:bF) (V:Nat->Value) (w:World),(∀x∈o.op.operands.toList,aR ρ C (E x) (bE V x))->
  ∃v arr c,(execOp (bE V) o).run P w= .ok (.value v) (w.alloc (.cells arr ob.ty))/\(ob.esz=0->arr.size=ob.cells.length)/\(ob.esz≠0->arr.size=c*ob.esz/\ob.cells.length<=arr.size/\c<=maxLen)/\
   eu arr.toList/\∀(ρ':Ren) (C':bF),ρ' (sit n 0)=some (some w.heap.size,c)->(∀i,i<m0->ρ' (g0 i)=some (none,0))->ak ρ' C' ob.cells (arr.toList.take ob.cells.length)/\aR ρ' C' r v):
  a7 P o E σ n r [] ((sit n 0,some ob)::(bM m0).map λi=>(g0 i,some iob)):=by
 intro C0 ρ g V w B hs hB _ hn hgn hE;have hcl:∀s,cls s≠n->s≠sit n 0:=λs h e=>h (by rw[e];exact fL n 0);have hcl2:∀s,s∈(bM m0).map g0->cls s=n:=by grind
 have hmem:∀i,i<m0->g0 i∈(bM m0).map g0:=by grind
 have hm:cls (sit n 0)=n:=fL n 0;generalize sit n 0=m at*;obtain⟨v,arr,c,hrun,h1,h2,h4,h5⟩:=h ρ _ V w hE;unfold cS;rw[hrun];dsimp only;have hblk:(w.alloc (.cells arr ob.ty)).heap[w.heap.size]? =some (.cells arr ob.ty (0,0)):=heap_alloc_new w _;generalize hM:(bM m0).map g0=M at*
 let ρ':Ren:=λs=>if s=m then some (some w.heap.size,c)else if s∈M then some (none,0)else ρ s
 have hext:∀s q,ρ s=some q->ρ' s=some q:=by intro s q hq;show(if s=m then _ else _)=_;rw[if_neg (by grind),if_neg (by grind)];exact hq
 have hlt:∀s ob b c,g s=some ob->ρ s=some (some b,c)->b<w.heap.size:=by intro s ob b c e1 e2;obtain⟨_,arr,e3⟩:=hs.at e1 e2;exact e3.lt
 have hold:∀b,b<w.heap.size->(w.alloc (.cells arr ob.ty)).heap[b]? =w.heap[b]? :=λb hb=>Below.heap_alloc w _ b hb;generalize hW:((m,some ob)::(bM m0).map λi=>(g0 i,some iob))=W;have hlk:∀s,W.lookup s=if s=m then some (some ob)else if s∈M then some (some iob)else none:=by
  intro s;rw[<-hW,dF,yA,hM];by_cases e:s=m
  .grind
  .grind
 have hup:∀s,s≠m->s∉M->aX g W s=g s:=by intro s h1 h2;unfold aX;rw[hlk,if_neg h1,if_neg h2]
 have hmono:∀b o' x,ai C0 B w ρ g b o' x->ai C0 B (w.alloc (.cells arr ob.ty)) ρ' (aX g W) b o' x:=by
  intro b o' x ⟨e1,e2,e0⟩;have hb:b<w.heap.size:=fx w ⟨b,o',none⟩ e1;refine⟨(gW (hold b hb)).trans e1,?_,e0⟩;intro s c' e3;by_cases e:s=m
  .grind
  .grind
 have k5:=λC'=>h5 ρ' C' (by simp[ρ']) (λi hi=>by grind)
 refine⟨ρ',λs hs=> ?_,hmono,?_,(k5 _).2,(Below.refl B w).alloc hB _⟩
 .grind
 refine hs.step ?_ hext hmono ?_ ?_ (by grind)
 .grind
 .grind
 .intro s ob' e;rw[hlk]at e;by_cases e1:s=m
  .rw[if_pos e1]at e;subst e1;have e2:ob'=ob:=by cases e;rfl
   subst e2;refine⟨some w.heap.size,c,by simp[ρ'],.inr ⟨w.heap.size,arr,rfl,hB,⟨hblk,h1,h2,?_⟩,?_⟩⟩
   .intro i x hi;obtain⟨u,g1,g2⟩:=(k5 _).1.get _ _ i x hi;rw[pM]at g1;split at g1
    .exact⟨u,by grind,h4 u (by grind),g2⟩
    .cases g1
   grind
  .rw[if_neg e1]at e;by_cases e':s∈M
   .rw[if_pos e']at e;cases e;exact⟨none,0,by grind,by grind⟩
   grind
def Ij(P:Program)(n:Nat)(t:TypeId)(x y:AV)(K:Res):Prop:=∃(g0:Nat->Nat) (ity:TypeId) (wd:Nat) (k1 k2:IntKind) (m:Nat) (e:TypeId) (i:TypeInfo),x= .p (.int k1 m)/\y= .p (.int k2 m)/\bm P t=some e/\P.info? e=some i/\
 lu P e=some [.nil]/\ko P e=true/\wd≠0/\(∀i,cls (g0 i)=n)/\(∀i,g0 i≠sit n 0)/\m<=1000000/\m*i.bytes<=1000000000/\
 K (.own (sit n 0) 0 m) [] ((sit n 0,some ⟨e,1,(bM m).map λj=> .own (g0 j) 0 0⟩)::(bM m).map λj=>(g0 j,some ⟨ity,wd,[]⟩))
def SJ{α:Type}(v:α):∀m,(bS m [v]).flatten=bS m v
 |0=>rfl
 |m+1=>by simp_all
def Tz{t:TypeId}{a b:Operand}(ho:o.op= .makeSlice t a b){K:Res}(h:Ij P n t (E a) (E b) K):∃r R W,a7 P o E σ n r R W/\K r R W:=by
 obtain⟨g0,ity,wd,k1,k2,m,e,i0,ha,hb,he,hi0,hz,hz1,hwd,hg0,hg1,h1,h2,hK⟩:=h;refine⟨_,_,_,a7.fam (iob:=⟨ity,wd,[]⟩) hwd rfl hg0 hg1 ?_,hK⟩;intro ρ C V w hE;obtain⟨i,zv,hi,hiz,hsz,hone,hzv⟩:=rh hz hz1;rw[hi0]at hi;cases hi;have hnil:zv.cells.toList=[.slice none 0 0] :=by have h3:ak ρ C (zv.cells.toList.map iV) zv.cells.toList:=pZ _;rw[show zv.cells.toList.map iV=[.nil]from hzv.symm]at h3;unfold ak at h3;obtain⟨v,r,h4,h5,h6⟩:=h3;unfold ak at h6;unfold aR at h5;rw[h4,h5,h6]
 have hsize:ag P e=zv.cells.size:=by simp[ag,hi0,hsz]
 have hs1:zv.cells.size=1:=by rw[<-rM,hnil];rfl
 have va:bE V a= .int k1 m:=by have:=hE a (by rw[ho];simp[cA]);rw[ha]at this;unfold aR at this;unfold az at this;exact this
 have vb:bE V b= .int k2 m:=by have:=hE b (by rw[ho];simp[cA]);rw[hb]at this;unfold aR at this;unfold az at this;exact this
 have hlist:(bS m zv.cells.toList).flatten=bS m (.slice none 0 0):=by rw[hnil,SJ]
 refine⟨.slice (some ⟨w.heap.size,0,none⟩) m m,(bS m zv.cells.toList).flatten.toArray,m,?_,(by grind),λ_=> ?_,?_,λρ' C' h h'=>⟨?_,?_⟩⟩
 .unfold execOp;rw[ho];dsimp only;rw[va,vb];have:=FG (k1:=k1) (k2:=k2) he hi0 hiz hsize (by omega) (by grind) h2 w;simp[this]
 .rw[hlist];refine⟨by simp,by simp,?_⟩;unfold maxLen;omega
 .intro u hu;simp only[List.mem_flatten,Qf]at hu;obtain⟨l',⟨_,rfl⟩,hu⟩:=hu;exact hone u hu
 .rw[hlist];refine ak.of _ _ (by simp) λj x hj=> ?_;rw[du]at hj;by_cases hjm:j<m
  .rw[List.getElem?_range hjm]at hj;unfold aR;grind
  grind
 .unfold aR;grind
end
abbrev Sto:=Nat->Option Ob
def AOp(P:Program)(n:Nat)(o:Oper)(E:Operand->AV)(σ:Nat->Option Ob)(K:Res):Prop:=match o.op with
 | .move x=>K (E x) [] []
 | .assign x=>K (E x) [] []\/(E x= .nil/\K (.p (.sl 0 [])) [] [])
 | .pick c a b=>qZ (E c) (E a) (E b) λr=>K r [] []
 | .alloc t=>JL P n t K
 | .box t x=>QS n t (E x) K
 | .build t parts=>JB P t (parts.toList.map λq=>(q.1,E q.2)) λr=>K r [] []
 | .buildSlice t len parts=>Hj P n t len (parts.toList.map λq=>(q.1,E q.2)) K
 | .load t x=>(match E x with
   | .p (.pro cs off)=>Bh P t cs off λr=>K (.p r) [] []
   | .ptr s off=>∃ob,σ s=some ob/\nM P t ob.cells off λr=>K r [s] []
   |_=>False)
 | .store t a x=>qL P t σ (E a) (E x) K
 | .nilCheck x=>xF (E x)=true/\K (E x) [] []
 | .binOp op t x y _=>rG P op t (E x) (E y) λr=>K r [] []
 | .unOp op _ x=>unA op (E x) λr=>K r [] []
 | .convert s d x=>wg P s d (E x) λr=>K r [] []
 | .makeFunc f first caps=>K (.fn f (first.toList.map E) (caps.toList.map E)) [] []
 | .slice t x lo hi none=>qM P t (E x) (loA E lo 0) (loA E hi (qO (E x))) λr=>K r [] []
 | .fieldAddr t x f=>A2 P t f (E x) λr=>K r [] []
 | .field t x f=>Ay P t f (E x) λr=>K r [] []
 | .indexAddr t x i=>wJ P t (E x) (E i) λr=>K r [] []
 | .extract x i=>tc (E x) i λr=>K r [] []
 | .call {callee:= .value f,args, .. }=>wk P σ (E f) (args.toList.map E) K\/wi P n (E f) (args.toList.map E) K
 | .call {callee:= .builtin .len,args:=⟨[x]⟩,argTypes:=⟨[t]⟩}=>xG P t (E x) λr=>K r [] []
 | .call {callee:= .builtin .append,args:=⟨[x,y]⟩,argTypes:=⟨[t,t']⟩}=>(bm P t').isSome=true/\uE P n t σ (E x) (E y) K
 | .call {callee:= .builtin .min,args:=⟨[x,y]⟩, .. }=>mmA min (E x) (E y) λr=>K r [] []
 | .call {callee:= .builtin .max,args:=⟨[x,y]⟩, .. }=>mmA max (E x) (E y) λr=>K r [] []
 | .makeSlice t a b=>LV P n t (E a) (E b) K\/Ij P n t (E a) (E b) K
 |_=>False
def y4{P:Program}{n:Nat}{o:Oper}{E:Operand->AV}{σ:Nat->Option Ob}{K:Res}(h:AOp P n o E σ K):∃r R W,a7 P o E σ n r R W/\K r R W:=by
 have lift:∀{K':AV->Prop} {R:List Nat},(∃r,a7 P o E σ n r R []/\K' r)->(∀r,K' r->K r R [])->∃r R W,a7 P o E σ n r R W/\K r R W:=by grind
 unfold AOp at h;split at h
 .rename_i x ho;exact⟨_,_,_,zN (.inl ho),h⟩
 .rename_i x ho;exact xk h (λh=>⟨_,_,_,zN (.inr ho),h⟩) (λh=>⟨_,_,_,UM (.inr ho) h.1,h.2⟩)
 .rename_i ho;exact lift (VL ho h) λ_ h=>h
 .rename_i ho;exact Ui ho h
 .rename_i ho;exact Xj ho h
 .rename_i ho;exact lift (Uc ho h) λ_ h=>h
 .rename_i ho;exact TC ho h
 .rename_i ho;split at h
  .rename_i e;obtain⟨r,h1,h2⟩:=T2 (o:=o) (σ:=σ) (n:=n) ho e h;grind
  .rename_i e;obtain⟨ob,h1,h2⟩:=h;obtain⟨r,h3,h4⟩:=T3 (o:=o) (n:=n) ho e h1 h2;grind
  grind
 .rename_i ho;exact EL ho h
 .rename_i ho;exact⟨_,_,_,Gt ho h.1,h.2⟩
 .rename_i ho;exact lift (Xk ho h) λ_ h=>h
 .rename_i ho;exact lift (Xp ho h) λ_ h=>h
 .rename_i ho;exact lift (V6 ho h) λ_ h=>h
 .rename_i ho;exact⟨_,_,_,Vc ho,h⟩
 .rename_i ho;exact lift (TS ho h) λ_ h=>h
 .rename_i ho;exact lift (Ej ho h) λ_ h=>h
 .rename_i ho;exact lift (UG ho h) λ_ h=>h
 .rename_i ho;exact lift (UC ho h) λ_ h=>h
 .rename_i ho;exact lift (Vw ho h) λ_ h=>h
 .rename_i ho;exact xk h (WD ho rfl) (UZ ho rfl)
 .rename_i ho;exact lift (XG ho h) λ_ h=>h
 .rename_i ho;exact sr h.1 ho h.2
 .rename_i ho;exact lift (W4 ho h) λ_ h=>h
 .rename_i ho;exact lift (XD ho h) λ_ h=>h
 .rename_i ho;exact xk h (Vg ho) (Tz ho)
 grind
structure St(C0:bF)(B:Nat)(wI:World)(F:List AV)(σ:Nat->Option Ob)(N:Nat)(a:Act)(w:World):Prop where
 ex:∃ρ:Ren,StR C0 ρ σ w B/\(∀s,N<=cls s->ρ s=none)/\∀t,aR ρ (ai C0 B w ρ σ) (F.getD t .any) (a.tmps.getD t Go.undef)
 le:B<=w.heap.size
 defers:a.defers=[]
 size:a.tmps.size=F.length
 below:Below B wI w
def Iv(ops:List Oper)(j:Nat):((ops.map (·.dst))[j]?).join=(ops[j]?).bind (·.dst):=by grind
def gdA(ds:List (Option Nat))(F:List AV)(j:Nat):Option (Option Bool):=match(ds[j]?).join with
 |some d=>(match F.getD d .any with| .p (.bool b)=>some (some b)| .undef=>some none|_=>none)
 |none=>none
def cE(F:List AV)(d:Option Nat)(r:AV):List AV:=match d with|some d=>F.set d r|none=>F
abbrev dQ:=List (List Nat×List Nat)
def inC(R Rc:List Nat):Prop:=∀s∈R,cls s∈Rc
def cJ(P:Program)(N:Nat)(ds:List (Option Nat)):List Oper->Nat->List AV->Sto->dQ->(List AV->Sto->dQ->Prop)->Prop
 |[],_,F,L,log,K=>K F L log
 |o::rest,i,F,L,log,K=>match o.guard with
  |none=>∃r R W Rc Wc,a7 P o (dA F) L (N+i) r R W/\inC R Rc/\inC (W.map (·.1)) Wc/\cJ P N ds rest (i+1) (cE F o.dst r) (aX L W) (log++[(Rc,Wc)]) K
  |some (j,want)=>(match gdA ds F j with
   |some (some b)=>if b=want then∃r R W Rc Wc,a7 P o (dA F) L (N+i) r R W/\inC R Rc/\inC (W.map (·.1)) Wc/\cJ P N ds rest (i+1) (cE F o.dst r) (aX L W) (log++[(Rc,Wc)]) K
    else cJ P N ds rest (i+1) (cE F o.dst .undef) L (log++[([],[])]) K
   |some none=>cJ P N ds rest (i+1) (cE F o.dst .undef) L (log++[([],[])]) K
   |none=>False)
structure Tr where
 r:AV
 R:List Nat
 W:List (Nat×Option Ob)
 Rc:List Nat
 Wc:List Nat
instance:Inhabited Tr:=⟨⟨.any,[],[],[],[]⟩⟩
def gO(ops:List Oper)(tr:Nat->Tr)(F0:List AV):Nat->List AV
 |0=>F0
 |k+1=>cE (gO ops tr F0 k) ((ops[k]?).bind (·.dst)) (tr k).r
def sgD(tr:Nat->Tr)(σ0:Nat->Option Ob)(D:Nat->Bool):Nat->Nat->Option Ob
 |0=>σ0
 |k+1=>if D k=true then aX (sgD tr σ0 D k) (tr k).W else sgD tr σ0 D k
def lm(tr:Nat->Tr)(n:Nat):dQ:=(bM n).map λk=>((tr k).Rc,(tr k).Wc)
def lr(P:Program)(N:Nat)(ops:List Oper)(F0:List AV)(σ0:Nat->Option Ob)(tr:Nat->Tr)(k:Nat):Prop:=
 ∀o,ops[k]? =some o->(((o.guard=none\/∃j b,o.guard=some (j,b)/\gdA (ops.map (·.dst)) (gO ops tr F0 k) j=some (some b))/\
   a7 P o (dA (gO ops tr F0 k)) (sgD tr σ0 (λ_=>true) k) (N+k) (tr k).r (tr k).R (tr k).W/\inC (tr k).R (tr k).Rc/\inC ((tr k).W.map (·.1)) (tr k).Wc)\/
  (∃j want q,o.guard=some (j,want)/\gdA (ops.map (·.dst)) (gO ops tr F0 k) j=some q/\q≠some want/\tr k=⟨.undef,[],[],[],[]⟩))
def rg(ops:List Oper)(F0:List AV){tr tr':Nat->Tr}:∀k,(∀j,j<k->tr j=tr' j)->gO ops tr F0 k=gO ops tr' F0 k
 |0,_=>rfl
 |k+1,h=>by simp only[gO];rw[rg ops F0 k (λj hj=>h j (by omega)),h k (by omega)]
def pg(σ0:Nat->Option Ob){tr tr':Nat->Tr}{D D':Nat->Bool}:∀k,(∀j,j<k->tr j=tr' j)->(∀j,j<k->D j=D' j)->sgD tr σ0 D k=sgD tr' σ0 D' k
 |0,_,_=>rfl
 |k+1,h,h2=>by simp only[sgD];rw[pg σ0 k (λj hj=>h j (by omega)) (λj hj=>h2 j (by omega)),h k (by omega),h2 k (by omega)]
def Rs{P:Program}{N:Nat}{ops:List Oper}{F0:List AV}{σ0:Nat->Option Ob}{tr tr':Nat->Tr}{k:Nat}(h:∀j,j<=k->tr j=tr' j)(hg:lr P N ops F0 σ0 tr k):lr P N ops F0 σ0 tr' k:=by unfold lr at*;rw[rg ops F0 k (λj hj=>(h j (by omega)).symm),pg (D':=λ_=>true) σ0 k (λj hj=>(h j (by omega)).symm) (λ_ _=>rfl),<-h k (bA _)];exact hg
def kH(tr:Nat->Tr)(i:Nat)(x:Tr):Nat->Tr:=λk=>if k=i then x else tr k
def Ez{tr:Nat->Tr}{i:Nat}{x:Tr}{k:Nat}(h:k<i):tr k=kH tr i x k:=by unfold kH;grind
def EG{P:Program}{N:Nat}{ops:List Oper}{F0:List AV}{L0:Sto}{K:List AV->Sto->dQ->Prop}:
  ∀(rest:List Oper) (i:Nat) (F:List AV) (L:Sto) (log:dQ) (tr:Nat->Tr),i<=ops.length->ops.drop i=rest->F=gO ops tr F0 i->L=sgD tr L0 (λ_=>true) i->log=lm tr i->
   (∀k,k<i->lr P N ops F0 L0 tr k)->cJ P N (ops.map (·.dst)) rest i F L log K->
   ∃(tr':Nat->Tr) (L':Sto),(∀k,k<ops.length->lr P N ops F0 L0 tr' k)/\L'=sgD tr' L0 (λ_=>true) ops.length/\K (gO ops tr' F0 ops.length) L' (lm tr' ops.length)
 |[],i,F,L,log,tr,hil,hd,hF,hL,hlog,hg,h=>by
  have hi:i=ops.length:=by have:=congrArg fh hd;simp at this;omega
  subst hi;unfold cJ at h;grind
 |o::rest,i,F,L,log,tr,hil,hd,hF,hL,hlog,hg,h=>by
  have hlt:i<ops.length:=by have:=congrArg fh hd;simp at this;omega
  have ho:ops[i]? =some o:=by have:=congrArg (λl=>l[0]?) hd;simpa using this
  have hd':ops.drop (i+1)=rest:=by have:=congrArg List.tail hd;simpa using this
  have step:∀(x:Tr),lr P N ops F0 L0 (kH tr i x) i->cJ P N (ops.map (·.dst)) rest (i+1) (cE F o.dst x.r) (aX L x.W) (log++[(x.Rc,x.Wc)]) K->
    ∃(tr':Nat->Tr) (L':Sto),(∀k,k<ops.length->lr P N ops F0 L0 tr' k)/\L'=sgD tr' L0 (λ_=>true) ops.length/\K (gO ops tr' F0 ops.length) L' (lm tr' ops.length):=by
   intro x hgx hx;have hc:∀j,j<i->tr j=kH tr i x j:=λj hj=>Ez hj;have hxi:kH tr i x i=x:=by unfold kH;rw[if_pos rfl]
   refine EG rest (i+1) _ _ _ (kH tr i x) hlt hd' ?_ ?_ ?_ ?_ hx
   .simp only[gO,ho,kU,hxi];rw[hF,rg ops F0 i hc]
   .simp only[sgD,if_true,hxi];rw[hL,pg (D':=λ_=>true) L0 i hc (λ_ _=>rfl)]
   .unfold lm at hlog|-;rw[List.range_succ,List.map_append,List.map_singleton,hxi,hlog];simp_all
   .intro k hk;by_cases e:k=i
    .grind
    .exact Rs (by grind) (hg k (by omega))
  have hc:∀x:Tr,∀j,j<i->kH tr i x j=tr j:=λx j hj=>(Ez hj).symm;have hxi:∀x:Tr,kH tr i x i=x:=λx=>by unfold kH;grind
  have mkG:∀x:Tr,(o.guard=none\/∃j b,o.guard=some (j,b)/\gdA (ops.map (·.dst)) F j=some (some b))->a7 P o (dA F) L (N+i) x.r x.R x.W->inC x.R x.Rc->inC (x.W.map (·.1)) x.Wc->lr P N ops F0 L0 (kH tr i x) i:=by intro x h1 h2 h3 h4 o' ho';rw[ho]at ho';cases ho';rw[rg ops F0 i (hc x),pg (D':=λ_=>true) L0 i (hc x) (λ_ _=>rfl),<-hF,<-hL,hxi];grind
  unfold cJ at h;split at h
  .rename_i hgd;obtain⟨r,R,W,Rc,Wc,h1,i1,i2,h2⟩:=h;exact step ⟨r,R,W,Rc,Wc⟩ (by grind) h2
  .rename_i j want hgd;have skip:∀q,gdA (ops.map (·.dst)) F j=some q->q≠some want->cJ P N (ops.map (·.dst)) rest (i+1) (cE F o.dst .undef) L (log++[([],[])]) K->
     ∃(tr':Nat->Tr) (L':Sto),(∀k,k<ops.length->lr P N ops F0 L0 tr' k)/\L'=sgD tr' L0 (λ_=>true) ops.length/\K (gO ops tr' F0 ops.length) L' (lm tr' ops.length):=by
    intro q hq hne hx;refine step ⟨.undef,[],[],[],[]⟩ ?_ hx;intro o' ho';rw[ho]at ho';cases ho';rw[rg ops F0 i (hc _),<-hF,hxi];grind
   split at h
   .rename_i b hb;split at h
    .rename_i e;subst e;obtain⟨r,R,W,Rc,Wc,h1,i1,i2,h2⟩:=h;exact step ⟨r,R,W,Rc,Wc⟩ (by grind) h2
    simp_all
   .grind
   grind
def oq(ops:List Oper):List (List Nat):=
 ops.foldl (λacc o=>acc++[(o.after.toList.filter (iN .any)).foldl (λs e=>s++(e.on::acc.getD e.on []).filter λx=> !s.contains x) []]) []
def Ae(o:Oper):List Nat:=o.op.operands.toList.filterMap λx=>match x with| .tmp t=>some t|_=>none
def okE(l:List Oper)(anc:List (List Nat)):Bool:=
 (bM l.length).all λi=>
  (((l[i]?).map λo=>(o.after.toList.all λe=> !iN .any e||(decide (e.on<i)&&(iZ anc i).contains e.on))&&o.dst !=some 1000000).getD false)&&
  ((iZ anc i).all λj=>decide (j<i)&&(((l[i]?).map λo=>o.after.toList.any λe=>iN .any e&&(e.on==j||(iZ anc e.on).contains j)).getD false))&&
  ((bM l.length).all λj=>j==i||jk l j !=jk l i||jk l i==1000000)
def qi(ops:List Oper)(anc:List (List Nat)):Bool:=
 okE ops anc&&
 ((bM ops.length).all λi=>((ops[i]?).map λo=>
   ((Ae o).all λt=>(bM ops.length).all λj=>j==i||jk ops j !=t||(iZ anc i).contains j||(iZ anc j).contains i)&&
   (match o.guard with|none=>true|some (j,_)=>(iZ anc i).contains j&&((ops[j]?).bind (·.dst)).isSome)).getD false)
def wh(a b:List Nat×List Nat):Bool:=a.2.any (λs=>b.1.contains s||b.2.contains s)||a.1.any (λs=>b.2.contains s)
def nF(anc:List (List Nat))(log:dQ):Bool:=(bM log.length).all λi=>(bM i).all λj=> !wh (log.getD i ([],[])) (log.getD j ([],[]))||(iZ anc i).contains j
def Tu{ops:List Oper}{anc:List (List Nat)}(h:okE ops anc=true):
  (∀(i:Nat) o,ops[i]? =some o->(∀e∈o.after.toList,iN .any e=true->e.on<i/\(iZ anc i).contains e.on=true)/\
    (∀j,(iZ anc i).contains j=true->j<i/\∃e∈o.after.toList,iN .any e=true/\(e.on=j\/(iZ anc e.on).contains j=true))/\(∀d,o.dst=some d->jk ops i=d/\d≠1000000)/\(o.dst=none->jk ops i=1000000))/\
  ∀i j,i<ops.length->j<ops.length->j≠i->jk ops j=jk ops i->jk ops i=1000000:=by
 unfold okE at h;rw[dW]at h;have hget:∀(i:Nat) o,ops[i]? =some o->i<ops.length:=by grind
 refine⟨?_,?_⟩
 .intro i o ho;have h1:=h i (dR.2 (hget i o ho));simp only[bv]at h1;obtain⟨⟨h2,h3⟩,_⟩:=h1;rw[ho]at h2;refine⟨?_,?_,?_,?_⟩
  .grind
  .intro j hj;rw[dW]at h3;have:=h3 j (by grind);simp only[bv,decide_eq_true_eq]at this;obtain⟨h4,h5⟩:=this;refine⟨h4,?_⟩;rw[ho]at h5;simp only[dm,mF,nr,bv,jW,beq_iff_eq]at h5;exact h5
  .intro d hd;refine⟨by unfold jk;grind,?_⟩;grind
  .unfold jk;grind
 .intro i j hi hj hne he;have h1:=h i (dR.2 hi);grind
def X1{tr:Nat->Tr}{σ0:Nat->Option Ob}{D:Nat->Bool}{s i n:Nat}(hin:i<=n)
  (hlo:∀k,k<i->(tr k).W.lookup s≠none->D k=true) (hhi:∀k,i<=k->k<n->(tr k).W.lookup s≠none->D k=false):
  sgD tr σ0 D n s=sgD tr σ0 (λ_=>true) i s:=by
 have h1:∀m,m<=i->sgD tr σ0 D m s=sgD tr σ0 (λ_=>true) m s:=by
  intro m;induction m with
  |zero=>intro _;rfl
  |succ m ih=>
   intro hm;simp only[sgD,if_true];cases hD:D m with
   |true=>unfold aX;grind
   |false=>
    unfold aX;grind
 have h2:∀m,i<=m->m<=n->sgD tr σ0 D m s=sgD tr σ0 D i s:=by
  intro m;induction m with
  |zero=>grind
  |succ m ih=>
   intro hi hm;by_cases e:i=m+1
   .rw[e]
   .simp only[sgD];cases hD:D m with
    |false=>grind
    |true=>
     unfold aX;grind
 grind
def D3{W:List (Nat×Option Ob)}{s:Nat}(h:W.lookup s≠none):s∈W.map (·.1):=by grind
def zn{g:Nat->Option Ob}{W:List (Nat×Option Ob)}{s:Nat}(h:W.lookup s=none):aX g W s=g s:=by unfold aX;rw[h]
def kZ(F:List AV)(d:Option Nat)(r:AV):(cE F d r).length=F.length:=by cases d<;>simp[cE]
def rZ(ops:List Oper)(tr:Nat->Tr)(F0:List AV):∀k,(gO ops tr F0 k).length=F0.length
 |0=>rfl
 |k+1=>by simp only[gO];rw[kZ,rZ ops tr F0 k]
def yC{ops:List Oper}{tr:Nat->Tr}{F0:List AV}{t j:Nat}(hj:(ops[j]?).bind (·.dst)=some t)(ht:t<F0.length)(hu:∀k,k≠j->(ops[k]?).bind (·.dst)≠some t):∀m,j<m->(gO ops tr F0 m).getD t .any=(tr j).r
 |0,h=>by omega
 |m+1,h=>by
  simp only[gO];by_cases e:m=j
  .subst e;rw[hj];have:=rZ ops tr F0 m;simp[cE,b8,this,ht]
  .have ih:=yC (tr:=tr) hj ht hu m (by omega);cases hd:(ops[m]?).bind (·.dst)with
   |none=>simpa[cE]using ih
   |some d=>
    have:d≠t:=by grind
    simp only[cE,b8,Qi this]at ih|-;exact ih
def x7{ops:List Oper}{tr:Nat->Tr}{F0:List AV}{t:Nat}:∀m,(∀k,k<m->(ops[k]?).bind (·.dst)≠some t)->(gO ops tr F0 m).getD t .any=F0.getD t .any
 |0,_=>rfl
 |m+1,h=>by
  simp only[gO];have ih:=x7 (tr:=tr) (F0:=F0) m λk hk=>h k (by omega);cases hd:(ops[m]?).bind (·.dst)with
  |none=>simpa[cE]using ih
  |some d=>
   have:d≠t:=by grind
   simp only[cE,b8,Qi this]at ih|-;exact ih
def mT{ρ:Ren}{C:bF}{F:List AV}{V:Nat->Value}{x:Operand}(h:∀t,x= .tmp t->aR ρ C (F.getD t .any) (V t)):aR ρ C (dA F x) (bE V x):=by
 cases x with
 |tmp t=>exact h t rfl
 |const v=>exact R7 v
 |global g=>trivial
 |func f=>
  exact⟨[],[],rfl,by rfl,by rfl⟩
def mO{P:Program}{o:Oper}{V:Nat->Value}{w:World}{K K':Value->World->Prop}(h:cS P o V w K)(hk:∀v w,K v w->K' v w):cS P o V w K':=by
 unfold cS at h|-;split at h
 .grind
 .grind
 .exact h.mono (by grind)
 omega
def SO{o:Oper}{t:Nat}(h: .tmp t∈o.op.operands.toList):t∈Ae o:=jy.2 (by grind)
def StR.drew{C0:bF}{ρ:Ren}{g:Nat->Option Ob}{w:World}{B:Nat}(h:StR C0 ρ g w B):StR C0 ρ g w.drew B:=by
 refine⟨λs o hg=> ?_,h.inj,h.mpi⟩;obtain⟨q,c,h1,h2|⟨b,arr,h2,h3,h4⟩⟩:=h.ob s o hg
 .exact⟨q,c,h1,.inl h2⟩
 .exact⟨q,c,h1,.inr ⟨b,arr,h2,h3,⟨h4.blk,h4.box,h4.row,h4.cells⟩⟩⟩
def DN{P:Program}{id N:Nat}{ops:List Oper}{Q:Exit->Act->World->Prop}{a0:Act}{w0:World}{C0:bF}{B:Nat}{wI:World}{F0:List AV}{L0:Sto}{K:List AV->Sto->Prop}
  (hm:P.follows .mixedOrders=true) (anc:List (List Nat)) (hok:qi ops anc=true) (hds:((bM ops.length).all λi=>match(ops[i]?).bind (·.dst)with|some d=>decide (d<F0.length)|none=>true)=true)
  (hS:St C0 B wI F0 L0 N a0 w0) (h:cJ P N (ops.map (·.dst)) ops 0 F0 L0 [] λF L log=>nF anc log=true/\K F L)
  (hK:∀F L a w,K F L->F.length=F0.length->St C0 B wI F L (N+ops.length) a w->Q .normal a w):(CX id ops.toArray true).wp P Q a0 w0:=by
 obtain⟨tr,L',hgood,hL',hfeet,hKK⟩:=EG ops 0 F0 L0 [] default (cu _) rfl rfl rfl rfl (by grind) h;unfold qi at hok;rw[bv,dW]at hok;obtain⟨hokE,hokT⟩:=hok;obtain⟨hop,huq⟩:=Tu hokE;obtain⟨⟨ρ0,hs0,hn0,hf0⟩,hle0,hdf0,hsz0,hbl0⟩:=hS;have hget:∀(i:Nat) o,ops[i]? =some o->i<ops.length:=by grind
 have hat:∀(i:Nat),i<ops.length->∃o,ops[i]? =some o:=λi hi=>⟨_,c7 hi⟩;have hdst:∀(j t:Nat),(ops[j]?).bind (·.dst)=some t->jk ops j=t/\t≠1000000/\j<ops.length/\t<F0.length:=by intro j t hj;obtain⟨o,ho,hd⟩:=jx.1 hj;have:=(hop j o ho).2.2.1 t hd;refine⟨this.1,this.2,hget j o ho,?_⟩;rw[dW]at hds;have h2:=hds j (dR.2 (hget j o ho));rw[hj]at h2;simpa using h2
 have huniq:∀(j t:Nat),(ops[j]?).bind (·.dst)=some t->∀(k:Nat),k≠j->(ops[k]?).bind (·.dst)≠some t:=by intro j t hj k hk e;obtain⟨h1,h2,h3,_⟩:=hdst j t hj;obtain⟨h4,_,h5,_⟩:=hdst k t e;exact h2 (h1▸huq j k h3 h5 hk (by grind))
 have hclash:∀i k,i<ops.length->k<ops.length->k≠i->∀s,s∈(tr i).R\/s∈(tr i).W.map (·.1)->(tr k).W.lookup s≠none->(k<i->(iZ anc i).contains k=true)/\(i<k->(iZ anc k).contains i=true):=by
  intro i k hi hk hne s hs hw;have hws:=D3 hw;have hin:∀j,j<ops.length->inC (tr j).R (tr j).Rc/\inC ((tr j).W.map (·.1)) (tr j).Wc:=λj hj=>by
   obtain⟨o,ho⟩:=hat j hj;rcases hgood j hj o ho with⟨_,_,h1,h2⟩|⟨_,_,_,_,_,_,h⟩
   .exact⟨h1,h2⟩
   .rw[h];exact⟨λs h=>(dM h).elim,λs h=>(dM h).elim⟩
  have hwc:=(hin k hk).2 s hws;have hsc:cls s∈(tr i).Rc\/cls s∈(tr i).Wc:=hs.imp ((hin i hi).1 s) ((hin i hi).2 s);have hfl:(lm tr ops.length).length=ops.length:=by simp[lm]
  have hfg:∀j,j<ops.length->(lm tr ops.length).getD j ([],[])=((tr j).Rc,(tr j).Wc):=by intro j hj;simp[lm,b8,hj]
  unfold nF at hfeet;rw[dW]at hfeet;have hsym:∀a b:List Nat×List Nat,cls s∈b.2->(cls s∈a.1\/cls s∈a.2)->wh a b=true/\wh b a=true:=by
   intro a b hb ha;unfold wh;refine⟨?_,?_⟩
   .rw[jW];rcases ha with ha|ha
    .exact .inr (nr.2 ⟨cls s,ha,by simpa using hb⟩)
    .exact .inl (nr.2 ⟨cls s,ha,by rw[jW];exact .inr (by simpa using hb)⟩)
   .rw[jW];refine .inl (nr.2 ⟨cls s,hb,?_⟩);rw[jW];rcases ha with ha|ha
    .exact .inl (by simpa using ha)
    .exact .inr (by simpa using ha)
  obtain⟨c1,c2⟩:=hsym ((tr i).Rc,(tr i).Wc) ((tr k).Rc,(tr k).Wc) hwc hsc;refine⟨λhlt=> ?_,λhlt=> ?_⟩
  .have:=hfeet i (dR.2 (by rw[hfl];exact hi));rw[dW]at this;have:=this k (dR.2 hlt);rw[hfg i hi,hfg k hk,c1]at this;simpa using this
  .have:=hfeet k (dR.2 (by rw[hfl];exact hk));rw[dW]at this;have:=this i (dR.2 hlt);rw[hfg i hi,hfg k hk,c2]at this;simpa using this
 let dsts:List Nat:=(bM ops.length).filterMap λi=>(ops[i]?).bind (·.dst)
 have hdm:∀(t:Nat),t∈dsts↔∃(j:Nat),(ops[j]?).bind (·.dst)=some t:=by intro t;simp only[dsts,jy,dR];exact⟨λ⟨j,_,h⟩=>⟨j,h⟩,λ⟨j,h⟩=>⟨j,(hdst j t h).2.2.1,h⟩⟩
 let G:(Nat->Bool)->(Nat->Value)->World->Prop:=λD V w=>∃ρ:Ren,
  (∀i j,D i=true->(iZ anc i).contains j=true->D j=true)/\(∀i,D i=true->i<ops.length)/\
  StR C0 ρ (sgD tr L0 D ops.length) w B/\B<=w.heap.size/\Below B wI w/\
  (∀(j t:Nat),D j=true->(ops[j]?).bind (·.dst)=some t->aR ρ (ai C0 B w ρ (sgD tr L0 D ops.length)) (tr j).r (V t))/\
  (∀(t:Nat),(∀(j:Nat),D j=true->(ops[j]?).bind (·.dst)≠some t)->V t=a0.tmps.getD t Go.undef)/\
  (∀t,aR ρ (ai C0 B w ρ (sgD tr L0 D ops.length)) (F0.getD t .any) (a0.tmps.getD t Go.undef))/\
  (∀k s,D k=false->cls s=N+k->ρ s=none)
 refine Rt hm dsts ?_ ?_ G ?_ ?_ ?_
 .rw[dW];intro i hi;have hi':=dR.1 hi;obtain⟨o,ho⟩:=hat i hi';obtain⟨q1,q3,q4,q5⟩:=hop i o ho;simp only[List.getElem?_toArray,ho,dm,mF,bv];refine⟨?_,?_⟩
  .rw[dW];intro e he;cases hb:iN .any e with
   |false=>simp
   |true=>simpa using(q1 e he hb).1
  .cases hd:o.dst with
   |none=>rfl
   |some d=>simpa using(hdm d).2 ⟨i,by rw[ho];exact hd⟩
 .intro s hs;obtain⟨j,hj⟩:=(hdm s).1 hs;rw[hsz0];exact(hdst j s hj).2.2.2
 .have e0:sgD tr L0 (λ_=>false) ops.length=L0:=by
   have:∀m,sgD tr L0 (λ_=>false) m=L0:=by
    intro m;induction m with
    |zero=>rfl
    |succ m ih=>exact ih
   exact this _
  refine⟨ρ0,(by grind),(by grind),?_,hle0,hbl0.drew,(by grind),(λt _=>rfl),?_,λk s _ hs=>hn0 s (by omega)⟩
  .rw[e0];exact hs0.drew
  .rw[e0];exact hf0
 .intro i o D V w ho ⟨ρ,g1,g2,g3,g4,g5,g6,g7,g8,g9⟩ hD hpre _;have ho':ops[i]? =some o:=by simpa using ho
  have hi:=hget i o ho';obtain⟨q1,q3,q4,q5⟩:=hop i o ho';have hanc:∀j,(iZ anc i).contains j=true->D j=true:=by
   intro j hj;obtain⟨_,e,he,hb,h⟩:=q3 j hj;have:=hpre e he hb;rcases h with rfl|h
   .exact this
   .exact g1 _ _ this h
  have hdesc:∀j,(iZ anc j).contains i=true->D j=false:=by
   intro j hj;cases hx:D j with
   |false=>rfl
   |true=>rw[g1 _ _ hx hj]at hD;cases hD
  have hT:=hokT i (dR.2 hi);rw[ho']at hT;simp only[dm,mF,bv]at hT;obtain⟨hT1,hT2⟩:=hT
  let Fi:=gO ops tr F0 i
  have hslot:∀t,t∈Ae o\/(∃(j:Nat) (b:Bool),o.guard=some (j,b)/\(ops[j]?).bind (·.dst)=some t)->aR ρ (ai C0 B w ρ (sgD tr L0 D ops.length)) (Fi.getD t .any) (V t):=by
   intro t ht;have hdone:∀(j:Nat),j<i->(ops[j]?).bind (·.dst)=some t->D j=true:=by
    intro j hji hj;rcases ht with ht|⟨j',b,hg,hj'⟩
    .rw[dW]at hT1;have:=hT1 t ht;rw[dW]at this;have:=this j (dR.2 (by omega));simp only[jW,beq_iff_eq,bne_iff_ne,ne_eq]at this;rcases this with((h|h)|h)|h
     .omega
     .exact absurd (hdst j t hj).1 h
     .exact hanc j h
     .have h1:=(hop j _ (c7 (by omega))).2.1 i h;omega
    .have:j=j':=by
      rcases ii j j' with h|h
      .exact absurd hj (huniq j' t hj' j h)
      .exact h
     subst this;rw[hg]at hT2;simp only[bv]at hT2;exact hanc j hT2.1
   have hnot:∀(j:Nat),i<=j->(ops[j]?).bind (·.dst)=some t->D j=false:=by
    intro j hij hj;by_cases e:j=i
    .rw[e];exact hD
    rcases ht with ht|⟨j',b,hg,hj'⟩
    .rw[dW]at hT1;have:=hT1 t ht;rw[dW]at this;have:=this j (dR.2 (hdst j t hj).2.2.1);simp only[jW,beq_iff_eq,bne_iff_ne,ne_eq]at this;rcases this with((h|h)|h)|h
     .omega
     .exact absurd (hdst j t hj).1 h
     .have:=(q3 j h).1;omega
     .exact hdesc j h
    .have:j=j':=by
      rcases ii j j' with h|h
      .exact absurd hj (huniq j' t hj' j h)
      .exact h
     subst this;rw[hg]at hT2;simp only[bv]at hT2;have:=(q3 j hT2.1).1;omega
   by_cases hw:∃(j:Nat),j<i/\(ops[j]?).bind (·.dst)=some t
   .obtain⟨j,hji,hj⟩:=hw;have:=yC (tr:=tr) hj (hdst j t hj).2.2.2 (huniq j t hj) i hji;rw[this];exact g6 j t (hdone j hji hj) hj
   .have:=x7 (ops:=ops) (tr:=tr) (F0:=F0) (t:=t) i λk hk e=>hw ⟨k,hk,e⟩;rw[this,g7 t λj hDj e=> ?_]
    .exact g8 t
    .rcases jC j i with h|h
     .exact hw ⟨j,h,e⟩
     .rw[hnot j h e]at hDj;cases hDj
  have hgi:=hgood i hi o ho';have hDset:∀s,sgD tr L0 (λj=>if j=i then true else D j) ops.length s=aX (sgD tr L0 D ops.length) (tr i).W s:=by
   intro s;have hlt:∀m,m<=i->sgD tr L0 (λj=>if j=i then true else D j) m=sgD tr L0 D m:=λm hm=>pg _ m (λ_ _=>rfl) (λj hj=>by rw[if_neg (by omega)]);cases hl:(tr i).W.lookup s with
   |none=>
    rw[zn hl];have:∀m,i<m->sgD tr L0 (λj=>if j=i then true else D j) m s=sgD tr L0 D m s:=by
     intro m;induction m with
     |zero=>omega
     |succ m ih=>
      intro hm;by_cases e:m=i
      .subst e;simp only[sgD,if_true,hD,ng,if_false];rw[zn hl,hlt m (bA _)]
      .simp only[sgD,if_neg e];cases hDm:D m with
       |false=>exact ih (by omega)
       |true=>simp only[if_true];unfold aX;rw[ih (by omega)]
    exact this _ hi
   |some x=>
    have:∀m,i<m->m<=ops.length->sgD tr L0 (λj=>if j=i then true else D j) m s=x:=by
     intro m;induction m with
     |zero=>omega
     |succ m ih=>
      intro hm hmn;by_cases e:m=i
      .subst e;simp only[sgD,if_true];unfold aX;rw[hl]
      .simp only[sgD,if_neg e];have hlm:D m=true->(tr m).W.lookup s=none:=by
        intro hDm;cases hl2:(tr m).W.lookup s with
        |none=>rfl
        |some y=>
         have:=(hclash i m hi (by omega) e s (.inr (D3 (by rw[hl];simp))) (by rw[hl2];simp)).2 (by omega);rw[hdesc m this]at hDm;cases hDm
       cases hDm:D m with
       |false=>exact ih (by omega) (by omega)
       |true=>simp only[if_true];rw[zn (hlm hDm)];exact ih (by omega) (by omega)
    rw[this _ hi (bA _)];unfold aX;rw[hl]
  have key:∀(ρ':Ren) (v:Value) (w':World),(∀s,cls s≠N+i->ρ' s=ρ s)->
    (∀b o' x,ai C0 B w ρ (sgD tr L0 D ops.length) b o' x->ai C0 B w' ρ' (aX (sgD tr L0 D ops.length) (tr i).W) b o' x)->
    StR C0 ρ' (aX (sgD tr L0 D ops.length) (tr i).W) w' B->aR ρ' (ai C0 B w' ρ' (aX (sgD tr L0 D ops.length) (tr i).W)) (tr i).r v->Below B w w'->
    G (λj=>if j=i then true else D j) (match o.dst with|some d=>λs=>if s=d then v else V s|none=>V) w':=by
   intro ρ' v w' k1 k2 k3 k4 k5;have hsg:sgD tr L0 (λj=>if j=i then true else D j) ops.length=aX (sgD tr L0 D ops.length) (tr i).W:=funext hDset;have hext:∀s q,ρ s=some q->ρ' s=some q:=by intro s q hq;rw[k1 s (λe=>by rw[g9 i s hD e]at hq;cases hq)];exact hq
   have hVd:∀(t:Nat),(ops[i]?).bind (·.dst)=some t->(match o.dst with|some d=>λs=>if s=d then v else V s|none=>V) t=v:=by intro t ht;rw[ho']at ht;have:o.dst=some t:=ht;rw[this];simp
   have hVn:∀(t:Nat),(ops[i]?).bind (·.dst)≠some t->(match o.dst with|some d=>λs=>if s=d then v else V s|none=>V) t=V t:=by
    intro t ht;rw[ho']at ht;cases hd:o.dst with
    |none=>rfl
    |some d=>
     have:t≠d:=λe=>ht (by rw[e];exact hd);simp[this]
   show G _ _ _;refine⟨ρ',?_,?_,by rw[hsg];exact k3,cZ g4 k5.size,g5.trans k5,?_,?_,?_,?_⟩
   .intro i' j h1 h2;dsimp only at h1|-;by_cases e:j=i
    .rw[if_pos e]
    .rw[if_neg e];by_cases e':i'=i
     .subst e';exact hanc j h2
     .rw[if_neg e']at h1;exact g1 _ _ h1 h2
   .intro i' h1;dsimp only at h1;by_cases e':i'=i
    .rw[e'];exact hi
    .rw[if_neg e']at h1;exact g2 _ h1
   .intro j t h1 h2;dsimp only at h1;rw[hsg];by_cases e:j=i
    .subst e;rw[hVd t h2];exact k4
    .rw[if_neg e]at h1;rw[hVn t (huniq j t h2 i (λh=>e h.symm))];exact aR.mono hext k2 _ _ (g6 j t h1 h2)
   .intro t ht;rw[hVn t (ht i (by simp))];refine g7 t λj hj=>ht j ?_;dsimp only;by_cases e:j=i
    .rw[if_pos e]
    .rw[if_neg e];exact hj
   .intro t;rw[hsg];exact aR.mono hext k2 _ _ (g8 t)
   .intro k s hk hs;dsimp only at hk;by_cases e:k=i
    .rw[if_pos e]at hk;cases hk
    .rw[if_neg e]at hk;rw[k1 _ (by omega)];exact g9 k s hk hs
  have hgv:∀j b q,o.guard=some (j,b)->gdA (ops.map (·.dst)) Fi j=some q->gdV ops.toArray V j=q:=by
   intro j b q hg hq;unfold gdA at hq;rw[Iv]at hq;cases hd:(ops[j]?).bind (·.dst)with
   |none=>rw[hd]at hq;cases hq
   |some d=>
    rw[hd]at hq;have hrep:=hslot d (.inr ⟨j,b,hg,hd⟩);unfold gdV;rw[show(ops.toArray[j]?).bind (·.dst)=some d by simpa using hd];dsimp only at hq|-;split at hq
    .rename_i bb e;rw[e]at hrep;cases hq;rw[hrep]
    .rename_i e;rw[e]at hrep;cases hq;rw[hrep];rfl
    .cases hq
  rcases hgi with⟨hgd,hsim,_,_⟩|⟨j,want,q,hgd,hq,hne,htr⟩
  .have hwant:gl o (gdV ops.toArray V)=true:=by
    unfold gl;rcases hgd with h|⟨j,b,h,hq⟩
    .rw[h]
    .rw[h];dsimp only;rw[hgv j b _ h hq];simp
   rw[if_pos hwant];have hsg:∀s,s∈(tr i).R\/s∈(tr i).W.map (·.1)->sgD tr L0 D ops.length s=sgD tr L0 (λ_=>true) i s:=by
    intro s hs;refine X1 (Nat.le_of_lt hi) ?_ ?_
    .intro k hk hw;exact hanc k ((hclash i k hi (by omega) (by omega) s hs hw).1 hk)
    .intro k hk1 hk2 hw;by_cases e:k=i
     .rw[e];exact hD
     .exact hdesc k ((hclash i k hi hk2 e s hs hw).2 (by omega))
   have hgn:∀s,cls s=N+i->sgD tr L0 D ops.length s=none:=by
    intro s hs;cases hx:sgD tr L0 D ops.length s with
    |none=>rfl
    |some ob=>obtain⟨q,c,h1,_⟩:=g3.ob _ _ hx;rw[g9 i s hD hs]at h1;cases h1
   refine mO (hsim C0 ρ _ V w B g3 g4 (λs hs=>hsg s (.inl hs)) (λs hs=>g9 i s hD hs) hgn ?_) ?_
   .intro x hx;refine mT λt e=> ?_;subst e;exact hslot t (.inl (SO hx))
   .rintro v w' ⟨ρ',k1,k2,k3,k4,k5⟩;exact key ρ' v w' k1 k2 k3 k4 k5
  .have hwant:gl o (gdV ops.toArray V)=false:=by unfold gl;rw[hgd];dsimp only;rw[hgv j want _ hgd hq];simpa using hne
   rw[hwant,if_neg (by simp)];have e1:(tr i).W=[] :=by rw[htr]
   have e2:(tr i).r= .undef:=by rw[htr]
   refine key ρ Go.undef w (λ_ _=>rfl) ?_ ?_ ?_ (Below.refl _ _)
   .rw[e1];exact λ_ _ _ h=>h
   .rw[e1];exact g3
   .rw[e2];rfl
 .intro D V w ⟨ρ,g1,g2,g3,g4,g5,g6,g7,g8,g9⟩ hall;simp only[List.size_toArray]at hall;have hsg:sgD tr L0 D ops.length=L':=by rw[hL'];exact pg _ _ (λ_ _=>rfl) (λj hj=>hall j hj)
  obtain⟨p1,p2,p3⟩:=x9 V dsts a0 (λs hs=>by obtain⟨j,hj⟩:=(hdm s).1 hs;rw[hsz0];exact(hdst j s hj).2.2.2)
  refine hK _ L' _ w hKK (rZ _ _ _ _) ⟨⟨ρ,by rw[<-hsg];exact g3,?_,?_⟩,g4,p1.trans hdf0,by rw[p2,hsz0,rZ],g5⟩
  .intro s hs;have:D (cls s-N)=false:=by
    cases hx:D (cls s-N)with
    |false=>rfl
    |true=>have:=g2 _ hx;omega
   exact g9 _ s this (by omega)
  .intro t;rw[<-hsg];by_cases ht:t<a0.tmps.size
   .rw[p3 t ht];by_cases hm:t∈dsts
    .rw[if_pos hm];obtain⟨j,hj⟩:=(hdm t).1 hm;obtain⟨_,_,h3,h4⟩:=hdst j t hj;rw[yC hj h4 (huniq j t hj) _ h3];exact g6 j t (hall j h3) hj
    .rw[if_neg hm,x7 _ λk _ e=>hm ((hdm t).2 ⟨k,e⟩)];exact g8 t
   .have:(gO ops tr F0 ops.length).getD t .any= .any:=by rw[b8,eW (by rw[rZ];omega)];rfl
    rw[this];trivial
attribute [irreducible] cJ
abbrev kL:=Exit->List AV->Sto->Nat->Prop
def DI{P:Program}{ops:Array Oper}{Q:Exit->Act->World->Prop}{i:Nat}{o:Oper}{a:Act}{w:World}{next:Act->World->Prop}(ho:ops[i]? =some o)
  (h:if gl o (gdV ops λs=>a.tmps.getD s Go.undef)=true then cS P o (λs=>a.tmps.getD s Go.undef) w λv w'=>next (a.put o.dst v) w' else next (a.put o.dst Go.undef) w):wpOp P ops Q i next a w:=by
 unfold wpOp;rw[ho];simp only[];rw[DU];by_cases hw:gl o (gdV ops λs=>a.tmps.getD s undef)=true
 .rw[if_pos hw]at h|-;refine .inl ?_;unfold Oper.wp;rw[Act.eval_evalV];unfold cS at h;cases hr:(execOp (bE λs=>a.tmps.getD s undef) o).run P w with
  |halt x w'=>grind
  |ok n w'=>
   rw[hr]at h;cases n<;>simp only[]at h<;>first|exact h.elim|skip
   .exact h
   .exact h
   .rename_i f args;refine h.mono ?_;grind
 grind
def sD(a:Act)(d:Option Nat)(v:Value)(t:Nat):(a.put d v).tmps.getD t Go.undef=if d=some t/\t<a.tmps.size then v else a.tmps.getD t Go.undef:=by
 cases d with
 |none=>simp[kT]
 |some d=>
  simp only[kT,fN,pN,fO];grind
def mQ(F:List AV)(d:Option Nat)(r:AV)(t:Nat):(cE F d r).getD t .any=if d=some t/\t<F.length then r else F.getD t .any:=by
 cases d with
 |none=>simp[cE]
 |some d=>
  simp only[cE,b8,iG,fO];grind
section
variable {P:Program} {C0:bF} {B:Nat} {wI:World}
def St.mono{F:List AV}{σ:Nat->Option Ob}{N N':Nat}{a:Act}{w:World}(h:St C0 B wI F σ N a w)(hN:N<=N'):St C0 B wI F σ N' a w:=by obtain⟨⟨ρ,h1,h2,h3⟩,h4,h5,h6,h7⟩:=h;exact⟨by grind,h4,h5,h6,h7⟩
def rm{ops tail:List Oper}{m N:Nat}{Q:Exit->Act->World->Prop}{K:List AV->Sto->dQ->Prop}(hm:m+tail.length=ops.length)(hK:∀F L log a w,K F L log->St C0 B wI F L (N+m) a w->wpOps P ops.toArray Q (uT m tail.length) a w):
  ∀(rest:List Oper) (i:Nat) (F:List AV) (L:Sto) (log:dQ) (a:Act) (w:World),i<=ops.length->ops.drop i=rest++tail->cJ P N (ops.map (·.dst)) rest i F L log K->St C0 B wI F L (N+i) a w->wpOps P ops.toArray Q (uT i (rest.length+tail.length)) a w
 |[],i,F,L,log,a,w,hil,hd,h,hS=>by
  have hi:i=m:=by have:=congrArg fh hd;simp at this;omega
  subst hi;unfold cJ at h;grind
 |o::rest,i,F,L,log,a,w,hil,hd,h,hS=>by
  have hlt:i<ops.length:=by have:=congrArg fh hd;simp at this;omega
  have ho:ops[i]? =some o:=by have:=congrArg (λl=>l[0]?) hd;simpa using this
  have hd':ops.drop (i+1)=rest++tail:=by have:=congrArg List.tail hd;simpa using this
  rw[iE,show rest.length+1+tail.length=(rest.length+tail.length)+1 by omega];refine DI (by simpa using ho) ?_;obtain⟨⟨ρ,s1,s2,s3⟩,s4,s5,s6,s7⟩:=hS;have fin:∀(ρ':Ren) (W:List (Nat×Option Ob)) (r:AV) (v:Value) (w':World) (K':Prop),(∀s,cls s≠N+i->ρ' s=ρ s)->(∀b o' x,ai C0 B w ρ L b o' x->ai C0 B w' ρ' (aX L W) b o' x)->StR C0 ρ' (aX L W) w' B->
    aR ρ' (ai C0 B w' ρ' (aX L W)) r v->Below B w w'->St C0 B wI (cE F o.dst r) (aX L W) (N+(i+1)) (a.put o.dst v) w':=by
   intro ρ' W r v w' _ k1 k2 k3 k4 k5;have hext:∀s q,ρ s=some q->ρ' s=some q:=by intro s q hq;rw[k1 s (by grind)];exact hq
   refine⟨⟨ρ',k3,by grind,λt=> ?_⟩,cZ s4 k5.size,by cases hd2:o.dst<;>exact s5,by rw[kZ];cases hd2:o.dst<;>simpa[kT]using s6,s7.trans k5⟩;rw[mQ,sD,s6];by_cases e:o.dst=some t/\t<F.length
   .grind
   .rw[if_neg e,if_neg e];exact aR.mono hext k2 _ _ (s3 t)
  have run:(∃r R W Rc Wc,a7 P o (dA F) L (N+i) r R W/\inC R Rc/\inC (W.map (·.1)) Wc/\cJ P N (ops.map (·.dst)) rest (i+1) (cE F o.dst r) (aX L W) (log++[(Rc,Wc)]) K)->
    cS P o (λs=>a.tmps.getD s Go.undef) w λv w'=>wpOps P ops.toArray Q (uT (i+1) (rest.length+tail.length)) (a.put o.dst v) w':=by
   rintro⟨r,R,W,Rc,Wc,hsim,_,_,hk⟩;have hgn:∀s,cls s=N+i->L s=none:=by
    intro s hs;cases hx:L s with
    |none=>rfl
    |some ob=>obtain⟨q,c,h1,_⟩:=s1.ob _ _ hx;grind
   refine mO (hsim C0 ρ L _ w B s1 s4 (λ_ _=>rfl) (by grind) hgn (λx _=>mT λt _=>s3 t)) ?_;rintro v w' ⟨ρ',k1,k2,k3,k4,k5⟩;exact rm hm hK rest (i+1) _ _ _ _ w' hlt hd' hk (fin ρ' W r v w' True k1 k2 k3 k4 k5)
  have skip:cJ P N (ops.map (·.dst)) rest (i+1) (cE F o.dst .undef) L (log++[([],[])]) K->wpOps P ops.toArray Q (uT (i+1) (rest.length+tail.length)) (a.put o.dst Go.undef) w:=by intro h;exact rm hm hK rest (i+1) _ _ _ _ w hlt hd' h (fin ρ [] .undef Go.undef w True (λ_ _=>rfl) (λ_ _ _ h=>h) s1 (by rfl) (Below.refl _ _))
  have hgv:∀j b q,o.guard=some (j,b)->gdA (ops.map (·.dst)) F j=some q->gdV ops.toArray (λs=>a.tmps.getD s Go.undef) j=q:=by
   intro j b q hgd hq;unfold gdA at hq;rw[Iv]at hq;cases hd:(ops[j]?).bind (·.dst)with
   |none=>grind
   |some d=>
    rw[hd]at hq;have hrep:=s3 d;unfold gdV;rw[show(ops.toArray[j]?).bind (·.dst)=some d by grind];dsimp only at hq|-;split at hq
    .rename_i bb e;unfold aR az at hrep;grind
    .rename_i e;rw[e]at hrep;cases hq;rw[hrep];rfl
    .cases hq
  unfold cJ at h;split at h
  .rename_i hgd;have hw:gl o (gdV ops.toArray λs=>a.tmps.getD s Go.undef)=true:=by unfold gl;rw[hgd]
   grind
  .rename_i j want hgd;split at h
   .rename_i b hb;split at h
    .rename_i e;subst e;have hw:gl o (gdV ops.toArray λs=>a.tmps.getD s Go.undef)=true:=by unfold gl;rw[hgd];dsimp only;rw[hgv j b _ hgd hb];simp
     grind
    .rename_i e;have hw:gl o (gdV ops.toArray λs=>a.tmps.getD s Go.undef)=false:=by unfold gl;rw[hgd];dsimp only;rw[hgv j want _ hgd hb];simpa using e
     grind
   .rename_i hb;have hw:gl o (gdV ops.toArray λs=>a.tmps.getD s Go.undef)=false:=by unfold gl;rw[hgd];dsimp only;rw[hgv j want _ hgd hb];rfl
    grind
   grind
def Rj{id N:Nat}{ops:List Oper}{Q:Exit->Act->World->Prop}{a:Act}{w:World}{F:List AV}{L:Sto}{K:List AV->Sto->Prop}
  (hS:St C0 B wI F L N a w) (h:cJ P N (ops.map (·.dst)) ops 0 F L [] λF L _=>K F L)
  (hK:∀F L a w,K F L->St C0 B wI F L (N+ops.length) a w->Q .normal a w):(CX id ops.toArray false).wp P Q a w:=by
 refine wp_region ?_;have:=rm (P:=P) (C0:=C0) (B:=B) (wI:=wI) (Q:=Q) (tail:=[]) (m:=ops.length) rfl (λF L _ a w h hS=>hK F L a w h hS) ops 0 F L [] a w (cu _) (by simp) h (by omega);rw[List.range_eq_range'];omega
def cY(P:Program)(o:Oper)(F:List AV)(L:Sto)(N:Nat)(K:List AV->Sto->Nat->Prop):Prop:=∀(C0:bF) (B:Nat) (wI:World) (a:Act) (w:World),St C0 B wI F L N a w->
 cS P o (λs=>a.tmps.getD s Go.undef) w λv w'=>∃F' L' N',K F' L' N'/\St C0 B wI F' L' N' (a.put o.dst v) w'
def kP(P:Program)(ds:List (Option Nat)):Nat->List Oper->Nat->List AV->Sto->Nat->(List AV->Sto->Nat->Prop)->Prop
 |0,l,i,F,L,N,K=>cJ P N ds l i F L [] λF L _=>K F L N
 |k+1,l,i,F,L,N,K=>(cJ P N ds l i F L [] λF L _=>K F L N)\/∃pre o post,l=pre++o::post/\o.guard=none/\cJ P N ds pre i F L [] λF L _=>cY P o F L (N+(i+pre.length)) λF L N'=>kP P ds k post (i+(pre.length+1)) F L N' K
def Bb{ops:List Oper}{Q:Exit->Act->World->Prop}{K:List AV->Sto->Nat->Prop}(hK:∀F L N a w,K F L N->St C0 B wI F L (N+ops.length) a w->Q .normal a w):
  ∀(k:Nat) (l:List Oper) (i:Nat) (F:List AV) (L:Sto) (N:Nat) (a:Act) (w:World),i+l.length=ops.length->ops.drop i=l->kP P (ops.map (·.dst)) k l i F L N K->St C0 B wI F L (N+i) a w->wpOps P ops.toArray Q (uT i l.length) a w
 |0,l,i,F,L,N,a,w,hil,hd,h,hS=>by
  have:=rm (P:=P) (C0:=C0) (B:=B) (wI:=wI) (Q:=Q) (ops:=ops) (tail:=[]) (m:=ops.length) (K:=λF L _=>K F L N) rfl (λF L _ a w h hS=>hK F L N a w h hS) l i F L [] a w (by omega) (by simpa using hd) h hS;simpa using this
 |k+1,l,i,F,L,N,a,w,hil,hd,.inl h,hS=>Bb hK 0 l i F L N a w hil hd h hS
 |k+1,l,i,F,L,N,a,w,hil,hd,.inr h,hS=>by
  obtain⟨pre,o,post,rfl,hgd,h⟩:=h;have hlen:i+pre.length+(post.length+1)=ops.length:=by simp at hil;omega
  have hdm:ops.drop (i+pre.length)=o::post:=by rw[<-List.drop_drop,hd];simp
  have ho:ops[i+pre.length]? =some o:=by have:=congrArg (λl=>l[0]?) hdm;simpa using this
  have hd':ops.drop (i+(pre.length+1))=post:=by have:=congrArg List.tail hdm;simpa[nk]using this
  have:=rm (P:=P) (C0:=C0) (B:=B) (wI:=wI) (Q:=Q) (ops:=ops) (tail:=o::post) (m:=i+pre.length) (N:=N) (K:=λF L _=>cY P o F L (N+(i+pre.length)) λF L N'=>kP P (ops.map (·.dst)) k post (i+(pre.length+1)) F L N' K) (by simpa using hlen) (λF L _ a w h hS=>by
   rw[iE];refine DI (o:=o) (by simpa using ho) ?_;have hw:gl o (gdV ops.toArray λs=>a.tmps.getD s Go.undef)=true:=by unfold gl;rw[hgd]
   rw[if_pos hw];refine mO (h C0 B wI a w hS) ?_;rintro v w' ⟨F',L',N',h1,h2⟩;exact Bb hK k post _ F' L' N' _ w' (by omega) hd' h1 (h2.mono (by omega))) pre i F L [] a w (by omega) hd h hS
  simpa using this
def VG{id N:Nat}{ops:List Oper}{k:Nat}{Q:Exit->Act->World->Prop}{a:Act}{w:World}{F:List AV}{L:Sto}{K:List AV->Sto->Nat->Prop}
  (hS:St C0 B wI F L N a w) (h:kP P (ops.map (·.dst)) k ops 0 F L N K)
  (hK:∀F L N a w,K F L N->St C0 B wI F L (N+ops.length) a w->Q .normal a w):(CX id ops.toArray false).wp P Q a w:=by
 refine wp_region ?_;have:=Bb (P:=P) (C0:=C0) (B:=B) (wI:=wI) (Q:=Q) hK k ops 0 F L N a w (by omega) (by simp) h hS;rw[List.range_eq_range'];simpa using this
end
def cV(F:List AV)(L:Sto)(N:Nat)(F':List AV)(L':Sto)(N':Nat):Prop:=∀(C0:bF) (B:Nat) (wI:World) (a:Act) (w:World),St C0 B wI F L N a w->St C0 B wI F' L' N' a w
def cV.rfl{F:List AV}{L:Sto}{N:Nat}:cV F L N F L N:=λ_ _ _ _ _ h=>h
def xV(P:Program)(draw:Bool)(ops:List Oper)(F:List AV)(L:Sto)(N:Nat)(K:List AV->Sto->Prop):Prop:=match draw with
 |true=>∃anc:List (List Nat),P.follows .mixedOrders=true/\qi ops anc=true/\((bM ops.length).all λi=>match(ops[i]?).bind (·.dst)with|some d=>decide (d<F.length)|none=>true)=true/\cJ P N (ops.map (·.dst)) ops 0 F L [] λF L log=>nF anc log=true/\K F L
 |false=>(ops.all (λo=>match o.guard with|none=>true|some (j,_)=>((ops[j]?).bind (·.dst)).isSome)=true)/\cJ P N (ops.map (·.dst)) ops 0 F L [] λF L _=>K F L
def awp(P:Program):Code->kL->List AV->Sto->Nat->Prop
 | .skip,Q,F,L,N=>Q .normal F L N
 | .region _ ops draw,Q,F,L,N=>(xV P draw ops.toList F L N λF L=>Q .normal F L (N+ops.size))\/(draw=false/\∃k,kP P (ops.toList.map (·.dst)) k ops.toList 0 F L N λF L N=>∃F' L' N',cV F L (N+ops.size) F' L' N'/\Q .normal F' L' N')\/(draw=true/\xV P true ops.toList F L N λF L=>∃F' L' N',cV F L (N+ops.size) F' L' N'/\Q .normal F' L' N')
 | .seq a b,Q,F,L,N=>∃M:List AV->Sto->Nat->Prop,awp P a (λe F L N=>match e with| .normal=>M F L N|e=>Q e F L N) F L N/\∀F L N,M F L N->∃F' L' N',cV F L N F' L' N'/\awp P b Q F' L' N'
 | .cond c t e,Q,F,L,N=>∃b,dA F c= .p (.bool b)/\(b=true->awp P t Q F L N)/\(b=false->awp P e Q F L N)
 | .block id c,Q,F,L,N=>awp P c (λe F L N=>match e with| .exit id'=>if id'=id then Q .normal F L N else Q (.exit id') F L N|e=>Q e F L N) F L N
 | .loop c,Q,F,L,N=>∃(Inv:List AV->Sto->Nat->Prop) (μ:List AV->Sto->Nat->Nat),(∃F' L' N',cV F L N F' L' N'/\Inv F' L' N')/\
    ∀F L N,Inv F L N->awp P c (λe F1 L1 N1=>match e with| .normal=>∃F' L' N',cV F1 L1 N1 F' L' N'/\Inv F' L' N'/\μ F' L' N'<μ F L N|e=>Q e F1 L1 N1) F L N
 | .exit id,Q,F,L,N=>Q (.exit id) F L N
 | .ret,Q,F,L,N=>Q .ret F L N
 | .scope c,Q,F,L,N=>awp P c (λe F L N=>match e with| .goto _=>False|e=>Q e F L N) F L N
 | .label _,Q,F,L,N=>Q .normal F L N
 |_,_,_,_,_=>False
def DZ{P:Program}{c:Code}{Q:Exit->Act->World->Prop}:∀{n:Nat} {a:Act} {w:World},xo P c Q n a w->xo P c Q (n+1) a w
 |0,_,_,h=>h.elim
 |n+1,a,w,h=>by
  refine wp_mono h ?_;intro e a w h;cases e<;>first|exact h|exact DZ h
def Td{P:Program}{c:Code}{Q:Exit->Act->World->Prop}{n m:Nat}(h:n<=m){a:Act}{w:World}(hr:xo P c Q n a w):xo P c Q m a w:=by
 induction h with
 |refl=>exact hr
 |step _ ih=>exact DZ ih
def TF{P:Program}{c:Code}{Q:Exit->Act->World->Prop}{a:Act}{w:World}(I:Nat->Act->World->Prop){n:Nat}(h0:I n a w)
  (hr:∀n a w,I n a w->c.wp P (Exit.then (λa' w'=>∃m,m<n/\I m a' w') Q) a w):(Code.loop c).wp P Q a w:=by
 have key:∀n a w,I n a w->xo P c Q (n+1) a w:=by
  intro n;induction n using Nat.strongRecOn with
  |ind n ih=>
   intro a w h;refine wp_mono (hr n a w h) ?_;intro e a' w' h';cases e<;>first|exact h'|skip
   obtain⟨m,hm,hI⟩:=h';exact Td (by grind) (ih m hm a' w' hI)
 exact wp_loop_rounds (n+1) (key n a w h0)
def vI{P:Program}{C0:bF}{B:Nat}{wI:World}:∀(c:Code) (Q:kL) (F:List AV) (L:Sto) (N:Nat) (a:Act) (w:World),awp P c Q F L N->St C0 B wI F L N a w->
  c.wp P (λe a' w'=>∃F' L' N',Q e F' L' N'/\St C0 B wI F' L' N' a' w') a w:=by
 intro c;induction c with
 |skip=>intro Q F L N a w h hS;exact wp_skip ⟨F,L,N,h,hS⟩
 |region id ops draw=>
  intro Q F L N a w h hS;rcases h with h|⟨rfl,k,h3⟩|⟨rfl,anc,h1,h2,h3,h4⟩
  rotate_left
  .refine VG (ops:=ops.toList) hS h3 ?_;rintro F1 L1 N1 a1 w1 ⟨F',L',N',hw,hq⟩ hs;exact⟨F',L',N',hq,hw C0 B wI a1 w1 (by simpa using hs)⟩
  .refine DN (id:=id) (P:=P) (Q:=λe a' w'=>∃F' L' N',Q e F' L' N'/\St C0 B wI F' L' N' a' w') h1 anc h2 h3 hS h4 ?_;rintro F1 L1 a1 w1 ⟨F',L',N',hw,hq⟩ _ hs;exact⟨F',L',N',hq,hw C0 B wI a1 w1 (by simpa using hs)⟩
  cases draw with
  |true=>
   obtain⟨anc,h1,h2,h3,h4⟩:=h;have:=DN (id:=id) (P:=P) (Q:=λe a' w'=>∃F' L' N',Q e F' L' N'/\St C0 B wI F' L' N' a' w') h1 anc h2 h3 hS h4 (by grind);omega
  |false=>
   obtain⟨h1,h4⟩:=h;have:=Rj (id:=id) (P:=P) (Q:=λe a' w'=>∃F' L' N',Q e F' L' N'/\St C0 B wI F' L' N' a' w') hS h4 (by grind);omega
 |seq x y ihx ihy=>
  intro Q F L N a w h hS;obtain⟨M,h1,h2⟩:=h;refine wp_seq (wp_mono (ihx _ F L N a w h1 hS) ?_);rintro e a' w' ⟨F',L',N',hq,hs⟩;cases e<;>first|exact⟨F',L',N',hq,hs⟩|(obtain⟨F2,L2,N2,hw,hy⟩:=h2 _ _ _ hq;exact ihy Q F2 L2 N2 a' w' hy (hw C0 B wI a' w' hs))
 |cond c t e iht ihe=>
  intro Q F L N a w h hS;obtain⟨b,hb,h1,h2⟩:=h;obtain⟨⟨ρ,s1,s2,s3⟩,_⟩:=id hS;have hc:a.eval c= .bool b:=by rw[Act.eval_evalV];have:=mT (x:=c) (F:=F) (V:=λs=>a.tmps.getD s undef) (ρ:=ρ) (C:=ai C0 B w ρ L) (λt _=>s3 t);rw[hb]at this;unfold aR az at this;exact this
  exact wp_cond_split hc (by grind) (by grind)
 |block id c ih=>
  intro Q F L N a w h hS;refine wp_block (wp_mono (ih _ F L N a w h hS) ?_);rintro e a' w' ⟨F',L',N',hq,hs⟩;cases e<;>first|exact⟨F',L',N',hq,hs⟩|skip
  rename_i id';unfold Exit.inBlock;grind
 |loop c ih=>
  intro Q F L N a w h hS;obtain⟨Inv,μ,⟨F0,L0,N0,hw0,hI0⟩,hround⟩:=h;refine TF (λn a w=>∃F L N,Inv F L N/\St C0 B wI F L N a w/\μ F L N=n) ⟨F0,L0,N0,hI0,hw0 C0 B wI a w hS,rfl⟩ ?_;rintro n a' w' ⟨F1,L1,N1,hI1,hS1,rfl⟩;refine wp_mono (ih _ F1 L1 N1 a' w' (hround F1 L1 N1 hI1) hS1) ?_;rintro e a2 w2 ⟨F2,L2,N2,hq,hs⟩;cases e<;>first|exact⟨F2,L2,N2,hq,hs⟩|skip
  obtain⟨F3,L3,N3,hw,hI3,hlt⟩:=hq;exact⟨_,hlt,F3,L3,N3,hI3,hw C0 B wI a2 w2 hs,rfl⟩
 |exit id=>intro Q F L N a w h hS;exact wp_exit ⟨F,L,N,h,hS⟩
 |ret=>intro Q F L N a w h hS;exact wp_ret ⟨F,L,N,h,hS⟩
 |rangeFunc f params x y _ _=>intro Q F L N a w h;exact h.elim
 |scope c ih=>
  intro Q F L N a w h hS;refine wp_scope_straight (wp_mono (ih _ F L N a w h hS) ?_);rintro e a' w' ⟨F',L',N',hq,hs⟩;cases e<;>first|exact hq.elim|exact⟨F',L',N',hq,hs⟩
 |label l=>intro Q F L N a w h hS;exact wp_label ⟨F,L,N,h,hS⟩
 |goto l=>intro Q F L N a w h;exact h.elim
 |refuse s=>intro Q F L N a w h;exact h.elim
section
variable {P:Program} {y:Code} {Q:kL} {F:List AV} {L:Sto} {N:Nat}
def gOk(l:List Oper):Bool:=l.all λo=>match o.guard with|none=>true|some (j,_)=>((l[j]?).bind (·.dst)).isSome
def dOk(l:List Oper)(n:Nat):Bool:=(bM l.length).all λi=>match(l[i]?).bind (·.dst)with|some d=>decide (d<n)|none=>true
def Rq{x:Code}(J:List AV->Sto->Nat->Prop)(h1:awp P x (λe F L N=>match e with| .normal=>∃F' L' N',cV F L N F' L' N'/\J F' L' N'|e=>Q e F L N) F L N)(h2:∀F L N,J F L N->awp P y Q F L N):awp P (.seq x y) Q F L N:=
 ⟨λF L N=>∃F' L' N',cV F L N F' L' N'/\J F' L' N',h1,by grind⟩
def WG{c:Code}(Inv:List AV->Sto->Nat->Prop)(μ:List AV->Sto->Nat)(h0:∃F' L' N',cV F L N F' L' N'/\Inv F' L' N')
 (hr:∀F L N,Inv F L N->awp P c (λe F1 L1 N1=>match e with| .normal=>∃F' L' N',cV F1 L1 N1 F' L' N'/\Inv F' L' N'/\μ F' L'<μ F L|e=>Q e F1 L1 N1) F L N):awp P (.loop c) Q F L N:=⟨Inv,λF L _=>μ F L,h0,hr⟩
def Es{c:Code}(Inv:List AV->Sto->Nat->Prop)(μ:List AV->Sto->Nat->Nat)(h0:∃F' L' N',cV F L N F' L' N'/\Inv F' L' N')
 (hr:∀F L N,Inv F L N->awp P c (λe F1 L1 N1=>match e with| .normal=>∃F' L' N',cV F1 L1 N1 F' L' N'/\Inv F' L' N'/\μ F' L' N'<μ F L N|e=>Q e F1 L1 N1) F L N):awp P (.loop c) Q F L N:=⟨Inv,μ,h0,hr⟩
end
section
variable {P:Program} {N:Nat} {ds:List (Option Nat)} {K:List AV->Sto->dQ->Prop}
def GI:∀(l1:List Oper) {l2:List Oper} {i:Nat} {F:List AV} {L:Sto} {log:dQ},(∀K1:List AV->Sto->dQ->Prop,(∀F L log,cJ P N ds l2 (i+l1.length) F L log K->K1 F L log)->cJ P N ds l1 i F L log K1)->cJ P N ds (l1++l2) i F L log K:=by
 intro l1 l2 i F L log h;have key:∀(l1:List Oper) (i:Nat) (F:List AV) (L:Sto) (log:dQ),cJ P N ds l1 i F L log (λF L log=>cJ P N ds l2 (i+l1.length) F L log K)=cJ P N ds (l1++l2) i F L log K:=by
  intro l1;induction l1 with
  |nil=>intro i F L log;simp only[cJ,iM,uQ,List.nil_append]
  |cons o l1 ih=>
   intro i F L log;have e:∀(i:Nat),i+(o::l1).length=(i+1)+l1.length:=by grind
   simp only[mG,cJ,e,ih]
 grind
def vK{i:Nat}{F:List AV}{L:Sto}{log:dQ}(h:K F L log):cJ P N ds [] i F L log K:=by unfold cJ;exact h
end
def fp(P:Program):List ResultVar->List AV->(Nat->Option Ob)->(List AV->Prop)->Prop
 |[],_,_,K=>K []
 | .tmp t::rs,F,σ,K=>fp P rs F σ λl=>K (F.getD t .any::l)
 | .cell a t::rs,F,σ,K=>(match F.getD a .any with
   | .ptr s off=>∃ob,σ s=some ob/\nM P t ob.cells off λr=>fp P rs F σ λl=>K (r::l)
   |_=>False)
def jR:List PV->PV
 |[x] =>x
 |m=> .tup m
def w9(tmps:Array Value):ResultVar->Sem Value
 | .tmp t=>pure (tmps.getD t Go.undef)
 | .cell a t=>do loadVar t (<-asAddr (tmps.getD a Go.undef))
def uj(fn:Func)(tmps:Array Value):results fn tmps=(do let vs<-fn.results.mapM (w9 tmps);pure (if h:vs.size=1 then vs[0]else .tuple vs)):=by
 congr 1
def qt(P:Program)(rs:List ResultVar)(r:PV):kL:=λe F L _=>match e with
 | .normal| .ret=>fp P rs F L λl=>∃m,cI (ci 3 L) l=some m/\jR m=r
 |_=>False
section
variable {P:Program} {C0:bF} {B:Nat} {wI:World}
def pm{ρ:Ren}{σ:Nat->Option Ob}{a:Act}{w:World}{F:List AV}(hs:StR C0 ρ σ w B)(hf:∀t,aR ρ (ai C0 B w ρ σ) (F.getD t .any) (a.tmps.getD t Go.undef)):
  ∀(rs:List ResultVar) (K:List AV->Prop),fp P rs F σ K->∃l vs,K l/\(rs.mapM (w9 a.tmps)).run P w= .ok vs w/\ak ρ (ai C0 B w ρ σ) l vs
 |[],K,h=>⟨[],[],h,by simp,by rfl⟩
 | .tmp t::rs,K,h=>by
   obtain⟨l,vs,h1,h2,h3⟩:=pm hs hf rs _ h;refine⟨_,_::vs,h1,?_,by exact⟨_,vs,rfl,hf t,h3⟩⟩;simp[List.mapM_cons,h2,w9]
 | .cell x t::rs,K,h=>by
   unfold fp at h;split at h
   .rename_i s off e;obtain⟨ob,hob,hl⟩:=h;obtain⟨r,hr,hv⟩:=Ea hl;obtain⟨l,vs,h1,h2,h3⟩:=pm hs hf rs _ hr;have hx:=hf x;rw[e]at hx;obtain⟨b,c,hq,hpt⟩:=hx;obtain⟨_,arr,hO⟩:=hs.at hob hq;obtain⟨v,hrun,hrep⟩:=hv _ _ w b c arr hO;have hrun':(loadVar t ⟨b,off,none⟩).run P w= .ok v w:=by simpa[xg,xh]using hrun
    refine⟨_,v::vs,h1,?_,by unfold ak;grind⟩;simp[List.mapM_cons,h2,w9,hpt,asAddr,hrun']
   grind
def tk:Sto:=λs=>if s=sit 0 0 then some ⟨0,0,[.undef]⟩else none
def nI(L:Sto)(N:Nat):Prop:=(L=(λ_=>none)/\N=0)\/(L=tk/\N=1)
def nI.st{L:Sto}{N:Nat}(h:nI L N){C:bF}{w:World}(hC:∀b o v,C b o v->w.cell? ⟨b,o,none⟩=some v):
  ∃ρ:Ren,StR C ρ L w w.heap.size/\(∀s,N<=cls s->ρ s=none)/\∀s b c,ρ s≠some (some b,c):=by
 rcases h with⟨rfl,rfl⟩|⟨rfl,rfl⟩
 .exact⟨λ_=>none,⟨by grind,by grind,by grind⟩,λ_ _=>rfl,by grind⟩
 .have hat:∀s o,tk s=some o->s=sit 0 0/\o=⟨0,0,[.undef]⟩:=by
   intro s o h;unfold tk at h;split at h
   .grind
   .cases h
  refine⟨λs=>if s=sit 0 0 then some (none,0)else none,⟨?_,?_,?_⟩,?_,?_⟩
  .intro s o h;obtain⟨rfl,rfl⟩:=hat s o h;have hno:∀i v,¬C w.heap.size i v:=λi v hv=>absurd (fx w ⟨w.heap.size,i,none⟩ (hC _ _ _ hv)) (Nat.lt_irrefl _);exact⟨none,0,by simp,.inl ⟨rfl,.inr ⟨rfl,.inl (by grind)⟩⟩⟩
  .grind
  .grind
  .intro s hs;try dsimp only
   split
   .rename_i e;rw[e,fL]at hs;omega
   .rfl
  grind
def uq{f:FuncId}{fn:Func}{c:Code}{A:List PV}{r:PV}(hok:gF P f=true)(hf:P.funcs[f]? =some fn)(hb:fn.body=some c)
  {L0:Sto} {N0:Nat} (h0:nI L0 N0) (h:awp P c (qt P fn.results.toList r) (A.map .p++bS (fn.ntmps-A.length) .undef) L0 N0):Sat P false f A r:=by
 refine⟨hok,λC w vs hC hrep=> ?_⟩;obtain⟨ρ0,z1,z2,z3⟩:=h0.st hC;have hlen:=hrep.length;refine calls_of_wp hf hb (wp_mono (vI (C0:=C) (B:=w.heap.size) (wI:=w) c _ _ _ _ _ _ h ?_) ?_)
 .refine⟨⟨ρ0,z1,z2,λt=> ?_⟩,bA _,rfl,by simp[hlen],Below.refl _ _⟩;by_cases ht:t<A.length
  .have e1:(A.map AV.p++bS (fn.ntmps-A.length) AV.undef).getD t .any= .p A[t] :=by rw[b8,ik (by grind)];simp[ht]
   obtain⟨v,h1,h2⟩:=hrep.get _ _ t A[t] (by grind);have e2:(vs.toArray++kS (fn.ntmps-vs.toArray.size) undef).getD t undef=v:=by rw[fN,xp (by simp;omega)];simp[h1]
   rw[e1];rw[e2];refine az.mono (λb o x hx=>⟨hC b o x hx,by grind,.inr hx⟩) _ v h2
  .by_cases ht2:t<A.length+(fn.ntmps-A.length)
   .have e1:(A.map AV.p++bS (fn.ntmps-A.length) AV.undef).getD t .any= .undef:=by rw[b8,jD (by simp;omega),jY,if_pos (by simp;omega)];rfl
    have e2:(vs.toArray++kS (fn.ntmps-vs.toArray.size) undef).getD t undef=undef:=by rw[fN,Ch (by simp;omega),xe];split<;>rfl
    rw[e1];rw[e2];rfl
   .have e1:(A.map AV.p++bS (fn.ntmps-A.length) AV.undef).getD t .any= .any:=by rw[b8,eW (by simp;omega)];rfl
    rw[e1];trivial
 .rintro e a w' ⟨F,L,N,hq,⟨ρ,s1,s2,s3⟩,s4,s5,s6,s7⟩;have fin:fp P fn.results.toList F L (λl=>∃m,cI (ci 3 L) l=some m/\jR m=r)->a.defers=[]/\∃v,(results fn a.tmps).run P w'= .ok v w'/\∃v',Ending.returned v= .returned v'/\az (λb o x=>((false:Bool)=false/\C b o x)\/(w.heap.size<=b/\w'.cell? ⟨b,o,none⟩=some x)) r v'/\Below w.heap.size w w':=by
   intro h;refine⟨s5,?_⟩;obtain⟨l,us,⟨m,hm,hr⟩,h2,h3⟩:=pm s1 s3 _ _ h;have hres:(results fn a.tmps).run P w'= .ok (if h:us.toArray.size=1 then us.toArray[0]else .tuple us.toArray) w':=by rw[uj,Ci];simp only[bi,Cj,h2,bq,cF]
   refine⟨_,hres,_,rfl,?_,s7⟩;obtain⟨g1,g2⟩:=jH hm;have hrl:bK (λb o x=>((false:Bool)=false/\C b o x)\/(w.heap.size<=b/\w'.cell? ⟨b,o,none⟩=some x)) m us:=by
    refine bK.of _ _ (by rw[<-g1];exact h3.length) λi y hi=> ?_;have hlt:i<l.length:=by rw[g1];grind
    obtain⟨y',h5,h6⟩:=g2 i _ (c7 hlt);rw[hi]at h5;cases h5;obtain⟨v,k1,k2⟩:=h3.get _ _ i _ (c7 hlt);refine⟨v,k1,vM s1 _ (λ_=>True) ?_ ?_ 3 _ _ v h6 (by grind) k2⟩
    .rintro b o x ⟨e1,e2,e3⟩;grind
    .grind
   rw[<-hr];cases m with
   |nil=>
    subst hrl;exact⟨[],rfl,by rfl⟩
   |cons x m=>
    cases m with
    |nil=>
     obtain⟨v,r',rfl,h7,h8⟩:=hrl;subst h8;unfold jR;grind
    |cons y m=>
     have hl:¬us.toArray.size=1:=by have:=hrl.length;simp at this;simp;omega
     unfold jR az;grind
  cases e<;>first|exact fin hq|exact hq.elim
end
def fJ:∀{l:List AV} {A:List PV},bJ l=some A->l=A.map .p
 |[],A,h=>by simp[bJ]at h;subst h;rfl
 |x::l,A,h=>by
  unfold bJ at h;split at h
  .grind
  .rename_i y l' e;cases e;simp only[iO]at h;obtain⟨r,h1,rfl⟩:=h;rw[fJ h1];rfl
  .cases h
section
variable {P:Program} {σ:Nat->Option Ob} {f:FuncId} {fr:Bool} {A:List PV} {r:PV} {avs:List AV} {K:Res}
def yK(hs:Sat P fr f A r)(hA:bJ avs=some A)(hK:K (.p r) [] []):lk P σ f avs K:=by have:=fJ hA;subst this;refine .inl ⟨A,oe 3 σ A,fr,r,hs,.inl ⟨.inr hA,?_⟩⟩;rw[kD];exact hK
def DP{R:List Nat}(hs:Sat P true f A r)(hA:cI (ci 3 σ) avs=some A)(hR:bD (bZ 3 σ) avs=R)(hK:K (.p r) R []):lk P σ f avs K:=by subst hR;exact .inl ⟨A,hA,true,r,hs,by grind⟩
def SG{R:List Nat}(hs:Sat P fr f A r)(hA:cI (ci 3 σ) avs=some A)(hR:bD (bZ 3 σ) avs=R)(hK:K (.p r) R (R.map (·,none))):lk P σ f avs K:=by subst hR;exact .inl ⟨A,hA,fr,r,hs,.inr hK⟩
def PV.flat:PV->Bool
 | .int .. | .bool _| .str _=>true
 | .agg l| .tup l=>l.all λx=>match x with| .int .. | .bool _| .str _=>true|_=>false
 |_=>false
def az.flat1{C C':bF}{x:PV}{v:Value}(hf:(match x with| .int .. | .bool _| .str _=>true|_=>false)=true)(h:az C x v):az C' x v:=by cases x<;>first|(cases hf;done)|(unfold az at*;exact h)
def bK.flat{C C':bF}:∀{l:List PV} {vs:List Value},l.all (λx=>match x with| .int .. | .bool _| .str _=>true|_=>false)=true->bK C l vs->bK C' l vs
 |[],vs,_,h=>by exact h
 |x::l,vs,hf,h=>by
  obtain⟨v,r,rfl,h1,h2⟩:=h;simp only[List.all_cons,bv]at hf;exact⟨v,r,rfl,az.flat1 hf.1 h1,bK.flat hf.2 h2⟩
def az.flat{C C':bF}{x:PV}{v:Value}(hf:x.flat=true)(h:az C x v):az C' x v:=by
 cases x<;>first|(cases hf;done)|(unfold az at*;exact h)|skip
 .obtain⟨vs,h1,h2,h3⟩:=h;exact⟨vs,h1,bK.flat hf h2,h3⟩
 .obtain⟨vs,h1,h2⟩:=h;exact⟨vs,h1,bK.flat hf h2⟩
def Sat.fresh(hs:Sat P fr f A r)(hf:r.flat=true):Sat P true f A r:=
 ⟨hs.1,λC w vs hC hr=>(hs.2 C w vs hC hr).mono λ_e _w' ⟨v,h1,h2,h3⟩=>⟨v,h1,az.flat hf h2,h3⟩⟩
end
def B6(P:Program)(rs:List ResultVar)(ty esz:Nat)(cells:List PV)(m:Nat)(ys:List PV):kL:=λe F L _=>match e with
 | .normal| .ret=>fp P rs F L λl=>(∃s,l= .own s 0 m::ys.map .p/\L s=some ⟨ty,esz,cells.map .p⟩)\/(l= .nil::ys.map .p/\m=0/\cells=[])
 |_=>False
section
variable {P:Program} {C0:bF} {B:Nat} {wI:World}
def ak.vR{ρ:Ren}{C:bF}:∀{l:List PV} {vs:List Value},ak ρ C (l.map .p) vs->bK C l vs
 |[],vs,h=>by exact h
 |x::l,vs,h=>by
  obtain⟨v,r,rfl,h2,h3⟩:=h;exact⟨v,r,rfl,h2,ak.vR h3⟩
def TK{f:FuncId}{fn:Func}{c:Code}{A:List PV}{Q:kL}{C:bF}{w:World}{vs:List Value}{R:Ending->World->Prop}(hf:P.funcs[f]? =some fn)(hb:fn.body=some c)(hC:∀b o v,C b o v->w.cell? ⟨b,o,none⟩=some v)(hrep:bK C A vs)
  {L0:Sto} {N0:Nat} (h0:nI L0 N0) (h:awp P c Q (A.map .p++bS (fn.ntmps-A.length) .undef) L0 N0)
  (hR:∀e a w' F L N,Q e F L N->St C w.heap.size w F L N a w'->(match e with| .normal| .ret=>a.defers=[]/\∃v,(results fn a.tmps).run P w'= .ok v w'/\R (.returned v) w'|_=>False)):Calls P f vs.toArray w R:=by
 obtain⟨ρ0,z1,z2,z3⟩:=h0.st hC;have hlen:=hrep.length;refine calls_of_wp hf hb (wp_mono (vI (C0:=C) (B:=w.heap.size) (wI:=w) c _ _ _ _ _ _ h ?_) ?_)
 .refine⟨⟨ρ0,z1,z2,λt=> ?_⟩,bA _,rfl,by simp[hlen],Below.refl _ _⟩;by_cases ht:t<A.length
  .have e1:(A.map AV.p++bS (fn.ntmps-A.length) AV.undef).getD t .any= .p A[t] :=by rw[b8,ik (by grind)];simp[ht]
   obtain⟨v,h1,h2⟩:=hrep.get _ _ t A[t] (by grind);have e2:(vs.toArray++kS (fn.ntmps-vs.toArray.size) undef).getD t undef=v:=by rw[fN,xp (by simp;omega)];simp[h1]
   rw[e1];rw[e2];refine az.mono (λb o x hx=>⟨hC b o x hx,by grind,.inr hx⟩) _ v h2
  .by_cases ht2:t<A.length+(fn.ntmps-A.length)
   .have e1:(A.map AV.p++bS (fn.ntmps-A.length) AV.undef).getD t .any= .undef:=by rw[b8,jD (by simp;omega),jY,if_pos (by simp;omega)];rfl
    have e2:(vs.toArray++kS (fn.ntmps-vs.toArray.size) undef).getD t undef=undef:=by rw[fN,Ch (by simp;omega),xe];split<;>rfl
    rw[e1];rw[e2];rfl
   .have e1:(A.map AV.p++bS (fn.ntmps-A.length) AV.undef).getD t .any= .any:=by rw[b8,eW (by simp;omega)];rfl
    rw[e1];trivial
 .rintro e a w' ⟨F,L,N,hq,hS⟩;have:=hR e a w' F L N hq hS;cases e<;>first|exact this|exact this.elim
def R3{f:FuncId}{fn:Func}{c:Code}{A:List PV}{ty esz:Nat}{cells:List PV}{m:Nat}{ys:List PV}(hok:gF P f=true)(he:esz≠0)(hf:P.funcs[f]? =some fn)(hb:fn.body=some c)
  {L0:Sto} {N0:Nat} (h0:nI L0 N0) (h:awp P c (B6 P fn.results.toList ty esz cells m ys) (A.map .p++bS (fn.ntmps-A.length) .undef) L0 N0):uG P f A ty esz cells m ys:=by
 refine⟨hok,he,λC w vs hC hrep=>TK hf hb hC hrep h0 h ?_⟩;rintro e a w' F L N hq ⟨⟨ρ,s1,s2,s3⟩,s4,s5,s6,s7⟩;have fin:fp P fn.results.toList F L (λl=>(∃s,l= .own s 0 m::ys.map .p/\L s=some ⟨ty,esz,cells.map .p⟩)\/(l= .nil::ys.map .p/\m=0/\cells=[]))->a.defers=[]/\∃v,(results fn a.tmps).run P w'= .ok v w'/\∃v' us q c,Ending.returned v= .returned (tx v' us)/\Below w.heap.size w w'/\bK (ku C w.heap.size q w') ys us/\
   ((q=none/\v'= .slice none 0 0/\m=0/\cells=[]/\c=0)\/∃b arr,q=some b/\v'= .slice (some ⟨b,0,none⟩) m c/\m<=c/\w.heap.size<=b/\w'.heap[b]? =some (.cells arr ty (0,0))/\
     arr.size=c*esz/\cells.length<=arr.size/\c<=maxLen/\∀(i:Nat) x,cells[i]? =some x->∃u,arr[i]? =some u/\u.oneCell'=true/\az (ku C w.heap.size q w') x u):=by
  intro h;refine⟨s5,?_⟩;obtain⟨l,us,hl,h2,h3⟩:=pm s1 s3 _ _ h;have hres:(results fn a.tmps).run P w'= .ok (if h:us.toArray.size=1 then us.toArray[0]else .tuple us.toArray) w':=by rw[uj,Ci];simp only[bi,Cj,h2,bq,cF]
  refine⟨_,hres,?_⟩;have hout:∀v us',us=v::us'->(if h:us.toArray.size=1 then us.toArray[0]else Value.tuple us.toArray)=tx v us':=by
   rintro v us' rfl;cases us' with
   |nil=>rfl
   |cons u us'=>rfl
  rcases hl with⟨s,rfl,hs⟩|⟨rfl,hm,hc⟩
  .obtain⟨v,us',rfl,hv,hys⟩:=h3;obtain⟨q,c,hρ,hcase⟩:=hv;have hkeep:∀b o x,ai C w.heap.size w' ρ L b o x->ku C w.heap.size q w' b o x:=by
    rintro b o x ⟨e1,e2,e3|e3⟩
    .refine .inr ⟨e3,λhq=> ?_,e1⟩;grind
    .exact .inl e3
   refine⟨v,us',q,c,by grind,s7,bK.mono hkeep _ _ (ak.vR hys),?_⟩;obtain⟨q2,c2,hρ2,hob⟩:=s1.ob s _ hs;rw[hρ]at hρ2;cases hρ2;rcases hcase with⟨h1,h4,h5,_⟩|⟨b,o',c',h1,h4,h5,h6,h7⟩
   .simp_all
   .obtain⟨rfl,rfl⟩:=h7 rfl;rcases hob with⟨h8,_⟩|⟨b2,arr,h8,h9,h10⟩
    .grind
    .rw[h1]at h8;cases h8;obtain⟨r1,r2,r3⟩:=h10.row he;refine .inr ⟨b,arr,h1,h4,h5,h9,h10.blk,r1,by grind,r3,λi x hi=> ?_⟩;obtain⟨u,k1,k2,k3⟩:=h10.cells i (.p x) (by grind);exact⟨u,k1,k2,az.mono hkeep x u k3⟩
  .obtain⟨v,us',rfl,hv,hys⟩:=h3;refine⟨v,us',none,0,by grind,s7,bK.mono ?_ _ _ (ak.vR hys),.inl ⟨rfl,hv,hm,hc,rfl⟩⟩;rintro b o x ⟨e1,e2,e3|e3⟩
   .exact .inr (by grind)
   .exact .inl e3
 cases e<;>first|exact fin hq|exact hq.elim
end
section
def WR{ρ:Ren}{C:bF}{A:List AV}{vs:List Value}{n:Nat}(h:ak ρ C A vs)(t:Nat):aR ρ C ((A++bS (n-A.length) AV.undef).getD t .any) ((vs.toArray++kS (n-vs.toArray.size) Go.undef).getD t Go.undef):=by
 have hlen:=h.length;by_cases ht:t<A.length
 .obtain⟨v,h1,h2⟩:=h.get _ _ t A[t] (by grind);have e2:(vs.toArray++kS (n-vs.toArray.size) Go.undef).getD t Go.undef=v:=by rw[fN,xp (by simp;omega)];simp[h1]
  grind
 .by_cases ht2:t<A.length+(n-A.length)
  .have e1:(A++bS (n-A.length) AV.undef).getD t .any= .undef:=by rw[b8,jD (by omega),jY,if_pos (by omega)];rfl
   have e2:(vs.toArray++kS (n-vs.toArray.size) Go.undef).getD t Go.undef=Go.undef:=by rw[fN,Ch (by simp;omega),xe];split<;>rfl
   rw[e1,e2];rfl
  .have e1:(A++bS (n-A.length) AV.undef).getD t .any= .any:=by rw[b8,eW (by simp;omega)];rfl
   rw[e1];trivial
abbrev dh:Nat:=sit 0 0
def zA{C0:bF}{B:Nat}{ρ:Ren}{w:World}{L:Sto}{S:List AV}(h:StR C0 ρ L w B)(hL:L dh=some ⟨0,0,.undef::S⟩):
  ∃c,ρ dh=some (none,c)/\(∀(i:Nat) x,(AV.undef::S)[i]? =some x->∀v,C0 B i v->aR ρ (ai C0 B w ρ L) x v)/\∀i v,C0 B i v->i<(AV.undef::S).length:=by
 obtain⟨q,c,h1,⟨rfl,h2|⟨_,h2⟩⟩|⟨b,arr,_,_,h2⟩⟩:=h.ob _ _ hL
 .grind
 .rcases h2 with⟨_,h3,h4⟩|⟨h3,_⟩|⟨h3,_⟩
  .grind
  .cases h3
  .cases h3
 .obtain⟨v,_,h3,h4⟩:=h2.cells 0 .undef rfl;subst h4;cases h3
def StR.stk{C0 C1:bF}{B:Nat}{ρ:Ren}{w:World}{L:Sto}{S T:List AV}(h:StR C0 ρ L w B)(hL:L dh=some ⟨0,0,.undef::S⟩)(h1:∀b,b<B->C1 b=C0 b)
  (h2:∀(i:Nat) x,T[i]? =some x->∀v,C1 B i v->aR ρ (ai C0 B w ρ L) x v) (h3:∀i v,C1 B i v->i<T.length):
  (∀b o x,ai C1 B w ρ (aX L [(dh,some ⟨0,0,T⟩)]) b o x↔ai C0 B w ρ L b o x)/\StR C1 ρ (aX L [(dh,some ⟨0,0,T⟩)]) w B:=by
 obtain⟨c0,k1,_,_⟩:=zA h hL;have hup:∀s,s≠dh->aX L [(dh,some ⟨0,0,T⟩)] s=L s:=by intro s hs;unfold aX;simp[cG,beq_eq_false_iff_ne.2 hs]
 have hus:aX L [(dh,some ⟨0,0,T⟩)] dh=some ⟨0,0,T⟩:=by unfold aX;simp[cG]
 have hC:∀b o x,ai C1 B w ρ (aX L [(dh,some ⟨0,0,T⟩)]) b o x↔ai C0 B w ρ L b o x:=by
  intro b o x;have e:(B<=b\/C1 b o x)↔(B<=b\/C0 b o x):=by
   rcases jC b B with hb|hb
   .rw[h1 b hb]
   .omega
  unfold ai;rw[e];refine and_congr_right λ_=>and_congr_left λ_=>forall_congr' λs=>forall_congr' λc=> ?_;by_cases hs:s=dh
  .grind
  .rw[hup s hs]
 refine⟨hC,?_,?_,?_⟩
 .intro s o ho;by_cases hs:s=dh
  .subst hs;cases ho;exact⟨none,c0,k1,.inl ⟨rfl,.inr ⟨rfl,.inl ⟨rfl,λi x hi v hv=>aR.mono (λ_ _ h=>h) (by grind) x v (h2 i x hi v hv),h3⟩⟩⟩⟩
  .rw[hup s hs]at ho;obtain⟨q,c,e1,⟨e2,e3|⟨e3,e4⟩⟩|⟨b,arr,e2,e3,e4⟩⟩:=h.ob s o ho
   .grind
   .refine⟨q,c,e1,.inl ⟨e2,.inr ⟨e3,?_⟩⟩⟩;rcases e4 with⟨f1,f2,f3⟩|⟨f1,f2,es,clock,f3,f5,f6,f4⟩|⟨f1,f2,vs,f3,f4⟩
    .subst e2;exact absurd (h.mpi s dh o _ c c0 ho hL e3 rfl e1 k1 (.inr ⟨f1,rfl⟩)) hs
    .exact .inr (.inl ⟨f1,f2,es,clock,f3,f5,f6,ak.mono (λ_ _ h=>h) (by grind) _ _ f4⟩)
    .exact .inr (.inr ⟨f1,f2,vs,f3,ak.mono (λ_ _ h=>h) (by grind) _ _ f4⟩)
   .refine⟨q,c,e1,.inr ⟨b,arr,e2,e3,e4.blk,e4.box,e4.row,λi x hi=> ?_⟩⟩;obtain⟨v,g1,g2,g3⟩:=e4.cells i x hi;exact⟨v,g1,g2,aR.mono (λ_ _ h=>h) (by grind) x v g3⟩
 .intro s s' o o' b c c' e1 e2 e3 e4;have n1:s≠dh:=λe=>by grind
  have n2:s'≠dh:=λe=>by grind
  rw[hup s n1]at e1;rw[hup s' n2]at e2;exact h.inj s s' o o' b c c' e1 e2 e3 e4
 .intro s s' o o' c c' e1 e2 m1 m2 e3 e4 hT;have key:∀s o,aX L [(dh,some ⟨0,0,T⟩)] s=some o->∃o2,L s=some o2/\o2.ty=o.ty/\o2.esz=o.esz:=by
   intro s o ho;by_cases hs:s=dh
   .grind
   .grind
  obtain⟨p,f1,f2,f3⟩:=key s o e1;obtain⟨p',f1',f2',f3'⟩:=key s' o' e2;exact h.mpi s s' p p' c c' f1 f1' (by omega) (by omega) e3 e4 (by unfold mC at*;grind)
variable {P:Program}
def xD:List AV->AV
 |[] => .undef
 |[x] =>x
 |l=> .tup l
def Wp{C0:bF}{B:Nat}{fn:Func}{ρ:Ren}{σ:Nat->Option Ob}{a:Act}{w:World}{F:List AV}{K:List AV->Prop}(hs:StR C0 ρ σ w B)(hf:∀t,aR ρ (ai C0 B w ρ σ) (F.getD t .any) (a.tmps.getD t Go.undef))(h:fp P fn.results.toList F σ K):
  ∃l v,K l/\(results fn a.tmps).run P w= .ok v w/\aR ρ (ai C0 B w ρ σ) (xD l) v:=by
 obtain⟨l,us,hl,h2,h3⟩:=pm hs hf _ _ h;have hres:(results fn a.tmps).run P w= .ok (if h:us.toArray.size=1 then us.toArray[0]else .tuple us.toArray) w:=by rw[uj,Ci];simp only[bi,Cj,h2,bq,cF]
 refine⟨l,_,hl,hres,?_⟩;match l,us,h3 with
 |[],us,h3=>subst h3;rfl
 |[x],us,h3=>
  obtain⟨v,r,rfl,h4,h5⟩:=h3;subst h5;exact h4
 |x::y::l,us,h3=>
  have hlen:=h3.length;show aR _ _ (.tup (x::y::l)) _;unfold aR;grind
def Om(P:Program)(rs:List ResultVar)(d:Option Nat)(m n:Nat)(K:List AV->Sto->Nat->Prop):kL:=λe Fc Lc Nc=>match e with
 | .normal| .ret=>fp P rs Fc Lc λl=>∃S F2,Lc dh=some ⟨0,0,.undef::(S++F2)⟩/\S.length=m/\F2.length=n/\K (cE F2 d (xD l)) (aX Lc [(dh,some ⟨0,0,.undef::S⟩)]) Nc
 |_=>False
def xX(v:AV)(f:Nat)(caps:List AV):Prop:=v= .fn (.func f) [] caps\/∃q:List PV,v= .p (.fn (.func f) [] q)/\caps=q.map .p
def xX.rep{x:AV}{f:Nat}{caps:List AV}(h:xX x f caps){ρ:Ren}{C:bF}{v:Value}(hr:aR ρ C x v):∃vs:List Value,v= .func (.func f) #[] vs.toArray/\ak ρ C caps vs:=by
 rcases h with rfl|⟨q,rfl,rfl⟩
 .obtain⟨v1,v2,h1,h2,h3⟩:=hr;unfold ak at h2;subst h2;exact⟨v2,h1,h3⟩
 .unfold aR az at hr;obtain⟨v1,v2,h1,h2,h3⟩:=hr;unfold bK at h2;subst h2;exact⟨v2,h1,bK.toA h3⟩
def Vn{o:Oper}{c:Call}{f:Operand}{fid:FuncId}{fn:Func}{body:Code}{A caps S F:List AV}{L:Sto}{N:Nat}{K:List AV->Sto->Nat->Prop}(ho:o.op= .call c)(hc:c.callee= .value f)(hfv:xX (dA F f) fid caps)
  (hA:c.args.toList.map (dA F)++caps=A) (hok:gF P fid=true) (hf:P.funcs[fid]? =some fn) (hb:fn.body=some body) (hL:L dh=some ⟨0,0,.undef::S⟩)
  (h:awp P body (Om P fn.results.toList o.dst S.length F.length K) (A++bS (fn.ntmps-A.length) .undef) (aX L [(dh,some ⟨0,0,.undef::(S++F)⟩)]) N):cY P o F L N K:=by
 intro C0 B wI a w ⟨⟨ρ,s1,s2,s3⟩,s4,s5,s6,s7⟩;obtain⟨c0,k1,k2,k3⟩:=zA s1 hL
 let V:Nat->Value:=λs=>a.tmps.getD s Go.undef
 have hev:∀x:Operand,aR ρ (ai C0 B w ρ L) (dA F x) (bE V x):=λx=>mT λt _=>s3 t;obtain⟨cv,hvf,hcv⟩:=hfv.rep (hev f);have hrun:(execOp (bE V) o).run P w= .ok (.enter fid (c.args.toList.map (bE V)++cv).toArray) w:=by
  unfold execOp;rw[ho];have e2: #[] ++np (bE V) c.args++cv.toArray=(c.args.toList.map (bE V)++cv).toArray:=by apply kV.1;simp
  simp only[resolve,hc,hvf,nq,bi,cF,bq,invoke,j6 hok,e2]
 have hargs:ak ρ (ai C0 B w ρ L) A (c.args.toList.map (bE V)++cv):=by
  rw[<-hA];generalize c.args.toList=l;induction l with
  |nil=>exact hcv
  |cons x l ih=>rw[cO,cO,mG,mG];unfold ak;grind
 let C1:bF:=λb i v=>if b=B then(if i<(AV.undef::S).length then C0 B i v else a.tmps[i-(AV.undef::S).length]? =some v)else C0 b i v
 have hC1:∀b,b<B->C1 b=C0 b:=by grind
 have hC1B:∀i v,C1 B i v->if i<(AV.undef::S).length then C0 B i v else a.tmps[i-(AV.undef::S).length]? =some v:=by grind
 obtain⟨hCC,hst⟩:=s1.stk (C1:=C1) (T:= .undef::(S++F)) hL hC1 (by
  intro i x hi v hv;have hv:=hC1B i v hv;rw[<-mG]at hi;split at hv
  .grind
  .rw[jD (by omega)]at hi;have:=s3 (i-(AV.undef::S).length);simp_all) (by
  grind)
 unfold cS;rw[hrun];have hlen:=hargs.length;have hfin:∀(e:Exit) (a':Act) (w':World),(∃F' L' N',Om P fn.results.toList o.dst S.length F.length K e F' L' N'/\St C1 B w F' L' N' a' w')->
   match e with| .normal| .ret=>a'.defers=[]/\∃v,(results fn a'.tmps).run P w'= .ok v w'/\∃v',Ending.returned v= .returned v'/\∃F' L' N',K F' L' N'/\St C0 B wI F' L' N' (a.put o.dst v') w'|_=>False:=by
  rintro e a' w' ⟨Fc,Lc,Nc,hq,⟨⟨ρ1,t1,t2,t3⟩,t4,t5,t6,t7⟩⟩;have fin:fp P fn.results.toList Fc Lc (λl=>∃S2 F2,Lc dh=some ⟨0,0,.undef::(S2++F2)⟩/\S2.length=S.length/\F2.length=F.length/\K (cE F2 o.dst (xD l)) (aX Lc [(dh,some ⟨0,0,.undef::S2⟩)]) Nc)->
    a'.defers=[]/\∃v,(results fn a'.tmps).run P w'= .ok v w'/\∃v',Ending.returned v= .returned v'/\∃F' L' N',K F' L' N'/\St C0 B wI F' L' N' (a.put o.dst v') w':=by
   intro hr;obtain⟨l,v,⟨S2,F2,hL2,hS2,hF2,hK⟩,hres,hrep⟩:=Wp t1 t3 hr;refine⟨t5,v,hres,v,rfl,_,_,Nc,hK,?_⟩;obtain⟨c1,j1,j2,j3⟩:=zA t1 hL2;have hl2:(AV.undef::S2).length=(AV.undef::S).length:=by simp[hS2]
   obtain⟨hCC2,hst2⟩:=t1.stk (C1:=C0) (T:= .undef::S2) hL2 (by grind) (by
    grind) (by
    grind)
   have hfr:∀t,aR ρ1 (ai C0 B w' ρ1 (aX Lc [(dh,some ⟨0,0,.undef::S2⟩)])) (F2.getD t .any) (a.tmps.getD t Go.undef):=by
    intro t;by_cases ht:t<F2.length
    .have htm:t<a.tmps.size:=by rw[s6];omega
     have e1:F2.getD t .any=F2[t] :=by rw[b8];simp[ht]
     have e2:a.tmps.getD t Go.undef=a.tmps[t] :=by rw[fN];simp[htm]
     rw[e1,e2];refine aR.mono (λ_ _ h=>h) (by grind) _ _ (j2 ((AV.undef::S).length+t) F2[t] (by grind) a.tmps[t] ?_);grind
    .rw[b8,eW (by omega)];trivial
   refine⟨⟨ρ1,hst2,t2,λt=> ?_⟩,t4,by cases hd:o.dst<;>exact s5,by rw[kZ,hF2];cases hd:o.dst<;>simpa[kT]using s6,s7.trans t7⟩;rw[mQ,sD,s6];by_cases e:o.dst=some t/\t<F.length
   .rw[if_pos (by grind),if_pos e];exact aR.mono (λ_ _ h=>h) (by grind) _ _ hrep
   .grind
  cases e<;>first|exact fin hq|exact hq.elim
 refine calls_of_wp hf hb (wp_mono (vI (C0:=C1) (B:=B) (wI:=w) body _ _ _ _ _ _ h ?_) ?_)
 .refine⟨⟨ρ,hst,s2,λt=> ?_⟩,s4,rfl,by simp[hlen],Below.refl _ _⟩;exact aR.mono (λ_ _ h=>h) (by grind) _ _ (WR hargs t)
 .intro e a' w' h;have:=hfin e a' w' h;cases e<;>first|exact this|exact this.elim
end
section
abbrev Rf:=Nat->Option (Option Nat)
mutual
def di(m:Rf):AV->AV->Prop
 | .any,_=>True
 | .p x,y=>y= .p x
 | .nil,y=>y= .nil
 | .undef,y=>y= .undef
 | .ptr s off,y=>∃o,m s=some (some o)/\y= .ptr o off
 | .own s o n,y=>(∃s',m s=some (some s')/\y= .own s' o n)\/(m s=some none/\y= .nil/\o=0/\n=0)
 | .agg l,y=>∃r,(y= .agg r\/∃q:List PV,y= .p (.agg q)/\r=q.map .p)/\dI m l r
 | .tup l,y=>∃r,(y= .tup r\/∃q:List PV,y= .p (.tup q)/\r=q.map .p)/\dI m l r
 | .fn f a b,y=>∃a2 b2,y= .fn f a2 b2/\dI m a a2/\dI m b b2
 | .mp s,y=>∃o,m s=some (some o)/\y= .mp o
def dI(m:Rf):List AV->List AV->Prop
 |[],r=>r=[]
 |x::l,r=>∃y r',r=y::r'/\di m x y/\dI m l r'
end
def gj(m:Rf)(ρ:Ren):Ren:=λs=>match m s with
 |some (some o)=>ρ o
 |some none=>some (none,0)
 |none=>none
mutual
theorem sC{m:Rf}{ρ:Ren}{C C':bF}(hC:∀b o v,C b o v->C' b o v):∀(x y:AV) (v:Value),di m x y->aR ρ C y v->aR (gj m ρ) C' x v
 | .any,y,v,_,_=>by trivial
 | .p x,y,v,h,hv=>by subst h;exact az.mono hC _ v hv
 | .nil,y,v,h,hv=>by subst h;exact hv
 | .undef,y,v,h,hv=>by subst h;exact hv
 | .ptr s off,y,v,h,hv=>by
   obtain⟨o,h1,rfl⟩:=h;obtain⟨b,c,h2,h3⟩:=hv;exact⟨b,c,by unfold gj;grind,h3⟩
 | .own s o n,y,v,h,hv=>by
   rcases h with⟨s',h1,rfl⟩|⟨h1,rfl,rfl,rfl⟩
   .obtain⟨q,c,h2,h3⟩:=hv;exact⟨q,c,by unfold gj;grind,h3⟩
   .exact⟨none,0,by unfold gj;rw[h1],.inl ⟨rfl,hv,rfl,rfl⟩⟩
 | .agg l,y,v,h,hv=>by
   obtain⟨r,hy,hr⟩:=h;have:∃vs:List Value,v= .agg vs.toArray/\ak ρ C r vs/\eu vs:=by
    rcases hy with rfl|⟨q,rfl,rfl⟩
    .exact hv
    .obtain⟨vs,h1,h2,h3⟩:=hv;exact⟨vs,h1,h2.toA,h3⟩
   obtain⟨vs,h1,h2,h3⟩:=this;exact⟨vs,h1,oB hC l r vs hr h2,h3⟩
 | .tup l,y,v,h,hv=>by
   obtain⟨r,hy,hr⟩:=h;have:∃vs:List Value,v= .tuple vs.toArray/\ak ρ C r vs:=by
    rcases hy with rfl|⟨q,rfl,rfl⟩
    .exact hv
    .obtain⟨vs,h1,h2⟩:=hv;exact⟨vs,h1,h2.toA⟩
   obtain⟨vs,h1,h2⟩:=this;exact⟨vs,h1,oB hC l r vs hr h2⟩
 | .fn f a b,y,v,h,hv=>by
   obtain⟨a2,b2,rfl,h1,h2⟩:=h;obtain⟨vs1,vs2,h3,h4,h5⟩:=hv;exact⟨vs1,vs2,h3,oB hC a a2 vs1 h1 h4,oB hC b b2 vs2 h2 h5⟩
 | .mp s,y,v,h,hv=>by
   obtain⟨o,h1,rfl⟩:=h;obtain⟨c,h2,h3⟩:=hv;exact⟨c,by unfold gj;grind,h3⟩
theorem oB{m:Rf}{ρ:Ren}{C C':bF}(hC:∀b o v,C b o v->C' b o v):∀(l r:List AV) (vs:List Value),dI m l r->ak ρ C r vs->ak (gj m ρ) C' l vs
 |[],r,vs,h,hv=>by subst h;exact hv
 |x::l,r,vs,h,hv=>by
  obtain⟨y,r',rfl,h1,h2⟩:=h;obtain⟨v,vs',rfl,h3,h4⟩:=hv;exact⟨v,vs',rfl,sC hC x y v h1 h3,oB hC l r' vs' h2 h4⟩
end
def EV{m:Rf}:∀{l r:List AV},dI m l r->l.length=r.length/\∀(i:Nat) x,l[i]? =some x->∃y,r[i]? =some y/\di m x y
 |[],r,h=>by unfold dI at h;grind
 |x::l,r,h=>by
  obtain⟨y,r',rfl,h1,h2⟩:=h;obtain⟨h3,h4⟩:=EV h2;grind
def kI(m:Rf)(ob' ob:Ob):Prop:=ob'.ty=ob.ty/\ob'.esz=ob.esz/\dI m ob'.cells ob.cells
def StR.rf{C0:bF}{B:Nat}{ρ:Ren}{w:World}{L L':Sto}(m:Rf)(hinj:∀s s' o,m s=some (some o)->m s'=some (some o)->s=s')
  (hL:∀s ob',L' s=some ob'->match m s with|some (some o)=>∃ob,L o=some ob/\kI m ob' ob|some none=>ob'.esz≠0/\ob'.cells=[] |none=>False) (s1:StR C0 ρ L w B):
  (∀b o v,ai C0 B w ρ L b o v->ai C0 B w (gj m ρ) L' b o v)/\StR C0 (gj m ρ) L' w B:=by
 have hCC:∀b o v,ai C0 B w ρ L b o v->ai C0 B w (gj m ρ) L' b o v:=by
  intro b o v ⟨e1,e2,e3⟩;refine⟨e1,λs c hs=> ?_,e3⟩;cases hl:L' s with
  |none=>rfl
  |some ob'=>
   unfold gj at hs;grind
 refine⟨hCC,?_,?_,?_⟩
 .intro s ob' hl;have:=hL s ob' hl;split at this
  .rename_i o ho;obtain⟨ob,h1,h2,h3,h4⟩:=this;obtain⟨q,c,k1,k2⟩:=s1.ob o ob h1;refine⟨q,c,by unfold gj;grind,?_⟩;obtain⟨g1,g2⟩:=EV h4;rcases k2 with⟨k2,⟨k3,k4,k5⟩|⟨k3,k4⟩⟩|⟨b,arr,k2,k3,k4⟩
   .grind
   .refine .inl ⟨k2,.inr ⟨by omega,?_⟩⟩;rcases k4 with⟨e1,e2,e3⟩|⟨e1,e2,es,clock,e3,e5,e6,e4⟩|⟨e1,e2,vs,e3,e4⟩
    .refine .inl ⟨by grind,λi x' hi v hv=> ?_,by grind⟩;obtain⟨x,hx,hr⟩:=g2 i x' hi;exact sC hCC _ _ v hr (e2 i x hx v hv)
    .exact .inr (.inl ⟨h2.trans e1,e2,es,clock,e3,e5,e6,oB hCC _ _ _ h4 e4⟩)
    .exact .inr (.inr ⟨h2.trans e1,e2,vs,e3,oB hCC _ _ _ h4 e4⟩)
   .refine .inr ⟨b,arr,k2,k3,⟨by rw[h2];exact k4.blk,λhz=>by rw[g1];exact k4.box (by omega),λhz=>by rw[h3,g1];exact k4.row (by omega),?_⟩⟩;intro i x' hi;obtain⟨x,hx,hr⟩:=g2 i x' hi;obtain⟨v,g3,g4,g5⟩:=k4.cells i x hx;exact⟨v,g3,g4,sC hCC _ _ v hr g5⟩
  .rename_i ho;exact⟨none,0,by unfold gj;rw[ho],by grind⟩
  grind
 .intro s s' o o' b c c' h1 h2 h3 h4;have g1:=hL s o h1;have g2:=hL s' o' h2;unfold gj at h3 h4;split at h3
  .rename_i x hx;rw[hx]at g1;obtain⟨ob,k1,_⟩:=g1;split at h4
   .rename_i x' hx';rw[hx']at g2;obtain⟨ob',k2,_⟩:=g2;have:=s1.inj x x' ob ob' b c c' k1 k2 h3 h4;grind
   .cases h4
   .cases h4
  .cases h3
  .cases h3
 .intro s s' o o' c c' h1 h2 m1 m2 h3 h4 hT;have g1:=hL s o h1;have g2:=hL s' o' h2;unfold gj at h3 h4;split at h3
  .rename_i x hx;rw[hx]at g1;obtain⟨ob,k1,k2,k3,_⟩:=g1;split at h4
   .rename_i x' hx';rw[hx']at g2;obtain⟨ob',q1,q2,q3,_⟩:=g2;have:=s1.mpi x x' ob ob' c c' k1 q1 (by omega) (by omega) h3 h4 (by unfold mC at*;grind);grind
   .grind
   .cases h4
  .grind
  .cases h3
def sO{F F':List AV}{L L':Sto}{N N':Nat}(m:Rf)(hlt:∀s x,m s=some x->cls s<N')(hinj:∀s s' o,m s=some (some o)->m s'=some (some o)->s=s')
  (hlen:F'.length=F.length) (hF:∀t,t<F.length->di m (F'.getD t .any) (F.getD t .any))
  (hL:∀s ob',L' s=some ob'->match m s with|some (some o)=>∃ob,L o=some ob/\kI m ob' ob|some none=>ob'.esz≠0/\ob'.cells=[] |none=>False):cV F L N F' L' N':=by
 intro C0 B wI a w ⟨⟨ρ,s1,s2,s3⟩,s4,s5,s6,s7⟩;obtain⟨hCC,hst⟩:=s1.rf m hinj hL;refine⟨⟨gj m ρ,hst,?_,?_⟩,s4,s5,by rw[s6,hlen],s7⟩
 .intro s hs;cases hr:m s with
  |none=>unfold gj;rw[hr]
  |some x=>grind
 .intro t;by_cases ht:t<F.length
  .exact sC hCC _ _ _ (hF t ht) (s3 t)
  .rw[b8,eW (by omega)];trivial
variable {P:Program}
def QX(P:Program)(f:FuncId)(A:List PV)(r:AV)(σ1:Sto):Prop:=gF P f=true/\
 ∀(C:bF) (w:World) (vs:List Value),(∀b o v,C b o v->w.cell? ⟨b,o,none⟩=some v)->bK C A vs->
  Calls P f vs.toArray w λe w'=>∃v ρ1,e= .returned v/\StR C ρ1 σ1 w' w.heap.size/\aR ρ1 (ai C w.heap.size w' ρ1 σ1) r v/\Below w.heap.size w w'
def Z2(m:Rf)(L' L:Sto):Prop:=(∀s s' o,m s=some (some o)->m s'=some (some o)->s=s')/\
 ∀s ob',L' s=some ob'->match m s with|some (some o)=>∃ob,L o=some ob/\kI m ob' ob|some none=>ob'.esz≠0/\ob'.cells=[] |none=>False
variable {o:Oper} {E:Operand->AV} {σ:Nat->Option Ob} {n:Nat}
def UY{c:Call}{f:Operand}{fid:FuncId}{A:List PV}{r r':AV}{σ1:Sto}{m1:Rf}{W':List (Nat×Option Ob)}(ho:o.op= .call c)(hc:c.callee= .value f)(hfv:E f= .p (.fn (.func fid) [] []))
  (hA:bJ (c.args.toList.map E)=some A) (hS:QX P fid A r σ1) (hcl:∀s x,m1 s=some x->cls s=n) (hWn:∀s,W'.lookup s≠none->cls s=n/\W'.lookup s≠some none) (hR:Z2 m1 (λs=>(W'.lookup s).join) σ1)
  (hty:∀s ob,W'.lookup s=some (some ob)->¬(ob.esz=0/\ob.ty=0)) (hr:di m1 r' r):a7 P o E σ n r' [] W':=by
 have hfm:f∈o.op.operands.toList:=by rw[ho];simp[cA,fw,hc]
 have ham:∀x∈c.args.toList,x∈o.op.operands.toList:=by intro x hx;rw[ho];simp[cA,fw];exact .inr (by grind)
 intro C0 ρ g V w B hs hB _ hn hgn hE;have hargs:∀l:List Operand,(∀x∈l,x∈o.op.operands.toList)->ak ρ (ai C0 B w ρ g) (l.map E) (l.map (bE V)):=by
  intro l;induction l with
  |nil=>intro _;rfl
  |cons x l ih=>
   unfold ak;grind
 have hall:=mq hA (hargs _ ham);have hvf:bE V f= .func (.func fid) #[] #[] :=by have:=hE f hfm;rw[hfv]at this;unfold aR az at this;obtain⟨v1,v2,h1,h2,h3⟩:=this;unfold bK at h2 h3;rw[h1,h2,h3]
 obtain⟨hok,hcalls⟩:=hS;have hrun:(execOp (bE V) o).run P w= .ok (.enter fid (c.args.toList.map (bE V)).toArray) w:=by
  unfold execOp;rw[ho];have e2: #[] ++np (bE V) c.args++ #[] =(c.args.toList.map (bE V)).toArray:=by apply kV.1;simp
  simp only[resolve,hc,hvf,nq,bi,cF,bq,invoke,j6 hok,e2]
 have hlive:∀s ob b c,g s=some ob->ρ s=some (some b,c)->b<w.heap.size:=by intro s ob b c e1 e2;obtain⟨_,arr,e3⟩:=hs.at e1 e2;exact e3.lt
 unfold cS;rw[hrun];dsimp only;refine(hcalls (ai C0 B w ρ g) w _ (λb o v h=>h.1) hall).mono ?_;rintro e w' ⟨v,ρ1,rfl,t1,t2,hbel⟩;obtain⟨j1,j2⟩:=t1.rf m1 hR.1 hR.2;have hold:∀b,b<w.heap.size->w'.heap[b]? =w.heap[b]? :=λb hb=>hbel.block b hb;generalize hρL:gj m1 ρ1=ρL at*;have hLn:∀s q,ρL s=some q->cls s=n:=by
  intro s q hq;rw[<-hρL]at hq;unfold gj at hq;cases hm:m1 s with
  |none=>grind
  |some x=>grind
 let ρ':Ren:=λs=>if cls s=n then ρL s else ρ s
 have hρn:∀s,cls s=n->ρ' s=ρL s:=by grind
 have hρs:∀s,cls s≠n->ρ' s=ρ s:=by grind
 have hL':∀s ob,W'.lookup s=some (some ob)->(λs=>(W'.lookup s).join) s=some ob:=by grind
 have hup:∀s,W'.lookup s=none->aX g W' s=g s:=λs h=>by unfold aX;rw[h]
 have hupn:∀s,cls s≠n->aX g W' s=g s:=by grind
 have hnew:∀s ob,aX g W' s=some ob->cls s=n->W'.lookup s=some (some ob):=by
  intro s ob h hs';unfold aX at h;cases hl:W'.lookup s with
  |none=>grind
  |some x=>grind
 have hext:∀s q,ρ s=some q->ρ' s=some q:=by grind
 have hextL:∀s q,ρL s=some q->ρ' s=some q:=by grind
 have hge:∀s ob b c,W'.lookup s=some (some ob)->ρL s=some (some b,c)->w.heap.size<=b:=λs ob b c h1 h2=>(j2.at (hL' s ob h1) h2).1;have hmono:∀b o' x,ai C0 B w ρ g b o' x->ai C0 B w' ρ' (aX g W') b o' x:=by
  intro b o' x ⟨e1,e2,e3⟩;have hb:b<w.heap.size:=fx w ⟨b,o',none⟩ e1;refine⟨(gW (hold b hb)).trans e1,λs c' e4=> ?_,e3⟩;by_cases hsn:cls s=n
  .cases hu:aX g W' s with
   |none=>rfl
   |some ob=>grind
  .grind
 have hCL:∀b o' x,ai (ai C0 B w ρ g) w.heap.size w' ρL (λs=>(W'.lookup s).join) b o' x->ai C0 B w' ρ' (aX g W') b o' x:=by
  intro b o' x ⟨e1,e2,e3⟩;refine⟨e1,λs c' e4=> ?_,?_⟩
  .by_cases hsn:cls s=n
   .rw[hρn s hsn]at e4;cases hu:aX g W' s with
    |none=>rfl
    |some ob=>grind
   .rw[hρs s hsn]at e4;rw[hupn s hsn];rcases e3 with e3|e3
    .cases hg:g s with
     |none=>rfl
     |some ob=>grind
    .exact e3.2.1 s c' e4
  .rcases e3 with e3|e3
   .omega
   .exact e3.2.2
 refine⟨_,rfl,ρ',hρs,hmono,?_,aR.mono hextL hCL _ _ (by rw[<-hρL];exact sC (by grind) _ _ _ hr t2),hbel.mono hB⟩;refine hs.stepG (by grind) hext hmono (by grind) (by grind) ?_;intro s ob hso;obtain⟨q,c',h1,⟨h2,h3|⟨h3,h4⟩⟩|⟨b,arr,h2,h3,h4⟩⟩:=j2.ob s ob (hL' s ob hso)
 .grind
 .refine⟨q,c',by grind,.inr (.inl ⟨h2,h3,?_,?_⟩)⟩
  .rcases h4 with⟨h5,_⟩|⟨h5,h6,es,clock,h7,h9,h10,h8⟩|⟨h5,h6,vs,⟨r,since,seen,c0,es,clock,cur,h7,h9⟩,h8⟩
   .grind
   .exact .inr (.inl ⟨h5,by grind,es,clock,h7,h9,h10,ak.mono hextL hCL _ _ h8⟩)
   .exact .inr (.inr ⟨h5,by grind,vs,⟨r,since,seen,c0,es,clock,cur,by grind,h9⟩,ak.mono hextL hCL _ _ h8⟩)
  .intro s' ob' c2 hne hu he hρ2 hT;have hT1:ob.ty≠0/\ob'.ty≠0/\c'=c2:=by
    rcases hT with hT|hT
    .exact hT
    .grind
   by_cases hsn':cls s'=n
   .rw[hρn s' hsn']at hρ2;subst h2;exact hne (j2.mpi s s' ob ob' c' c2 (hL' s ob hso) (by grind) h3 he h1 hρ2 hT).symm
   .rw[hρs s' hsn']at hρ2;rw[hupn s' hsn']at hu;obtain⟨q2,c3,k1,⟨_,⟨k2,_⟩|⟨_,k2⟩⟩|⟨b,arr,k2,_⟩⟩:=hs.ob s' ob' hu
    .exact k2 he
    .rw[hρ2]at k1;cases k1;have hlt:c2<w.heap.size:=by
      rcases k2 with⟨k3,_⟩|⟨_,_,es,clock,k3,_⟩|⟨_,_,vs,⟨r,since,seen,c0,es,clock,cur,_,_,k3,_⟩,_⟩
      .exact absurd k3 hT1.2.1
      .exact iv ⟨_,k3,by simp⟩
      .exact iv ⟨_,k3,by simp⟩
     rcases h4 with⟨h5,_⟩|⟨_,h6,_⟩|⟨_,h6,_⟩
     .exact absurd h5 hT1.1
     .omega
     .omega
    grind
 .refine⟨q,c',by grind,.inr (.inr ⟨b,arr,h2,by grind,⟨h4.blk,h4.box,h4.row,λi x hi=> ?_⟩,?_⟩)⟩
  .obtain⟨u,g1,g2,g3⟩:=h4.cells i x hi;exact⟨u,g1,g2,aR.mono hextL hCL x u g3⟩
  .intro s' ob' c2 hne hu hρ2;subst h2;by_cases hsn':cls s'=n
   .rw[hρn s' hsn']at hρ2;exact hne (j2.inj s s' ob ob' b c' c2 (hL' s ob hso) (by grind) h1 hρ2).symm
   grind
end
end Go.Proofs.YtdnhebjljnfjaaaGreat
