/- Part 1 of what the statement stands on -/
import Derived.WalkKit
import Derived.Below
import Derived.Deep.MidRow
import Derived.Test.YtdnhebjljnfjaaaGreatProg
import Derived.WalkSpells
import Derived.WalkLawsBesides
import Derived.Lib.Hide
import Derived.Deep.QuietTactic
import Derived.BigQuiet
import Derived.WalkSmall
import Derived.Deep.RegionHeld3
import Derived.LoopTactic
import Derived.Orders
import Derived.Laws.OwnMore
import Derived.Maps.AppendAt
import Derived.Laws.Small
import Derived.Scope
set_option linter.all false
set_option maxRecDepth 100000
set_option maxHeartbeats 8000000
open Int renaming mul_le_mul_left->DA,mul_zero->lW,lt_or_le->p8,mul_nonneg->jG,mul_neg_of_neg_of_pos->Rb,mul_eq_zero->mY,mul_le_mul_of_nonneg_right->kD
open Bool renaming and_eq_true->cD,true_and->jH,false_eq_true->oI,eq_iff_iff->lZ,or_eq_true->jI,eq_false_or_eq_true->Re,not_eq_true'->Rg
open List renaming mem_cons->bh,not_mem_nil->dg,pairwise_cons->kC,mem_filter->yG,length_nil->iI,length_cons->iJ,range->bO,all_eq_true->dm,mem_range->dY,length->fg,getElem_of_mem->iK,getElem?_drop->ru,getElem?_take->oL,length_eq_zero_iff->ip,mem_append->eK,map_toArray->uw,map_cons->cV,map_nil->lc,length_take->ew,getElem?_set->gZ,getElem?_map->dw,lookup->cL,take_of_length_le->ir,replicate->bS,replicate_succ->oP,flatten_cons->Rj,getElem?_append_left->iL,getElem?_append_right->iU,mem_replicate->Rk,length_map->eB,length_append->dh,mem_append_left->f7,mem_append_right->fq,getElem?_eq_getElem->dA,lookup_cons->dJ,any_eq_true->li,getD_eq_getElem?_getD->bq,getElem?_set_ne->Rn,mem_filterMap->kF,getElem?_eq_none->eQ,range'->u6,cons_append->ma,getElem?_replicate->jf
open Classical renaming byContradiction->DB
open Nat renaming mod_lt->eO,mod_eq_of_lt->oJ,gcd->cE,eq_zero_or_pos->oK,lt_or_ge->jc,mul_comm->ur,le_refl->az,le_trans->ci,mul_le_mul->DG,mul_eq_zero->DH,add_assoc->oO,decEq->iq,add_mul->lg,le_mul_of_pos_right->Rl,add_zero->ux,zero_le->cO
open Array renaming getElem?_modify->yI,getD_eq_getD_getElem?->fW,getElem?_eq_getElem->ry,getElem?_setIfInBounds->p9,replicate->kY,getElem?_replicate->yK,toList_inj->kd,length_toList->rz,range->DJ,map->oQ,getElem?_append_left->yR,getElem?_append_right->DM,mapM_eq_mapM_toList->DN
open Go.Region renaming binds->iS,ready->yJ,wanted->gv
open Option renaming map_some->dn,getD_some->mZ,bind_some->kc,map_eq_some_iff->iT,isSome_iff_exists->la,bind_eq_some_iff->kE,some.injEq->fO
open Go.Act renaming put->kZ
open Go.Code renaming region->DC,rounds->yQ
open Go.Instr renaming loadAt->yL,sureAddr->yM,indexAt->DF,sliceBounds->yN
open Go.Sem renaming run_bind->bo,run_pure->cK,run_map->DO
open Go.Op renaming operands->cG,equal->ut,maxDepth->DD,equalIn->jd,intArith->DE,intCmp->uu
open Go.Result renaming andThen_ok->b9
open Go.Value renaming int->c9,cells->DI
open Go.Addr renaming add_mid->uv
open Go.Call renaming operands->fz
open Go.World renaming block_lt_of_cell?->f0,cell?_of_block->gb,setRow->uy
open Go.Deferred renaming ofValue->oR
open Or renaming elim->yP
open Go.IntKind renaming i64->d6
open Go.RowKit
namespace Go.Proofs.YtdnhebjljnfjaaaGreat.Geo
end Go.Proofs.YtdnhebjljnfjaaaGreat.Geo
open Go.Proofs.YtdnhebjljnfjaaaGreat.Geo
namespace Go.Proofs.YtdnhebjljnfjaaaGreat
@[reducible]def aC9{α:Sort _}(a:α)(f:α->Prop):Prop:=f a
namespace Geo
structure V where
 x:Int
 y:Int
deriving DecidableEq,Inhabited
structure S where
 a:V
 b:V
deriving DecidableEq,Inhabited
def sub(p q:V):V:=⟨p.x-q.x,p.y-q.y⟩
def cross(p q:V):Int:=p.x*q.y-p.y*q.x
def sgn(n:Int):Int:=if 0<n then 1 else if n<0 then-1 else 0
def bZ(a b c:V):Int:=sgn (cross (sub b a) (sub c a))
def bV(p q:V):Bool:=decide (p.y<q.y)||(p.y==q.y&&decide (p.x<q.x))
def bR(p:V)(m:Int):Bool:=decide (-m<=p.x)&&decide (p.x<=m)&&decide (-m<=p.y)&&decide (p.y<=m)
def bQ(s:S):Bool:=bR s.a 4000&&bR s.b 4000
def fE(s:S)(p:V):Bool:=decide (min s.a.x s.b.x<=p.x)&&decide (p.x<=max s.a.x s.b.x)&&decide (min s.a.y s.b.y<=p.y)&&decide (p.y<=max s.a.y s.b.y)
def onS(s:S)(p:V):Bool:=bQ s&&fE s p&&bZ s.a s.b p==0
def o8(n:Int):sgn n=0↔n=0:=by unfold sgn;grind
def HO(n:Int):0<sgn n↔0<n:=by unfold sgn;grind
def Xh(n:Int):sgn n<0↔n<0:=by unfold sgn;grind
def yp(m n:Int):sgn m*sgn n<0↔(0<m/\n<0)\/(m<0/\0<n):=by unfold sgn;grind
def bi(x y:Int):Int:=if x<y then-1 else if y<x then 1 else 0
def dT(p q:V):Int:=if bi p.y q.y=0 then bi p.x q.x else bi p.y q.y
def gk(s t:S)(d:Int):Int:=
 let a0:=cross (sub t.a s.a) (sub t.b t.a)
 let b0:=cross (sub t.a s.a) (sub s.b s.a)
 let a:=if d<0 then-a0 else a0
 let b:=if d<0 then-b0 else b0
 let e:=if d<0 then-d else d
 if a<0\/e<a\/b<0\/e<b then 0 else if a=0\/a=e\/b=0\/b=e then 1 else 2
def loS(s:S):V:=if bV s.b s.a then s.b else s.a
def hiS(s:S):V:=if bV s.b s.a then s.a else s.b
def cC(s t:S):V:=if bV (loS s) (loS t)then loS t else loS s
def cH(s t:S):V:=if bV (hiS t) (hiS s)then hiS t else hiS s
def dU(s t:S):Int:=
 if !(bQ s&&bQ t)then 0
 else if cross (sub s.b s.a) (sub t.b t.a)≠0 then gk s t (cross (sub s.b s.a) (sub t.b t.a))
 else if s.a=s.b/\onS t s.a=true then 1
 else if t.a=t.b/\onS s t.a=true then 1
 else if s.a=s.b\/t.a=t.b\/bZ s.a s.b t.a≠0 then 0
 else if dT (cC s t) (cH s t)=0 then 1
 else if dT (cC s t) (cH s t)= -1 then 3
 else 0
def cT(s t:S)(p:V):Prop:=onS s p=true/\onS t p=true
structure MeetIs(s t:S)(k:Int):Prop where
 none:(bQ s&&bQ t)=false->k=0
 over:∀p q,p∈[s.a,s.b,t.a,t.b]->q∈[s.a,s.b,t.a,t.b]->p≠q->cT s t p->cT s t q->k=3
 touch:(bQ s&&bQ t)=true->(∀p q,p∈[s.a,s.b,t.a,t.b]->q∈[s.a,s.b,t.a,t.b]->cT s t p->cT s t q->p=q)->(∃p,p∈[s.a,s.b,t.a,t.b]/\cT s t p)->k=1
 cross:(bQ s&&bQ t)=true->(∀p,p∈[s.a,s.b,t.a,t.b]->¬cT s t p)->(bZ s.a s.b t.a*bZ s.a s.b t.b<0/\bZ t.a t.b s.a*bZ t.a t.b s.b<0)->k=2
 else_:(bQ s&&bQ t)=true->(∀p,p∈[s.a,s.b,t.a,t.b]->¬cT s t p)->¬(bZ s.a s.b t.a*bZ s.a s.b t.b<0/\bZ t.a t.b s.a*bZ t.a t.b s.b<0)->k=0
def wa(d b v w:Int)(hd:0<d)(h:d*w=b*v)(hv:v≠0):(min 0 v<=w/\w<=max 0 v)↔(0<=b/\b<=d):=by
 rcases Int.lt_or_gt_of_ne hv with hv|hv
 .have e1:w<=0↔0<=b:=by
   rw[<-DA hd,lW,h];constructor
   .intro h1;rcases p8 b 0 with h2|h2
    .have:=Int.mul_pos_of_neg_of_neg h2 hv;omega
    .exact h2
   .intro h1;have:=jG h1 (show(0:Int)<= -v by omega);grind
  have e2:v<=w↔b<=d:=by
   rw[<-DA hd,h];constructor
   .simp_all
   .simp_all
  omega
 .have e1:0<=w↔0<=b:=by
   rw[<-DA hd,lW,h];constructor
   .intro h1;rcases p8 b 0 with h2|h2
    .have:=Rb h2 hv;omega
    .exact h2
   .intro h1;exact jG h1 (by omega)
  have e2:w<=v↔b<=d:=by rw[<-DA hd,h];exact Int.mul_le_mul_right hv
  omega
def kw(s:S)(p:V)(d b:Int)(hd:0<d)(hx:d*(p.x-s.a.x)=b*(s.b.x-s.a.x))(hy:d*(p.y-s.a.y)=b*(s.b.y-s.a.y))(hv:s.a≠s.b):
  fE s p=true↔(0<=b/\b<=d):=by
 obtain⟨⟨ax,ay⟩,⟨bx,b_y⟩⟩:=s;obtain⟨px,py⟩:=p;simp only[fE,cD,decide_eq_true_eq]at*;simp only[ne_eq,V.mk.injEq,not_and]at hv;by_cases h1:bx-ax=0
 .have h2:b_y-ay≠0:=by intro h2;grind
  rw[h1,lW]at hx;have h3:px-ax=0:=by
   rcases mY.1 hx with h|h
   .omega
   .exact h
  have:=wa d b _ _ hd hy h2;omega
 .by_cases h2:b_y-ay=0
  .rw[h2,lW]at hy;have h3:py-ay=0:=by
    rcases mY.1 hy with h|h
    .omega
    .exact h
   have:=wa d b _ _ hd hx h1;omega
  .have e1:=wa d b _ _ hd hx h1;have e2:=wa d b _ _ hd hy h2;omega
def gh{s:S}{p:V}(hv:bQ s=true):onS s p=true↔(fE s p=true/\cross (sub s.b s.a) (sub p s.a)=0):=by unfold onS bZ;rw[hv];simp only[jH,cD,beq_iff_eq,o8]
def rM{s:S}(hv:bQ s=true):onS s s.a=true:=by rw[gh hv];refine⟨?_,by simp[cross,sub]⟩;simp[fE];omega
def CI{s:S}(hv:bQ s=true):onS s s.b=true:=by rw[gh hv];refine⟨?_,by simp only[cross,sub];grind⟩;simp[fE];omega
def q1{d a b sa sb ta tb:Int}(h:d*(ta-sa)=a*(sb-sa)-b*(tb-ta))(e:a=0):d*(sa-ta)=b*(tb-ta):=by grind
def q2{d a b sa sb ta tb:Int}(h:d*(ta-sa)=a*(sb-sa)-b*(tb-ta))(e:a=d):d*(sb-ta)=b*(tb-ta):=by grind
def q3{d a b sa sb ta tb:Int}(h:d*(ta-sa)=a*(sb-sa)-b*(tb-ta))(e:b=0):d*(ta-sa)=a*(sb-sa):=by grind
def q4{d a b sa sb ta tb:Int}(h:d*(ta-sa)=a*(sb-sa)-b*(tb-ta))(e:b=d):d*(tb-sa)=a*(sb-sa):=by grind
def z13{d a b sa sb ta tb:Int}(h:d*(ta-sa)=a*(sb-sa)-b*(tb-ta))(e:a=0)(f:b=0):d*(ta-sa)=0:=by grind
def z14{d a b sa sb ta tb:Int}(h:d*(ta-sa)=a*(sb-sa)-b*(tb-ta))(e:a=0)(f:b=d):d*(tb-sa)=0:=by grind
def z23{d a b sa sb ta tb:Int}(h:d*(ta-sa)=a*(sb-sa)-b*(tb-ta))(e:a=d)(f:b=0):d*(ta-sb)=0:=by grind
def z24{d a b sa sb ta tb:Int}(h:d*(ta-sa)=a*(sb-sa)-b*(tb-ta))(e:a=d)(f:b=d):d*(tb-sb)=0:=by grind
def Wj(s t:S)(hs:bQ s=true)(ht:bQ t=true)(hd:cross (sub s.b s.a) (sub t.b t.a)≠0):
  MeetIs s t (gk s t (cross (sub s.b s.a) (sub t.b t.a))):=by
 have hsab:s.a≠s.b:=by intro h;apply hd;rw[h];simp[cross,sub]
 have htab:t.a≠t.b:=by intro h;apply hd;rw[h];simp[cross,sub]
 obtain⟨a0,ha0⟩:∃a,a=cross (sub t.a s.a) (sub t.b t.a):=⟨_,rfl⟩;obtain⟨b0,hb0⟩:∃a,a=cross (sub t.a s.a) (sub s.b s.a):=⟨_,rfl⟩;obtain⟨d0,hd0⟩:∃a,a=cross (sub s.b s.a) (sub t.b t.a):=⟨_,rfl⟩;have f1:cross (sub t.b t.a) (sub s.a t.a)=a0:=by rw[ha0];simp only[cross,sub];grind
 have f2:cross (sub t.b t.a) (sub s.b t.a)=a0-d0:=by rw[ha0,hd0];simp only[cross,sub];grind
 have f3:cross (sub s.b s.a) (sub t.a s.a)= -b0:=by rw[hb0];simp only[cross,sub];grind
 have f4:cross (sub s.b s.a) (sub t.b s.a)=d0-b0:=by rw[hb0,hd0];simp only[cross,sub];grind
 have gx:d0*(t.a.x-s.a.x)=a0*(s.b.x-s.a.x)-b0*(t.b.x-t.a.x):=by rw[ha0,hb0,hd0];simp only[cross,sub];grind
 have gy:d0*(t.a.y-s.a.y)=a0*(s.b.y-s.a.y)-b0*(t.b.y-t.a.y):=by rw[ha0,hb0,hd0];simp only[cross,sub];grind
 rw[<-hd0]at hd;obtain⟨a,b,d,hdp,hx,hy,hab⟩:∃a b d:Int,0<d/\d*(t.a.x-s.a.x)=a*(s.b.x-s.a.x)-b*(t.b.x-t.a.x)/\d*(t.a.y-s.a.y)=a*(s.b.y-s.a.y)-b*(t.b.y-t.a.y)/\((d0<0/\a= -a0/\b= -b0/\d= -d0)\/(¬d0<0/\a=a0/\b=b0/\d=d0)):=by
  by_cases h:d0<0
  .exact⟨-a0,-b0,-d0,by omega,by grind,by grind,by grind⟩
  .exact⟨a0,b0,d0,by omega,gx,gy,by grind⟩
 have hK:gk s t d0=if a<0\/d<a\/b<0\/d<b then 0 else if a=0\/a=d\/b=0\/b=d then 1 else 2:=by unfold gk;simp only[<-ha0,<-hb0];rcases hab with⟨h,rfl,rfl,rfl⟩|⟨h,rfl,rfl,rfl⟩<;>simp only[h,if_true,if_false]
 have c1:cT s t s.a↔(a=0/\0<=b/\b<=d):=by
  unfold cT;rw[gh ht,f1];have e:a0=0↔a=0:=by clear gx gy hx hy;omega
  rw[e];constructor
  .rintro⟨_,h1,h2⟩;exact⟨h2,(kw t s.a d b hdp (q1 hx h2) (q1 hy h2) htab).1 h1⟩
  .rintro⟨h2,h3⟩;exact⟨rM hs,(kw t s.a d b hdp (q1 hx h2) (q1 hy h2) htab).2 h3,h2⟩
 have c2:cT s t s.b↔(a=d/\0<=b/\b<=d):=by
  unfold cT;rw[gh ht,f2];have e:a0-d0=0↔a=d:=by clear gx gy hx hy;omega
  rw[e];constructor
  .rintro⟨_,h1,h2⟩;exact⟨h2,(kw t s.b d b hdp (q2 hx h2) (q2 hy h2) htab).1 h1⟩
  .rintro⟨h2,h3⟩;exact⟨CI hs,(kw t s.b d b hdp (q2 hx h2) (q2 hy h2) htab).2 h3,h2⟩
 have c3:cT s t t.a↔(b=0/\0<=a/\a<=d):=by
  unfold cT;rw[gh hs,f3];have e: -b0=0↔b=0:=by clear gx gy hx hy;omega
  rw[e];constructor
  .rintro⟨⟨h1,h2⟩,_⟩;exact⟨h2,(kw s t.a d a hdp (q3 hx h2) (q3 hy h2) hsab).1 h1⟩
  .rintro⟨h2,h3⟩;exact⟨⟨(kw s t.a d a hdp (q3 hx h2) (q3 hy h2) hsab).2 h3,h2⟩,rM ht⟩
 have c4:cT s t t.b↔(b=d/\0<=a/\a<=d):=by
  unfold cT;rw[gh hs,f4];have e:d0-b0=0↔b=d:=by clear gx gy hx hy;omega
  rw[e];constructor
  .rintro⟨⟨h1,h2⟩,_⟩;exact⟨h2,(kw s t.b d a hdp (q4 hx h2) (q4 hy h2) hsab).1 h1⟩
  .rintro⟨h2,h3⟩;exact⟨⟨(kw s t.b d a hdp (q4 hx h2) (q4 hy h2) hsab).2 h3,h2⟩,CI ht⟩
 have hT:(bZ s.a s.b t.a*bZ s.a s.b t.b<0/\bZ t.a t.b s.a*bZ t.a t.b s.b<0)↔(0<a/\a<d/\0<b/\b<d):=by
  unfold bZ;rw[yp,yp,f1,f2,f3,f4];clear hx hy gx gy c1 c2 c3 c4 f1 f2 f3 f4 hK ha0 hb0 hd0;rcases hab with⟨h,rfl,rfl,rfl⟩|⟨h,rfl,rfl,rfl⟩
  .omega
  .omega
 rw[<-hd0,hK];clear hK f1 f2 f3 f4;have hone:∀p q,p∈[s.a,s.b,t.a,t.b]->q∈[s.a,s.b,t.a,t.b]->cT s t p->cT s t q->p=q:=by
  have zz:∀x:Int,d*x=0->x=0:=λx h=>by rcases mY.1 h with h|h<;>omega
  have e13:cT s t s.a->cT s t t.a->s.a=t.a:=by rw[c1,c3];rintro⟨h1,_⟩ ⟨h2,_⟩;have h3:=zz _ (z13 hx h1 h2);have h4:=zz _ (z13 hy h1 h2);cases hsa:s.a;cases hta:t.a;simp only[hsa,hta]at h3 h4;simp;omega
  have e14:cT s t s.a->cT s t t.b->s.a=t.b:=by rw[c1,c4];rintro⟨h1,_⟩ ⟨h2,_⟩;have h3:=zz _ (z14 hx h1 h2);have h4:=zz _ (z14 hy h1 h2);cases hsa:s.a;cases hta:t.b;simp only[hsa,hta]at h3 h4;simp;omega
  have e23:cT s t s.b->cT s t t.a->s.b=t.a:=by rw[c2,c3];rintro⟨h1,_⟩ ⟨h2,_⟩;have h3:=zz _ (z23 hx h1 h2);have h4:=zz _ (z23 hy h1 h2);cases hsa:s.b;cases hta:t.a;simp only[hsa,hta]at h3 h4;simp;omega
  have e24:cT s t s.b->cT s t t.b->s.b=t.b:=by rw[c2,c4];rintro⟨h1,_⟩ ⟨h2,_⟩;have h3:=zz _ (z24 hx h1 h2);have h4:=zz _ (z24 hy h1 h2);cases hsa:s.b;cases hta:t.b;simp only[hsa,hta]at h3 h4;simp;omega
  have e12:cT s t s.a->cT s t s.b->False:=by rw[c1,c2];clear hx hy;omega
  have e34:cT s t t.a->cT s t t.b->False:=by rw[c3,c4];clear hx hy;omega
  intro p q hp hq h1 h2;simp only[bh,dg,or_false]at hp hq;rcases hp with rfl|rfl|rfl|rfl<;>rcases hq with rfl|rfl|rfl|rfl
  .rfl
  .grind
  .grind
  .grind
  .grind
  .rfl
  .grind
  .grind
  .grind
  .grind
  .rfl
  .grind
  .grind
  .grind
  .grind
  .rfl
 clear hx hy hd0 hab hd;constructor
 .grind
 .grind
 .grind
 .omega
 grind
def leV(p q:V):Prop:=p.y<q.y\/(p.y=q.y/\p.x<=q.x)
instance(p q:V):Decidable (leV p q):=by unfold leV;infer_instance
def pC(p:V):leV p p:= .inr (by grind)
def ou{p q r:V}(h1:leV p q)(h2:leV q r):leV p r:=by unfold leV at*;omega
def AH{p q:V}(h1:leV p q)(h2:leV q p):p=q:=by cases p;cases q;unfold leV at*;grind
def vn(p q:V):leV p q\/leV q p:=by unfold leV;omega
def gS(p q:V):bV p q=true↔¬leV q p:=by unfold bV leV;simp;omega
def qI(p q:V):bV p q=false↔leV q p:=by rw[<-Bool.not_eq_true,gS];grind
def sZ(p q:V):dT p q=0↔p=q:=by cases p;cases q;unfold dT bi;grind
def tD(p q:V):dT p q= -1↔bV p q=true:=by unfold dT bi bV;grind
def A5(p q:V):dT p q<0↔bV p q=true:=by unfold dT bi bV;grind
def H5(s:S):(loS s=s.a/\hiS s=s.b)\/(loS s=s.b/\hiS s=s.a):=by unfold loS hiS;grind
def G1(s:S)(p:V)(hne:s.a≠s.b)(hc:cross (sub s.b s.a) (sub p s.a)=0):fE s p=true↔(leV (loS s) p/\leV p (hiS s)):=by
 simp only[cross,sub]at hc;by_cases hy:s.b.y=s.a.y
 .have hx:s.b.x≠s.a.x:=by intro hx;apply hne;cases hsa:s.a;cases hsb:s.b;simp only[hsa,hsb]at hx hy;simp[hx,hy]
  unfold loS hiS;cases h:bV s.b s.a
  .have h1:=(qI _ _).1 h;simp only[fE,leV,cD,decide_eq_true_eq]at*;grind
  .have h1:=(gS _ _).1 h;simp only[fE,leV,cD,decide_eq_true_eq]at*;grind
 .have hxy:p.y=s.a.y->p.x=s.a.x:=by
   intro h;have h0:p.y-s.a.y=0:=by omega
   rw[h0]at hc;have:(s.b.y-s.a.y)*(p.x-s.a.x)=0:=by omega
   rcases mY.1 this with h|h<;>omega
  have hxz:p.y=s.b.y->p.x=s.b.x:=by
   intro h;rw[h]at hc;have:(s.b.y-s.a.y)*(p.x-s.b.x)=0:=by grind
   rcases mY.1 this with h|h<;>omega
  rcases Int.lt_or_gt_of_ne hy with h|h
  .have hb:=kw s p (s.a.y-s.b.y) (s.a.y-p.y) (by omega) (by grind) (by grind) hne;rw[hb];have h1:bV s.b s.a=true:=by rw[gS];unfold leV;omega
   unfold loS hiS;rw[h1];simp only[if_true,leV];omega
  .have hb:=kw s p (s.b.y-s.a.y) (p.y-s.a.y) (by omega) (by grind) (by grind) hne;rw[hb];have h1:bV s.b s.a=false:=by rw[qI];unfold leV;omega
   unfold loS hiS;rw[h1];simp only[oI,if_false,leV];omega
def vQ{s:S}(h:s.a=s.b){p:V}(hp:fE s p=true):p=s.a:=by cases hsa:s.a;cases hsb:s.b;cases p;simp only[fE,hsa,hsb,V.mk.injEq,cD,decide_eq_true_eq]at*;omega
def EQ(u v w:V)(h1:cross u v=0)(h2:cross v w=0)(hv:v≠⟨0,0⟩):cross u w=0:=by
 simp only[cross]at*;by_cases hx:v.x=0
 .have hy:v.y≠0:=by intro hy;apply hv;cases v;simp at hx hy;simp[hx,hy]
  have:v.y*(u.x*w.y-u.y*w.x)=0:=by grind
  rcases mY.1 this with h|h
  .omega
  .exact h
 .have:v.x*(u.x*w.y-u.y*w.x)=0:=by grind
  rcases mY.1 this with h|h
  .omega
  .exact h
def JC{p q:V}(h:p≠q):sub q p≠⟨0,0⟩:=by intro h';apply h;cases p;cases q;simp only[sub,V.mk.injEq]at*;omega
def tS(s t:S):MeetIs s t (dU s t):=by
 unfold dU;by_cases hv:(bQ s&&bQ t)=true
 .have hs:bQ s=true:=by simp at hv;exact hv.1
  have ht:bQ t=true:=by simp at hv;exact hv.2
  rw[if_neg (by rw[hv];simp)];by_cases hd:cross (sub s.b s.a) (sub t.b t.a)≠0
  .rw[if_pos hd];exact Wj s t hs ht hd
  .rw[if_neg hd];have hd0:cross (sub s.b s.a) (sub t.b t.a)=0:=by omega
   have hnv:∀k,(bQ s&&bQ t)=false->k=(0:Int):=by intro k h;rw[hv]at h;cases h
   have hside:¬(bZ s.a s.b t.a*bZ s.a s.b t.b<0/\bZ t.a t.b s.a*bZ t.a t.b s.b<0):=by
    rintro⟨h,_⟩;unfold bZ at h;rw[yp]at h;have e:cross (sub s.b s.a) (sub t.b s.a)=cross (sub s.b s.a) (sub t.a s.a)+cross (sub s.b s.a) (sub t.b t.a):=by simp only[cross,sub];grind
    omega
   have allone:∀z,(∀p,p∈[s.a,s.b,t.a,t.b]->cT s t p->p=z)->cT s t z->z∈[s.a,s.b,t.a,t.b]->MeetIs s t 1:=by intro z hz hzo hzm;refine⟨hnv 1,by grind,λ_ _ _=>rfl,by grind,by grind⟩
   have nothing:(∀p,p∈[s.a,s.b,t.a,t.b]->¬cT s t p)->MeetIs s t 0:=by intro h;exact⟨λ_=>rfl,by grind,by grind,by grind,λ_ _ _=>rfl⟩
   by_cases h1:s.a=s.b/\onS t s.a=true
   .rw[if_pos h1];exact allone s.a (λp _ h=>vQ h1.1 ((gh hs).1 h.1).1) ⟨rM hs,h1.2⟩ (by simp)
   .rw[if_neg h1];by_cases h2:t.a=t.b/\onS s t.a=true
    .rw[if_pos h2];exact allone t.a (λp _ h=>vQ h2.1 ((gh ht).1 h.2).1) ⟨h2.2,rM ht⟩ (by simp)
    .rw[if_neg h2];by_cases h3:s.a=s.b\/t.a=t.b\/bZ s.a s.b t.a≠0
     .rw[if_pos h3];apply nothing;rintro p hp ⟨hps,hpt⟩;by_cases hsd:s.a=s.b
      .have:=vQ hsd ((gh hs).1 hps).1;grind
      .by_cases htd:t.a=t.b
       .have:=vQ htd ((gh ht).1 hpt).1;grind
       .have h4:bZ s.a s.b t.a≠0:=by
         rcases h3 with h|h|h
         .grind
         .grind
         .exact h
        have c1:=((gh hs).1 hps).2;have c2:=((gh ht).1 hpt).2;have hv0:=JC htd;have c3:=EQ _ _ _ hd0 c2 hv0;apply h4;unfold bZ;rw[o8];have e:cross (sub s.b s.a) (sub t.a s.a)=cross (sub s.b s.a) (sub p s.a)-cross (sub s.b s.a) (sub p t.a):=by simp only[cross,sub];grind
        omega
     .rw[if_neg h3];have hsd:s.a≠s.b:=by grind
      have htd:t.a≠t.b:=by grind
      have hta:cross (sub s.b s.a) (sub t.a s.a)=0:=by
       have:bZ s.a s.b t.a=0:=by grind
       unfold bZ at this;rwa[o8]at this
      have hl1:∀p,p∈[s.a,s.b,t.a,t.b]->cross (sub s.b s.a) (sub p s.a)=0:=by
       intro p hp;simp only[bh,dg,or_false]at hp;rcases hp with rfl|rfl|rfl|rfl
       .simp[cross,sub]
       .simp only[cross];grind
       .exact hta
       .have e:cross (sub s.b s.a) (sub t.b s.a)=cross (sub s.b s.a) (sub t.a s.a)+cross (sub s.b s.a) (sub t.b t.a):=by simp only[cross,sub];grind
        omega
      have hl2:∀p,p∈[s.a,s.b,t.a,t.b]->cross (sub t.b t.a) (sub p t.a)=0:=by
       intro p hp;have h5:=hl1 p hp;have e:cross (sub s.b s.a) (sub p t.a)=cross (sub s.b s.a) (sub p s.a)-cross (sub s.b s.a) (sub t.a s.a):=by simp only[cross,sub];grind
       have h6:cross (sub s.b s.a) (sub p t.a)=0:=by omega
       have h7:cross (sub t.b t.a) (sub s.b s.a)=0:=by
        have:cross (sub t.b t.a) (sub s.b s.a)= -cross (sub s.b s.a) (sub t.b t.a):=by simp only[cross,sub];grind
        omega
       exact EQ _ _ _ h7 h6 (JC hsd)
      have hlo:leV (loS s) (cC s t)/\leV (loS t) (cC s t)/\(cC s t=loS s\/cC s t=loS t):=by
       unfold cC;cases h:bV (loS s) (loS t)
       .have:=(qI _ _).1 h;simp[this,pC]
       .have h':=(gS _ _).1 h;have:leV (loS s) (loS t):=(vn _ _).elim id (by grind);simp[this,pC]
      have hhi:leV (cH s t) (hiS s)/\leV (cH s t) (hiS t)/\(cH s t=hiS s\/cH s t=hiS t):=by
       unfold cH;cases h:bV (hiS t) (hiS s)
       .have:=(qI _ _).1 h;simp[this,pC]
       .have h':=(gS _ _).1 h;have:leV (hiS t) (hiS s):=(vn _ _).elim id (by grind);simp[this,pC]
      have hmem:∀p,(p=loS s\/p=hiS s\/p=loS t\/p=hiS t)->p∈[s.a,s.b,t.a,t.b] :=by intro p h;have h5:=H5 s;have h6:=H5 t;simp only[bh,dg,or_false];grind
      have hon:∀p,p∈[s.a,s.b,t.a,t.b]->(cT s t p↔leV (cC s t) p/\leV p (cH s t)):=by
       intro p hp;unfold cT;rw[gh hs,gh ht,G1 s p hsd (hl1 p hp),G1 t p htd (hl2 p hp)];constructor
       .grind
       .rintro⟨a1,a2⟩;exact⟨⟨⟨ou hlo.1 a1,ou a2 hhi.1⟩,hl1 p hp⟩,⟨ou hlo.2.1 a1,ou a2 hhi.2.1⟩,hl2 p hp⟩
      have mlo:cC s t∈[s.a,s.b,t.a,t.b] :=hmem _ (by grind);have mhi:cH s t∈[s.a,s.b,t.a,t.b] :=hmem _ (by grind);by_cases h5:dT (cC s t) (cH s t)=0
      .rw[if_pos h5];have e:=(sZ _ _).1 h5;refine allone (cC s t) ?_ (by grind) mlo;intro p hp h;have h6:=(hon p hp).1 h;rw[<-e]at h6;exact AH h6.2 h6.1
      .rw[if_neg h5];by_cases h6:dT (cC s t) (cH s t)= -1
       .rw[if_pos h6];have h7:=(gS _ _).1 ((tD _ _).1 h6);have h8:leV (cC s t) (cH s t):=(vn _ _).elim id (by grind);have o1:=(hon _ mlo).2 ⟨pC _,h8⟩;have o2:=(hon _ mhi).2 ⟨h8,pC _⟩;have hne:cC s t≠cH s t:=by grind
        exact⟨by grind,by grind,by grind,by grind,by grind⟩
       .rw[if_neg h6];apply nothing;intro p hp h;have h7:=(hon p hp).1 h;have h8:=ou h7.1 h7.2;have h9:¬bV (cC s t) (cH s t)=true:=λh=>h6 ((tD _ _).2 h);rw[gS]at h9;exact h5 ((sZ _ _).2 (AH h8 (by grind)))
 .have hv':(bQ s&&bQ t)=false:=by simpa using hv
  rw[if_pos (by rw[hv'];rfl)];have hv3:¬(bQ s&&bQ t)=true:=by rw[hv'];simp
  refine⟨λ_=>rfl,λp q _ _ _ h1 _=> ?_,by grind,by grind,by grind⟩;exfalso;obtain⟨h1,h2⟩:=h1;unfold onS at h1 h2;grind
def iC:List V->V->List V
 |[],p=>[p]
 |q::r,p=>if bV q p then q::iC r p else if q=p then q::r else p::q::r
def jn(l:List V):List V:=l.foldl iC []
def GT(l:List V)(p x:V):x∈iC l p↔x=p\/x∈l:=by
 induction l with
 |nil=>simp[iC]
 |cons q r ih=>
  unfold iC;grind
def Sc(l acc:List V)(x:V):x∈l.foldl iC acc↔x∈acc\/x∈l:=by
 induction l generalizing acc with
 |nil=>simp
 |cons q r ih=>rw[List.foldl_cons,ih,GT];grind
def TG(l:List V)(x:V):x∈jn l↔x∈l:=by unfold jn;rw[Sc];simp
def TI{p q r:V}(h1:bV p q=true)(h2:bV q r=true):bV p r=true:=by unfold bV at*;grind
def Ss(p:V):bV p p=false:=by unfold bV;simp
def U4{p q:V}(h1:bV p q=false)(h2:p≠q):bV q p=true:=by rw[gS];intro h;exact h2 (AH h ((qI _ _).1 h1))
def TL(l:List V)(p:V)(h:l.Pairwise (λa b=>bV a b=true)):(iC l p).Pairwise (λa b=>bV a b=true):=by
 induction l with
 |nil=>simp[iC]
 |cons q r ih=>
  rw[kC]at h;unfold iC;split
  .rename_i hq;rw[kC];refine⟨?_,ih h.2⟩;intro x hx;rcases(GT _ _ _).1 hx with rfl|hx
   .exact hq
   grind
  .split
   .simp_all
   .rename_i hne;have hpq:=U4 (by grind) hne;rw[kC,kC];refine⟨?_,h⟩;intro x hx;rcases bh.1 hx with rfl|hx
    .exact hpq
    .exact TI hpq (h.1 x hx)
def SO(l acc:List V)(h:acc.Pairwise (λa b=>bV a b=true)):(l.foldl iC acc).Pairwise (λa b=>bV a b=true):=by
 induction l generalizing acc with
 |nil=>exact h
 |cons q r ih=>exact ih _ (TL acc q h)
def SZ(l:List V):(jn l).Pairwise (λa b=>bV a b=true):=SO l [] List.Pairwise.nil
def x4(s t:S):List V:=[s.a,s.b,t.a,t.b]
def fJ(s t:S):List V:=jn ((x4 s t).filter (λp=>onS s p&&onS t p))
def TH(s t:S)(p:V):p∈fJ s t↔p∈x4 s t/\cT s t p:=by unfold fJ cT;rw[TG,yG];simp
def fL(s:S)(p:V):Int:=if !(bQ s)|| !(bR p 4000)then 0 else bZ s.a s.b p
def dB(s t:S):Int:=
 if !(bQ s&&bQ t)then 0
 else if 1<(fJ s t).length then 3
 else if(fJ s t).length=1 then 1
 else if fL s t.a*fL s t.b<0/\fL t s.a*fL t s.b<0 then 2
 else 0
def YD(s t:S):dU s t=dB s t:=by
 have h:=tS s t;obtain⟨k,hk⟩:∃k,k=dU s t:=⟨_,rfl⟩;unfold dB;cases hv:(bQ s&&bQ t)with
 |false=>simp[h.none hv]
 |true=>
  have hs:bQ s=true:=by simp at hv;exact hv.1
  have ht:bQ t=true:=by simp at hv;exact hv.2
  have ws:=hs;have wt:=ht;unfold bQ at ws wt;simp only[cD]at ws wt;simp only[Bool.not_true,oI,if_false,fL,hs,ht,ws,wt,Bool.or_self];have hp:=SZ ((x4 s t).filter (λp=>onS s p&&onS t p));have hm:=TH s t;rw[show jn ((x4 s t).filter (λp=>onS s p&&onS t p))=fJ s t from rfl]at hp;generalize fJ s t=l at hp hm;match l,hp,hm with
  |[],_,hm=>
   have hno:∀p,p∈[s.a,s.b,t.a,t.b]->¬cT s t p:=λp hp ho=>by have:=(hm p).2 ⟨hp,ho⟩;cases this
   simp only[iI];by_cases hc:bZ s.a s.b t.a*bZ s.a s.b t.b<0/\bZ t.a t.b s.a*bZ t.a t.b s.b<0
   .rw[if_pos hc];exact h.cross hv hno hc
   .rw[if_neg hc];exact h.else_ hv hno hc
  |[z],_,hm=>
   simp only[List.length_singleton];have hz:=(hm z).1 (by simp);refine h.touch hv ?_ ⟨z,hz⟩;intro p q hp hq h1 h2;have e1:=(hm p).2 ⟨hp,h1⟩;have e2:=(hm q).2 ⟨hq,h2⟩;grind
  |z::y::r,hp,hm=>
   simp only[iJ];have hz:=(hm z).1 (by simp);have hy:=(hm y).1 (by simp);refine h.over z y hz.1 hy.1 ?_ hz.2 hy.2;intro e;rw[kC]at hp;have:=hp.1 y (by simp);rw[e,Ss]at this;cases this
abbrev bE:=List V
def nth(r:bE)(i:Nat):V:=r.getD i default
def nxt(r:bE)(i:Nat):V:=nth r ((i+1) % r.length)
def prv(r:bE)(i:Nat):V:=nth r ((i+r.length-1) % r.length)
def c8(r:bE)(i:Nat):S:=⟨nth r i,nxt r i⟩
def aR(r:bE):List S:=if r.length<2 then []else(bO r.length).map (c8 r)
def gP(r:bE):Int:=((bO r.length).map λi=>cross (nth r i) (nxt r i)).sum
def near(r:bE):Bool:=r.all λv=>bR v 2000
def dF(r:bE):Bool:=
 decide (3<=r.length)&&decide (r.length<=40)&&near r&&decide (0<gP r)&&
 ((bO r.length).all λi=>bZ (prv r i) (nth r i) (nxt r i) !=0)&&
 ((bO r.length).all λi=>(bO r.length).all λk=>decide (k<=i)||k==i+1||(i==0&&k==r.length-1)||dU (c8 r i) (c8 r k)==0)
def dO(r:bE):Bool:=
 decide (3<=r.length)&&decide (r.length<=40)&&near r&&
 ((bO r.length).all λi=>bZ (nth r i) (nth r ((i+1) % r.length)) (nth r ((i+2) % r.length)) !=0)&&
 ((bO r.length).all λi=>(bO r.length).all λk=>decide (k<=i)||
   (if k=i+1\/(i=0/\k=r.length-1)then dB (c8 r i) (c8 r k)==1 else dB (c8 r i) (c8 r k)==0))&&
 decide (0<gP r)
def Vq(a b c:V):bZ a b c=bZ b c a:=by unfold bZ;simp only[cross,sub];grind
def GU(s t:S)(hs:bQ s=true)(ht:bQ t=true)(he:s.b=t.a)(hn:bZ s.a s.b t.b≠0):dU s t=1:=by
 have h:=tS s t;have hb:cT s t s.b:=⟨CI hs,by rw[he];exact rM ht⟩;refine h.touch (by grind) ?_ (by grind);have key:∀p,p∈[s.a,s.b,t.a,t.b]->cT s t p->p=s.b:=by
  intro p hp ho;simp only[bh,dg,or_false]at hp;rcases hp with rfl|rfl|rfl|rfl
  .exfalso;apply hn;have:=((gh ht).1 ho.2).2;rw[Vq];unfold bZ;rw[o8,he];exact this
  .rfl
  .exact he.symm
  .exfalso;apply hn;have:=((gh hs).1 ho.1).2;unfold bZ;rw[o8];exact this
 grind
def Uy(s t:S):dU s t=dU t s:=by
 have h1:=tS s t;have h2:=tS t s;have hmem:∀p,p∈[s.a,s.b,t.a,t.b] ↔p∈[t.a,t.b,s.a,s.b] :=by intro p;simp only[bh,dg,or_false];grind
 have hob:∀p,cT s t p↔cT t s p:=λp=>And.comm;cases hv:(bQ s&&bQ t)with
 |false=>rw[h1.none hv,h2.none (by grind)]
 |true=>
  have hv':(bQ t&&bQ s)=true:=by rw[Bool.and_comm];exact hv
  by_cases hx:∃p,p∈[s.a,s.b,t.a,t.b]/\cT s t p
  .by_cases hu:∀p q,p∈[s.a,s.b,t.a,t.b]->q∈[s.a,s.b,t.a,t.b]->cT s t p->cT s t q->p=q
   .rw[h1.touch hv hu hx,h2.touch hv' (by grind)];grind
   .have:∃p q,p∈[s.a,s.b,t.a,t.b]/\q∈[s.a,s.b,t.a,t.b]/\p≠q/\cT s t p/\cT s t q:=by apply DB;intro hno;apply hu;intro p q hp hq a b;apply DB;intro hne;grind
    obtain⟨p,q,hp,hq,hne,a,b⟩:=this;rw[h1.over p q hp hq hne a b,h2.over p q ((hmem p).1 hp) ((hmem q).1 hq) hne ((hob p).1 a) ((hob q).1 b)]
  .have hno:∀p,p∈[s.a,s.b,t.a,t.b]->¬cT s t p:=by grind
   have hno':∀p,p∈[t.a,t.b,s.a,s.b]->¬cT t s p:=by grind
   by_cases hc:bZ s.a s.b t.a*bZ s.a s.b t.b<0/\bZ t.a t.b s.a*bZ t.a t.b s.b<0
   .rw[h1.cross hv hno hc,h2.cross hv' hno' ⟨hc.2,hc.1⟩]
   .rw[h1.else_ hv hno hc,h2.else_ hv' hno' (by grind)]
def yl{v:V}{m n:Int}(h:bR v m=true)(hmn:m<=n):bR v n=true:=by unfold bR at*;simp only[cD,decide_eq_true_eq]at*;omega
def wB{r:bE}(h:near r=true)(i:Nat)(hi:i<r.length):bR (nth r i) 2000=true:=by unfold near at h;unfold nth;grind
def qN{r:bE}(h:near r=true)(i:Nat)(hi:i<r.length):bQ (c8 r i)=true:=by unfold bQ c8 nxt;have h2:(i+1) % r.length<r.length:=eO _ (by omega);simp only[cD];exact⟨yl (wB h i hi) (by omega),yl (wB h _ h2) (by omega)⟩
def nG{i n:Nat}(h:i<n):i % n=i:=oJ h
def tA{i n:Nat}(h1:n<=i)(h2:i<2*n):i % n=i-n:=by rw[Nat.mod_eq_sub_mod h1,oJ (by omega)]
def Ez(r:bE)(hn:3<=r.length):
  ((bO r.length).all λi=>bZ (prv r i) (nth r i) (nxt r i) !=0)=((bO r.length).all λi=>bZ (nth r i) (nth r ((i+1) % r.length)) (nth r ((i+2) % r.length)) !=0):=by
 rw[lZ,dm,dm];constructor
 .intro h i hi;have hi:=dY.1 hi;have:=h ((i+1) % r.length) (dY.2 (eO _ (by omega)));unfold prv nxt at this;by_cases h1:i+1<r.length
  .rw[nG h1]at this|-;have e1:(i+1+r.length-1) % r.length=i:=by rw[show i+1+r.length-1=i+r.length from by omega,tA (by omega) (by omega)];omega
   grind
  .have e0:i+1=r.length:=by omega
   rw[e0,Nat.mod_self]at this|-;have e1:(0+r.length-1) % r.length=i:=by rw[nG (by omega)];omega
   have e2:(i+2) % r.length=(0+1) % r.length:=by rw[tA (by omega) (by omega),nG (by omega)];omega
   grind
 .intro h i hi;have hi:=dY.1 hi;have:=h ((i+r.length-1) % r.length) (dY.2 (eO _ (by omega)));unfold prv nxt;by_cases h1:i=0
  .subst h1;have e1:(0+r.length-1) % r.length=r.length-1:=by rw[nG (by omega)];omega
   have e2:(r.length-1+1) % r.length=0:=by rw[show r.length-1+1=r.length from by omega,Nat.mod_self]
   have e3:(r.length-1+2) % r.length=(0+1) % r.length:=by rw[tA (by omega) (by omega),nG (by omega)];omega
   grind
  .have e1:(i+r.length-1) % r.length=i-1:=by rw[tA (by omega) (by omega)];omega
   have e2:(i-1+1) % r.length=i:=by rw[show i-1+1=i from by omega];exact nG hi
   have e3:i-1+2=i+1:=by omega
   grind
def Fk(r:bE):dF r=dO r:=by
 unfold dF dO;by_cases h3:3<=r.length
 case neg=>simp[h3]
 by_cases hn:near r=true
 case neg=>simp[hn]
 rw[Ez r h3];cases ht:((bO r.length).all λi=>bZ (nth r i) (nth r ((i+1) % r.length)) (nth r ((i+2) % r.length)) !=0)with
 |false=>simp
 |true=>
  have hpairs:((bO r.length).all λi=>(bO r.length).all λk=>decide (k<=i)||k==i+1||(i==0&&k==r.length-1)||dU (c8 r i) (c8 r k)==0)=
    ((bO r.length).all λi=>(bO r.length).all λk=>decide (k<=i)||
      (if k=i+1\/(i=0/\k=r.length-1)then dB (c8 r i) (c8 r k)==1 else dB (c8 r i) (c8 r k)==0)):=by
   have hturn:∀i,i<r.length->bZ (nth r i) (nth r ((i+1) % r.length)) (nth r ((i+2) % r.length))≠0:=by intro i hi;rw[dm]at ht;have:=ht i (dY.2 hi);simpa using this
   have hpt:∀i k,i<r.length->k<r.length->(decide (k<=i)||k==i+1||(i==0&&k==r.length-1)||dU (c8 r i) (c8 r k)==0)=(decide (k<=i)||
     (if k=i+1\/(i=0/\k=r.length-1)then dB (c8 r i) (c8 r k)==1 else dB (c8 r i) (c8 r k)==0)):=by
    intro i k hi hk;rw[<-YD];by_cases hki:k<=i
    .simp[hki]
    .by_cases h1:k=i+1
     .subst h1;have:=GU (c8 r i) (c8 r (i+1)) (qN hn i hi) (qN hn _ hk) (by unfold c8 nxt;simp[nG hk]) (by have:=hturn i hi;exact this)
      simp[this]
     .by_cases h2:i=0/\k=r.length-1
      .obtain⟨rfl,rfl⟩:=h2;have e1:(r.length-1+1) % r.length=0:=by rw[show r.length-1+1=r.length from by omega,Nat.mod_self]
       have:=GU (c8 r (r.length-1)) (c8 r 0) (qN hn _ hk) (qN hn _ hi) (by unfold c8 nxt;grind) (by
        have:=hturn (r.length-1) hk;have e3:(r.length-1+2) % r.length=(0+1) % r.length:=by rw[tA (by omega) (by omega),nG (by omega)];omega
        unfold c8 nxt;grind)
       rw[Uy]at this;simp[this]
      .have h3:(i==0&&k==r.length-1)=false:=by rw[<-Bool.not_eq_true,cD,beq_iff_eq,beq_iff_eq];exact h2
       have h4:(k==i+1)=false:=by rw[beq_eq_false_iff_ne];exact h1
       rw[if_neg (by omega),h3,h4];simp
   rw[lZ];simp only[dm,dY];constructor
   .grind
   .grind
  grind
structure Pt where
 x:Int
 y:Int
 den:Int
deriving DecidableEq,Inhabited
def toV(p:Pt)(v:V):V:=⟨p.x-v.x*p.den,p.y-v.y*p.den⟩
def fe(s:S)(p:Pt):Int:=cross (sub s.b s.a) (toV p s.a)
def onP(s:S)(p:Pt):Bool:=
 fe s p==0&&(decide (min (toV p s.a).x (toV p s.b).x<=0)&&decide (0<=max (toV p s.a).x (toV p s.b).x))&&(decide (min (toV p s.a).y (toV p s.b).y<=0)&&decide (0<=max (toV p s.a).y (toV p s.b).y))
def iE(s:S)(p:Pt):Bool:=
 (decide (0<=(toV p s.a).y) !=decide (0<=(toV p s.b).y))&&(decide (0<=(toV p s.a).y)==decide (0<fe s p))
def onR(s:S)(p:Pt):Bool:=
 (decide (min s.a.x s.b.x*p.den<=p.x)&&decide (p.x<=max s.a.x s.b.x*p.den)&&decide (min s.a.y s.b.y*p.den<=p.y)&&decide (p.y<=max s.a.y s.b.y*p.den))&&sgn (fe s p)==0
def iD(s:S)(p:Pt):Bool:=
 ((decide (s.a.y*p.den<=p.y)&&decide (p.y<s.b.y*p.den))&&decide (0<sgn (fe s p)))||((decide (s.b.y*p.den<=p.y)&&decide (p.y<s.a.y*p.den))&&decide (sgn (fe s p)<0))
def Ht(a b d:Int)(h:0<=d):min a b*d=min (a*d) (b*d):=by
 rcases Int.le_total a b with h1|h1
 .rw[Int.min_eq_left h1,Int.min_eq_left (kD h1 h)]
 .rw[Int.min_eq_right h1,Int.min_eq_right (kD h1 h)]
def Hz(a b d:Int)(h:0<=d):max a b*d=max (a*d) (b*d):=by
 rcases Int.le_total a b with h1|h1
 .rw[Int.max_eq_right h1,Int.max_eq_right (kD h1 h)]
 .rw[Int.max_eq_left h1,Int.max_eq_left (kD h1 h)]
def aAg(s:S)(p:Pt)(h:0<p.den):onP s p=onR s p:=by unfold onP onR toV;rw[Ht _ _ _ (by omega),Hz _ _ _ (by omega),Ht _ _ _ (by omega),Hz _ _ _ (by omega),lZ];simp only[cD,decide_eq_true_eq,beq_iff_eq,o8];omega
def To(s:S)(p:Pt)(h0:fe s p=0)(ha:(toV p s.a).y<0)(hb:0<=(toV p s.b).y)(_hd:0<p.den):onP s p=true:=by
 have e:fe s p*p.den=(toV p s.a).x*(toV p s.b).y-(toV p s.a).y*(toV p s.b).x:=by unfold fe toV cross sub;grind
 rw[h0,Int.zero_mul]at e;unfold onP;rw[h0];generalize (toV p s.a).x=ax at*;generalize (toV p s.b).x=bx at*;simp only[BEq.rfl,jH,cD,decide_eq_true_eq];have hx:(min ax bx<=0/\0<=max ax bx):=by
  rcases p8 0 ax with h1|h1
  .have h2:bx<=0:=by
    rcases p8 0 bx with h2|h2
    .have p1:=Rb ha h2;have p2:=jG (show 0<=ax by omega) hb;omega
    .exact h2
   omega
  .rcases p8 ax 0 with h1|h1
   .have h2:0<=bx:=by
     rcases p8 bx 0 with h2|h2
     .have p1:=Int.mul_pos_of_neg_of_neg ha h2;have p2:=jG (show 0<= -ax by omega) hb;grind
     .exact h2
    omega
   .omega
 omega
def Zb(s:S)(p:Pt)(h:0<p.den)(ho:onP s p=false):iE s p=iD s p:=by
 have key:(toV p s.a).y<0->0<=(toV p s.b).y->fe s p≠0:=by intro h1 h2 h3;rw[To s p h3 h1 h2 h]at ho;cases ho
 unfold iE iD;rw[lZ];simp only[cD,jI,decide_eq_true_eq,bne_iff_ne,ne_eq,beq_iff_eq,HO,Xh,decide_eq_decide];have ey1:(toV p s.a).y=p.y-s.a.y*p.den:=rfl;have ey2:(toV p s.b).y=p.y-s.b.y*p.den:=rfl;omega
def di(p:Pt)(m:Int):Bool:=decide (1<=p.den)&&decide (p.den<=134217728)&&bR ⟨p.x,p.y⟩ (m*p.den)
def dE(p:Pt):Bool:=di p 4000&&(cE (cE p.x.natAbs p.y.natAbs) p.den.natAbs==1)
def gE(p:Pt):List S->Bool->Int
 |[],ins=>if ins then 2 else 0
 |s::l,ins=>if onP s p then 1 else gE p l (ins !=iE s p)
def jr(p:Pt):List S->Bool->Int
 |[],ins=>if ins then 2 else 0
 |s::l,ins=>if onR s p then 1 else jr p l (ins !=iD s p)
def Xi(p:Pt)(h:0<p.den)(l:List S)(ins:Bool):gE p l ins=jr p l ins:=by
 induction l generalizing ins with
 |nil=>rfl
 |cons s l ih=>
  unfold gE jr;rw[<-aAg s p h];cases ho:onP s p with
  |true=>rfl
  |false=>rw[ih,Zb s p h ho]
def gz(r:bE)(p:Pt):Int:=if !(dF r)|| !(dE p)then 0 else gE p (aR r) false
def dQ(r:bE)(p:Pt):Int:=if !(dO r)|| !(dE p)then 0 else jr p (aR r) false
def Vm(r:bE)(p:Pt):gz r p=dQ r p:=by
 unfold gz dQ;rw[Fk];cases hp:dE p with
 |false=>simp
 |true=>
  have:0<p.den:=by unfold dE di at hp;simp only[cD,decide_eq_true_eq]at hp;omega
  rw[Xi p this]
def bP(v:V):Pt:=⟨v.x,v.y,1⟩
def eV(r:bE)(v:V):Int:=if !(bR v 4000)then 0 else gz r (bP v)
def iY(r:bE)(v:V):Int:=if !(bR v 8000)then 0 else dQ r (bP v)
def Du(v:V):dE (bP v)=bR v 4000:=by unfold dE di bP bR;simp
def Ey(r:bE)(v:V):eV r v=iY r v:=by
 unfold eV iY;rw[Vm];cases h:bR v 4000 with
 |true=>rw[yl h (by omega)]
 |false=>
  unfold dQ;rw[Du,h];simp
structure Shape where
 outer:bE
 holes:List bE
deriving DecidableEq,Inhabited
def dL(s:Shape):List bE:=s.outer::s.holes
def aZ(l:List bE)(i:Nat):bE:=l.getD i []
def gD(a b:bE):Bool:=(aR a).all λx=>(aR b).all λy=>dU x y==0
def bJ(r q:bE)(place:Int):Bool:=r.all λv=>eV q v==place
def iv(s:Shape):Nat:=((dL s).map fg).sum
def iZ(s:Shape):Bool:=
 decide (s.holes.length<=6)&&(dL s).all dF&&decide (iv s<=80)&&
 ((bO s.holes.length).all λi=>bJ (aZ s.holes i) s.outer 2&&gD (aZ s.holes i) s.outer&&
   ((bO i).all λk=>gD (aZ s.holes i) (aZ s.holes k)&&bJ (aZ s.holes i) (aZ s.holes k) 0&&bJ (aZ s.holes k) (aZ s.holes i) 0))
def gU(a b:bE):Bool:=(aR a).any λx=>(aR b).any λy=>dB x y !=0
def og(a b:bE):Bool:=a.all λv=>iY b v==2
def jL(a b:bE):Bool:=a.any λv=>iY b v==2
def dZ(s:Shape):Bool:=
 decide (s.holes.length<=6)&&dO s.outer&&
 ((bO s.holes.length).all λi=>dO (aZ s.holes i)&& !gU (aZ s.holes i) s.outer&&og (aZ s.holes i) s.outer&&
   ((bO i).all λk=> !gU (aZ s.holes i) (aZ s.holes k)&& !jL (aZ s.holes i) (aZ s.holes k)&& !jL (aZ s.holes k) (aZ s.holes i)))&&
 decide (iv s<=80)
def Sr{s t:S}{p:V}(hp:p∈[s.a,s.b,t.a,t.b])(ho:cT s t p):dU s t≠0:=by
 have h:=tS s t;have hv:(bQ s&&bQ t)=true:=by obtain⟨h1,h2⟩:=ho;unfold onS at h1 h2;simp only[cD]at h1 h2|-;grind
 by_cases hu:∀p q,p∈[s.a,s.b,t.a,t.b]->q∈[s.a,s.b,t.a,t.b]->cT s t p->cT s t q->p=q
 .rw[h.touch hv hu ⟨p,hp,ho⟩];decide
 .have:∃p q,p∈[s.a,s.b,t.a,t.b]/\q∈[s.a,s.b,t.a,t.b]/\p≠q/\cT s t p/\cT s t q:=by apply DB;intro hno;apply hu;intro p q hp hq a b;apply DB;intro hne;grind
  obtain⟨p,q,hp,hq,hne,a,b⟩:=this;rw[h.over p q hp hq hne a b];decide
def FG{r:bE}{s:S}:s∈aR r↔2<=r.length/\∃i,i<r.length/\s=c8 r i:=by unfold aR;grind
def Hx{r:bE}{v:V}:v∈r↔∃i,i<r.length/\v=nth r i:=by
 unfold nth;constructor
 .intro h;obtain⟨i,hi,e⟩:=iK h;exact⟨i,hi,by grind⟩
 grind
structure VR(r:bE):Prop where
 three:3<=r.length
 most:r.length<=40
 near:near r=true
 gP:0<gP r
 bZ:∀i,i<r.length->bZ (prv r i) (nth r i) (nxt r i)≠0
 turn':∀i,i<r.length->Geo.bZ (nth r i) (nth r ((i+1) % r.length)) (nth r ((i+2) % r.length))≠0
 apart:∀i k,i<k->k<r.length->k≠i+1->¬(i=0/\k=r.length-1)->dU (c8 r i) (c8 r k)=0
def TT(r:bE):dF r=true↔VR r:=by
 constructor
 .intro h;unfold dF at h;simp only[cD,decide_eq_true_eq,dm,dY]at h;obtain⟨⟨⟨⟨⟨h1,h2⟩,h3⟩,h4⟩,h5⟩,h6⟩:=h;refine⟨h1,h2,h3,h4,by grind,λi hi=> ?_,λi k hik hk h7 h8=> ?_⟩
  .have:=Ez r h1;grind
  grind
 .rintro⟨h1,h2,h3,h4,h5,_,h6⟩;unfold dF;simp only[cD,decide_eq_true_eq,dm,dY];grind
def WC{p:Pt}{l:List S}{ins:Bool}(h:gE p l ins=1):∃s∈l,onP s p=true:=by
 induction l generalizing ins with
 |nil=>unfold gE at h;omega
 |cons s l ih=>
  unfold gE at h;grind
def Tf(p:Pt)(l:List S)(ins:Bool):gE p l ins=0\/gE p l ins=1\/gE p l ins=2:=by
 induction l generalizing ins with
 |nil=>unfold gE;omega
 |cons s l ih=>unfold gE;grind
def Se(r:bE)(v:V):eV r v=0\/eV r v=1\/eV r v=2:=by
 unfold eV gz;split
 .simp
 .split
  .simp
  .exact Tf _ _ _
def WU(s:S)(v:V):onP s (bP v)=true↔(fE s v=true/\cross (sub s.b s.a) (sub v s.a)=0):=by unfold onP fe toV bP fE;simp only[Int.mul_one,cD,beq_iff_eq,decide_eq_true_eq];rw[show(⟨v.x-s.a.x,v.y-s.a.y⟩:V)=sub v s.a from rfl];omega
def S3{r:bE}{v:V}(h:eV r v=1):∃s∈aR r,onS s v=true:=by
 unfold eV gz at h;split at h
 .omega
 .split at h
  .omega
  .rename_i h2;obtain⟨s,hs,ho⟩:=WC h;refine⟨s,hs,?_⟩;have hv:VR r:=by rw[<-TT];simp at h2;exact h2.1
   obtain⟨_,i,hi,rfl⟩:=FG.1 hs;rw[gh (qN hv.near i hi)];exact(WU _ _).1 ho
def Sd{a b:bE}(ha:VR a)(h:gD a b=true){v:V}(hv:v∈a){s:S}(hs:s∈aR b)(ho:onS s v=true):False:=by obtain⟨i,hi,rfl⟩:=Hx.1 hv;have hm:c8 a i∈aR a:=FG.2 ⟨by have:=ha.three;omega,i,hi,rfl⟩;unfold gD at h;rw[dm]at h;have h1:=h _ hm;rw[dm]at h1;refine Sr (s:=c8 a i) (t:=s) (p:=nth a i) (by simp[c8]) ⟨?_,ho⟩ (by grind);exact rM (s:=c8 a i) (qN ha.near i hi)
def pR{a b:bE}(ha:VR a)(h:gD a b=true):bJ a b 0= !jL a b:=by
 unfold bJ jL;rw[List.not_any_eq_all_not,lZ];simp only[dm];constructor
 .intro h1 v hv;rw[<-Ey];grind
 .intro h1 v hv;have:=h1 v hv;rw[<-Ey]at this;rcases Se b v with e|e|e
  .rw[e];rfl
  .exfalso;obtain⟨s,hs,ho⟩:=S3 e;exact Sd ha h hv hs ho
  grind
def sw{l:List bE}{i:Nat}(h:i<l.length):aZ l i∈l:=by unfold aZ;grind
def Wf{l:List bE}{r:bE}(h:r∈l):∃i,i<l.length/\r=aZ l i:=by obtain⟨i,hi,e⟩:=iK h;exact⟨i,hi,by unfold aZ;grind⟩
def br(r:bE):Nat->Nat
 |0=>0
 |n+1=>if bV (nth r n) (nth r (br r n))then n else br r n
def fS(r:bE):Nat:=br r r.length
def dV(r:bE):bE:=r.drop (fS r)++r.take (fS r)
def y8(r:bE)(n:Nat)(h:0<n):br r n<n:=by
 induction n with
 |zero=>omega
 |succ n ih=>
  unfold br;split
  .omega
  .rcases oK n with rfl|h0
   .simp[br]
   omega
def vV(r:bE)(n i:Nat)(hi:i<n):leV (nth r (br r n)) (nth r i):=by
 induction n with
 |zero=>omega
 |succ n ih=>
  unfold br;split
  .rename_i h;have h:=(gS _ _).1 h;have h':leV (nth r n) (nth r (br r n)):=(vn _ _).elim id (by grind);by_cases e:i=n
   .subst e;exact pC _
   .exact ou h' (ih (by omega))
  .rename_i h;have h:=(qI _ _).1 (by simpa using h);grind
def Sk(r:bE)(n i:Nat)(hi:i<br r n):bV (nth r (br r n)) (nth r i)=true:=by
 induction n with
 |zero=>simp[br]at hi
 |succ n ih=>
  unfold br at hi|-;split
  .rename_i h;rw[if_pos h]at hi;rw[gS];have h1:=(gS _ _).1 h;intro h2;exact h1 (ou (vV r n i hi) h2)
  grind
def Ek{r:bE}(h:0<r.length):fS r<r.length:=y8 r _ h
def UF(r:bE):(dV r).Perm r:=by refine List.perm_append_comm.trans ?_;simp_all
def D1(r:bE):(dV r).length=r.length:=(UF r).length_eq
def Bg(s:Shape):List S:=(dL s).flatMap aR
def lP:List bE->bE->List bE
 |[],h=>[h]
 |q::l,h=>if bV (nth q 0) (nth h 0)then q::lP l h else h::q::l
def uL(l:List bE):List bE:=l.foldl lP []
def pW(s:Shape):Shape:=⟨dV s.outer,uL (s.holes.map dV)⟩
def VA(l:List bE)(h:bE):(lP l h).Perm (h::l):=by
 induction l with
 |nil=>exact List.Perm.refl _
 |cons q l ih=>
  unfold lP;grind
def SU(l acc:List bE):(l.foldl lP acc).Perm (acc++l):=by
 induction l generalizing acc with
 |nil=>simp
 |cons q l ih=>
  refine(ih _).trans ?_;refine((VA acc q).append_right l).trans ?_;grind
def Tb(l:List bE):(uL l).Perm l:=by unfold uL;have:=SU l [];grind
def mB(p:Pt):List bE->Int->Int
 |[],w=>w
 |h::l,w=>if dQ h p=2 then 0 else if dQ h p=1 then 1 else mB p l w
def jm(s:Shape)(p:Pt):Int:=if !(dZ s)then 0 else mB p s.holes (dQ s.outer p)
def Hn{v:List V}{i:Nat}(h:i<v.length):nth v i∈v:=Hx.2 ⟨i,h,rfl⟩
abbrev Tab:=Nat->Nat->Bool
def nj(r:bE):bE:=if dF r then dV r else []
end Geo
inductive PV where
 |int (k:IntKind) (n:Int)
 |bool (b:Bool)
 |str (s:ByteArray)
 |agg (l:List PV)
 |tup (l:List PV)
 |sl (n:Nat) (cells:List PV)
 |pro (cells:List PV) (off:Nat)
 |fn (f:Fn) (first caps:List PV)
 |junk
deriving Inhabited
abbrev bG:=Nat->Nat->Value->Prop
def fF(vs:List Value):Prop:=∀u∈vs,u.oneCell'=true
mutual
def a8(C:bG):PV->Value->Prop
 | .int k n,v=>v= .int k n
 | .bool b,v=>v= .bool b
 | .str s,v=>v= .string s
 | .agg l,v=>∃vs:List Value,v= .agg vs.toArray/\bK C l vs/\fF vs
 | .tup l,v=>∃vs:List Value,v= .tuple vs.toArray/\bK C l vs
 | .sl n cs,v=>∃a c,v= .slice a n c/\n<=c/\(a=none->c=0/\cs=[])/\∀ad,a=some ad->(0<n->ad.spot=none)/\cj C cs ad.block ad.off
 | .pro cs off,v=>∃b o,v= .pointer (some ⟨b,o+off,none⟩)/\cj C cs b o
 | .fn f l1 l2,v=>∃vs1 vs2:List Value,v= .func f vs1.toArray vs2.toArray/\bK C l1 vs1/\bK C l2 vs2
 | .junk,_=>True
def bK(C:bG):List PV->List Value->Prop
 |[],vs=>vs=[]
 |x::l,vs=>∃v r,vs=v::r/\a8 C x v/\bK C l r
def cj(C:bG):List PV->Nat->Nat->Prop
 |[],_,_=>True
 |x::l,b,o=>(∃v,C b o v/\v.oneCell'=true/\a8 C x v)/\cj C l b (o+1)
end
section
variable {C C':bG}
mutual
theorem a8.mono(h:∀b o v,C b o v->C' b o v):∀(x:PV) (v:Value),a8 C x v->a8 C' x v
 | .int ..,v,hx=>by exact hx
 | .bool ..,v,hx=>by exact hx
 | .str ..,v,hx=>by exact hx
 | .agg l,v,hx=>by obtain⟨vs,h1,h2,h3⟩:=hx;exact⟨vs,h1,bK.mono h l vs h2,h3⟩
 | .tup l,v,hx=>by obtain⟨vs,h1,h2⟩:=hx;exact⟨vs,h1,bK.mono h l vs h2⟩
 | .sl n cs,v,hx=>by
   obtain⟨a,c,h1,h2,h3,h4⟩:=hx;exact⟨a,c,h1,h2,h3,λad e=>⟨(h4 ad e).1,cj.mono h cs _ _ (h4 ad e).2⟩⟩
 | .pro cs off,v,hx=>by obtain⟨b,o,h1,h2⟩:=hx;exact⟨b,o,h1,cj.mono h cs _ _ h2⟩
 | .fn f l1 l2,v,hx=>by obtain⟨a,b,h1,h2,h3⟩:=hx;exact⟨a,b,h1,bK.mono h l1 a h2,bK.mono h l2 b h3⟩
 | .junk,v,hx=>by trivial
theorem bK.mono(h:∀b o v,C b o v->C' b o v):∀(l:List PV) (vs:List Value),bK C l vs->bK C' l vs
 |[],vs,hx=>by exact hx
 |x::l,vs,hx=>by obtain⟨v,r,h1,h2,h3⟩:=hx;exact⟨v,r,h1,a8.mono h x v h2,bK.mono h l r h3⟩
theorem cj.mono(h:∀b o v,C b o v->C' b o v):∀(l:List PV) (b o:Nat),cj C l b o->cj C' l b o
 |[],b,o,hx=>by trivial
 |x::l,b,o,hx=>by
  obtain⟨⟨v,h1,h2,h3⟩,h4⟩:=hx;exact⟨⟨v,h _ _ _ h1,h2,a8.mono h x v h3⟩,cj.mono h l b (o+1) h4⟩
end
def bK.length:∀(l:List PV) (vs:List Value),bK C l vs->vs.length=l.length
 |[],vs,h=>by subst h;rfl
 |x::l,vs,h=>by obtain⟨v,r,rfl,_,h3⟩:=h;simp[bK.length l r h3]
def bK.get:∀(l:List PV) (vs:List Value),bK C l vs->∀(i:Nat) x,l[i]? =some x->∃v,vs[i]? =some v/\a8 C x v
 |[],vs,h,i,x,hi=>by simp at hi
 |y::l,vs,h,0,x,hi=>by unfold bK at h;grind
 |y::l,vs,h,i+1,x,hi=>by
  obtain⟨v,r,rfl,h2,h3⟩:=h;exact bK.get l r h3 i x (by grind)
def bK.of:∀(l:List PV) (vs:List Value),vs.length=l.length->(∀(i:Nat) x,l[i]? =some x->∃v,vs[i]? =some v/\a8 C x v)->bK C l vs
 |[],vs,hl,h=>by unfold bK;grind
 |y::l,[],hl,h=>by simp at hl
 |y::l,v::r,hl,h=>by
  obtain⟨v',h1,h2⟩:=h 0 y rfl;simp at h1;subst h1;exact⟨v,r,rfl,h2,bK.of l r (by grind) (λi x hi=>h (i+1) x (by grind))⟩
def cj.get:∀(l:List PV) (b o:Nat),cj C l b o->∀(i:Nat) x,l[i]? =some x->∃v,C b (o+i) v/\v.oneCell'=true/\a8 C x v
 |[],b,o,h,i,x,hi=>by simp at hi
 |y::l,b,o,h,0,x,hi=>by unfold cj at h;grind
 |y::l,b,o,h,i+1,x,hi=>by
  have:=cj.get l b (o+1) h.2 i x (by grind);grind
def cj.of:∀(l:List PV) (b o:Nat),(∀(i:Nat) x,l[i]? =some x->∃v,C b (o+i) v/\v.oneCell'=true/\a8 C x v)->cj C l b o
 |[],b,o,h=>by trivial
 |y::l,b,o,h=>by
  refine⟨h 0 y rfl,cj.of l b (o+1) (λi x hi=> ?_)⟩;have:=h (i+1) x (by grind);grind
def cj.drop{l:List PV}{b o:Nat}(h:cj C l b o)(k:Nat):cj C (l.drop k) b (o+k):=
 cj.of _ _ _ λi x hi=>by rw[ru]at hi;have:=cj.get l b o h (k+i) x hi;grind
def cj.take{l:List PV}{b o:Nat}(h:cj C l b o)(k:Nat):cj C (l.take k) b o:=
 cj.of _ _ _ λi x hi=>by
  rw[oL]at hi;split at hi
  .exact cj.get l b o h i x hi
  .cases hi
end
inductive AV where
 |any
 |undef
 |nil
 |p (x:PV)
 |ptr (s off:Nat)
 |own (s o n:Nat)
 |agg (l:List AV)
 |tup (l:List AV)
 |fn (f:Fn) (first caps:List AV)
 |mp (s:Nat)
deriving Inhabited
abbrev Ren:=Nat->Option (Option Nat×Nat)
mutual
def aU(ρ:Ren)(C:bG):AV->Value->Prop
 | .any,_=>True
 | .undef,v=>v=Go.undef
 | .nil,v=>v= .slice none 0 0
 | .p x,v=>a8 C x v
 | .ptr s off,v=>∃b c,ρ s=some (some b,c)/\v= .pointer (some ⟨b,off,none⟩)
 | .own s o n,v=>∃q c,ρ s=some (q,c)/\((q=none/\v= .slice none 0 0/\n=0/\o=0)\/∃b o' c',q=some b/\v= .slice (some ⟨b,o',none⟩) n c'/\n<=c'/\(n≠0->o'=o)/\(o=0->o'=0/\c'=c))
 | .agg l,v=>∃vs:List Value,v= .agg vs.toArray/\ao ρ C l vs/\fF vs
 | .tup l,v=>∃vs:List Value,v= .tuple vs.toArray/\ao ρ C l vs
 | .fn f l1 l2,v=>∃vs1 vs2:List Value,v= .func f vs1.toArray vs2.toArray/\ao ρ C l1 vs1/\ao ρ C l2 vs2
 | .mp s,v=>∃c,ρ s=some (none,c)/\v= .map (some c)
def ao(ρ:Ren)(C:bG):List AV->List Value->Prop
 |[],vs=>vs=[]
 |x::l,vs=>∃v r,vs=v::r/\aU ρ C x v/\ao ρ C l r
end
section
variable {C C':bG} {ρ ρ':Ren}
mutual
theorem aU.mono(hr:∀s q,ρ s=some q->ρ' s=some q)(h:∀b o v,C b o v->C' b o v):∀(x:AV) (v:Value),aU ρ C x v->aU ρ' C' x v
 | .any,v,hx=>by trivial
 | .undef,v,hx=>by exact hx
 | .nil,v,hx=>by exact hx
 | .p x,v,hx=>by exact a8.mono h x v hx
 | .ptr ..,v,hx=>by unfold aU at*;grind
 | .own ..,v,hx=>by unfold aU at*;grind
 | .agg l,v,hx=>by obtain⟨vs,h1,h2,h3⟩:=hx;exact⟨vs,h1,ao.mono hr h l vs h2,h3⟩
 | .tup l,v,hx=>by obtain⟨vs,h1,h2⟩:=hx;exact⟨vs,h1,ao.mono hr h l vs h2⟩
 | .fn f l1 l2,v,hx=>by obtain⟨a,b,h1,h2,h3⟩:=hx;exact⟨a,b,h1,ao.mono hr h l1 a h2,ao.mono hr h l2 b h3⟩
 | .mp s,v,hx=>by unfold aU at*;grind
theorem ao.mono(hr:∀s q,ρ s=some q->ρ' s=some q)(h:∀b o v,C b o v->C' b o v):∀(l:List AV) (vs:List Value),ao ρ C l vs->ao ρ' C' l vs
 |[],vs,hx=>by exact hx
 |x::l,vs,hx=>by obtain⟨v,r,h1,h2,h3⟩:=hx;exact⟨v,r,h1,aU.mono hr h x v h2,ao.mono hr h l r h3⟩
end
def ao.length:∀(l:List AV) (vs:List Value),ao ρ C l vs->vs.length=l.length
 |[],vs,h=>by subst h;rfl
 |x::l,vs,h=>by obtain⟨v,r,rfl,_,h3⟩:=h;simp[ao.length l r h3]
def ao.get:∀(l:List AV) (vs:List Value),ao ρ C l vs->∀(i:Nat) x,l[i]? =some x->∃v,vs[i]? =some v/\aU ρ C x v
 |[],vs,h,i,x,hi=>by simp at hi
 |y::l,vs,h,0,x,hi=>by unfold ao at h;grind
 |y::l,vs,h,i+1,x,hi=>by
  obtain⟨v,r,rfl,h2,h3⟩:=h;exact ao.get l r h3 i x (by grind)
def ao.of:∀(l:List AV) (vs:List Value),vs.length=l.length->(∀(i:Nat) x,l[i]? =some x->∃v,vs[i]? =some v/\aU ρ C x v)->ao ρ C l vs
 |[],vs,hl,h=>by unfold ao;grind
 |y::l,[],hl,h=>by simp at hl
 |y::l,v::r,hl,h=>by
  obtain⟨v',h1,h2⟩:=h 0 y rfl;simp at h1;subst h1;exact⟨v,r,rfl,h2,ao.of l r (by grind) (λi x hi=>h (i+1) x (by grind))⟩
end
structure Ob where
 ty:TypeId
 esz:Nat
 cells:List AV
deriving Inhabited
def ak(C0:bG)(B:Nat)(w:World)(ρ:Ren)(g:Nat->Option Ob):bG:=λb o v=>w.cell? ⟨b,o,none⟩=some v/\(∀s c,ρ s=some (some b,c)->g s=none)/\(B<=b\/C0 b o v)
structure ObRep(ρ:Ren)(C:bG)(w:World)(b c:Nat)(ob:Ob)(arr:Array Value):Prop where
 blk:w.heap[b]? =some (.cells arr ob.ty (0,0))
 box:ob.esz=0->arr.size=ob.cells.length
 row:ob.esz≠0->arr.size=c*ob.esz/\ob.cells.length<=arr.size/\c<=maxLen
 cells:∀(i:Nat) x,ob.cells[i]? =some x->∃v,arr[i]? =some v/\v.oneCell'=true/\aU ρ C x v
def xe(B:Nat)(w:World)(c:Nat)(vs:List Value):Prop:=∃r since seen c0 es clock cur,B<=r/\w.heap[r]? =some (.mapIter (some c) since seen c0)/\w.heap[c]? =some (.map es clock)/\(∀x∈es.toList,x.born<since)/\(since<=c0/\since<=clock)/\(es.toList.map (·.born)).Nodup/\
 ((∃e∈es.toList,∃sn:Array Nat,seen=sn.push e.born/\c0=clock/\cur= .tuple #[e.key,e.val])\/cur=Go.undef)/\vs= .pointer (some ⟨r,0,none⟩)::cur:: .map (some c)::((es.filter λe=> !seen.contains e.born).toList.flatMap λe=>[e.key,e.val])
def tg(C0:bG)(B:Nat)(ρ:Ren)(C:bG)(w:World)(c:Nat)(o:Ob):Prop:=
 (o.ty=0/\(∀(i:Nat) x,o.cells[i]? =some x->∀v,C0 B i v->aU ρ C x v)/\∀i v,C0 B i v->i<o.cells.length)\/
 (o.ty=1/\B<=c/\∃es clock,w.heap[c]? =some (.map es clock)/\(es.toList.map (·.born)).Nodup/\(∀x∈es.toList,x.born<clock)/\ao ρ C o.cells (es.toList.flatMap λe=>[e.key,e.val]))\/
 (o.ty=2/\B<=c/\∃vs,xe B w c vs/\ao ρ C o.cells vs)
abbrev rV(w:World)(c:Nat):Prop:=∃ob,w.heap[c]? =some ob/\∀a t q,ob≠ .cells a t q
def mW(o:Ob)(c:Nat)(o':Ob)(c':Nat):Prop:=(o.ty≠0/\o'.ty≠0/\c=c')\/(o.ty=0/\o'.ty=0)
def mW.symm{o:Ob}{c:Nat}{o':Ob}{c':Nat}(h:mW o c o' c'):mW o' c' o c:=by
 rcases h with⟨h1,h2,h3⟩|⟨h1,h2⟩
 .exact .inl (by grind)
 .exact .inr ⟨h2,h1⟩
structure StR(C0:bG)(ρ:Ren)(g:Nat->Option Ob)(w:World)(B:Nat):Prop where
 ob:∀s o,g s=some o->∃q c,ρ s=some (q,c)/\((q=none/\((o.esz≠0/\o.cells=[]/\c=0)\/(o.esz=0/\tg C0 B ρ (ak C0 B w ρ g) w c o)))\/∃b arr,q=some b/\B<=b/\ObRep ρ (ak C0 B w ρ g) w b c o arr)
 inj:∀s s' o o' b c c',g s=some o->g s'=some o'->ρ s=some (some b,c)->ρ s'=some (some b,c')->s=s'
 mpi:∀s s' o o' c c',g s=some o->g s'=some o'->o.esz=0->o'.esz=0->ρ s=some (none,c)->ρ s'=some (none,c')->mW o c o' c'->s=s'
def ObRep.lt{ρ:Ren}{C:bG}{w:World}{b c:Nat}{ob:Ob}{arr:Array Value}(h:ObRep ρ C w b c ob arr):b<w.heap.size:=by
 rcases jc b w.heap.size with hlt|hge
 .exact hlt
 .have:=h.blk;grind
def ObRep.cell{ρ:Ren}{C:bG}{w:World}{b c:Nat}{ob:Ob}{arr:Array Value}(h:ObRep ρ C w b c ob arr)(i:Nat):w.cell? ⟨b,i,none⟩=arr[i]? :=cell_of_row w b i arr ob.ty (0,0) h.blk
def StR.at{C0:bG}{ρ:Ren}{g:Nat->Option Ob}{w:World}{B s b c:Nat}{o:Ob}(h:StR C0 ρ g w B)(hg:g s=some o)(hr:ρ s=some (some b,c)):B<=b/\∃arr,ObRep ρ (ak C0 B w ρ g) w b c o arr:=by obtain⟨q,c',h1,h2⟩:=h.ob s o hg;grind
structure GrD where
 n:Nat
 os:Array Obj
instance:Nonempty GrD:=⟨⟨0, #[]⟩⟩
def grD(w:World)(n:Nat)(os:Array Obj):World:={w with heap:=w.heap++os,drawn:=n}
def Sv{w w':World}(h:Below w.heap.size w w'):∃p:GrD,w'=grD w p.n p.os:=by
 refine⟨⟨w'.drawn,w'.heap.extract w.heap.size w'.heap.size⟩,?_⟩;obtain⟨h1,h2,h3,h4,h5⟩:=h;have hh:w'.heap=w.heap++w'.heap.extract w.heap.size w'.heap.size:=by
  apply Array.ext_getElem?;intro i;by_cases hi:i<w.heap.size
  .grind
  .grind
 unfold grD;cases w';grind
def Blk(w:World)(g:Nat)(t:TypeId)(cs:Array Value):Prop:=w.heap[g]? =some (.cells cs t (0,0))
section
variable {w w':World} {g:Nat} {t:TypeId} {cs:Array Value}
def Blk.lt(h:Blk w g t cs):g<w.heap.size:=by
 rcases jc g w.heap.size with hlt|hge
 .exact hlt
 .unfold Blk at h;grind
def Blk.cell(h:Blk w g t cs)(i:Nat):w.cell? ⟨g,i,none⟩=cs[i]? :=cell_of_row w g i cs t (0,0) h
def Blk.frozen(h:Blk w g t cs)(i:Nat):w.frozen? ⟨g,i,none⟩=false:=by unfold Blk at h;simp[World.frozen?,h]
def Blk.new(w:World)(t:TypeId)(cs:Array Value):Blk (w.alloc (.cells cs t)) w.heap.size t cs:=heap_alloc_new w _
def Blk.alloc(h:Blk w g t cs)(o:Obj):Blk (w.alloc o) g t cs:=(Below.heap_alloc w o g h.lt).trans h
def Blk.mP(h:Blk w g t cs)(i:Nat)(u:Value):Blk (w.setCell ⟨g,i,none⟩ u) g t (cs.setIfInBounds i u):=by unfold Blk at h|-;simp[World.setCell,yI,h]
def Blk.far(h:Blk w g t cs){p:Addr}(hp:g≠p.block)(u:Value):Blk (w.setCell p u) g t cs:=(Below.heap_setCell w p u g hp).trans h
def Blk.below{B:Nat}(h:Blk w g t cs)(hb:Below B w w')(hg:g<B):Blk w' g t cs:=(hb.block g hg).trans h
def Blk.ic(h:Blk w g t cs)(hb:Below w.heap.size w w'):Blk w' g t cs:=h.below hb h.lt
end
def UI{P:Program}{ops:Array Oper}{Q:Exit->Act->World->Prop}
  (hac:∀(i:Nat) (o:Oper),ops[i]? =some o->∀e∈o.after.toList,iS .any e=true->e.on<i)
  (Inv:(Nat->Bool)->Act->World->Prop)
  (hstep:∀(i:Nat) (o:Oper) (D:Nat->Bool) (a:Act) (w:World),ops[i]? =some o->Inv D a w->D i=false->(∀e∈o.after.toList,iS .any e=true->D e.on=true)->
    wpOp P ops Q i (λa' w'=>Inv (λj=>if j=i then true else D j) a' w') a w)
  (hend:∀(D:Nat->Bool) (a:Act) (w:World),Inv D a w->(∀i,i<ops.size->D i=true)->Q .normal a w):
  ∀(fuel:Nat) (L:Array Bool) (a:Act) (w:World),L.size=ops.size->L.toList.count false<=fuel->Inv (λj=>L.getD j false) a w->wpAny P .any ops Q fuel L a w:=by
 have key:∀(L:Array Bool),L.size=ops.size->yJ .any ops L=[]->∀i,i<ops.size->L.getD i false=true:=by
  intro L hL hr i;induction i using Nat.strongRecOn with
  |ind i ih=>
   intro hi;rcases Re (L.getD i false)with h|h
   .exact h
   .have hmem:i∈yJ .any ops L:=by
     unfold yJ;rw[yG];refine⟨dY.2 hi,?_⟩;have h1:L.getD i true=false:=by rw[fW,ry (by omega)]at h|-;exact h
     obtain⟨o,ho⟩:∃o,ops[i]? =some o:=⟨_,ry hi⟩;rw[h1,ho];simp only[Bool.not_false,jH,dn,mZ];rw[Array.all_eq_true'];intro e he;rcases Re (iS .any e)with hb|hb
     .grind
     .rw[hb];rfl
    grind
 intro fuel;induction fuel with
 |zero=>
  intro L a w hL hc hI;have hall:∀i,i<ops.size->L.getD i false=true:=by
   intro i hi;rcases Re (L.getD i false)with h|h
   .exact h
   .exfalso;have h0:L.toList.count false=0:=by omega
    rw[List.count_eq_zero]at h0;rw[fW,ry (by omega)]at h;grind
  refine⟨?_,by grind⟩;unfold yJ;simp_all
 |succ fuel ih=>
  intro L a w hL hc hI;refine⟨by grind,?_⟩;intro i hi;unfold yJ at hi;rw[yG]at hi;obtain⟨hi1,hi2⟩:=hi;have hlt:=dY.1 hi1;obtain⟨o,ho⟩:∃o,ops[i]? =some o:=by grind
  rw[ho]at hi2;simp only[dn,mZ,cD,Rg]at hi2;obtain⟨hf,hall⟩:=hi2;have hLi:L[i]? =some false:=by rw[fW,ry (by omega)]at hf;rw[ry (by omega)];simpa using hf
  have hD:L.getD i false=false:=by rw[fW,hLi];rfl
  have hpre:∀e∈o.after.toList,iS .any e=true->L.getD e.on false=true:=by intro e he hb;rw[Array.all_eq_true']at hall;have:=hall e (Array.mem_toList_iff.1 he);rw[hb]at this;simpa using this
  refine wpOp_mono ?_ (hstep i o _ a w ho hI hD hpre);intro a' w' hI';refine ih (L.setIfInBounds i true) a' w' (by grind) ?_ ?_
  .grind
  .have e:(λj=>(L.setIfInBounds i true).getD j false)=(λj=>if j=i then true else L.getD j false):=by
    funext j
    rw[fW,fW,p9];by_cases h:i=j
    .grind
    .grind
   grind
def SX{P:Program}{ops:Array Oper}{Q:Exit->Act->World->Prop}{a0:Act}{w0:World}
  (hac:∀(i:Nat) (o:Oper),ops[i]? =some o->∀e∈o.after.toList,iS .any e=true->e.on<i)
  (Inv:(Nat->Bool)->Act->World->Prop) (h0:Inv (λ_=>false) a0 w0.drew)
  (hstep:∀(i:Nat) (o:Oper) (D:Nat->Bool) (a:Act) (w:World),ops[i]? =some o->Inv D a w->D i=false->(∀e∈o.after.toList,iS .any e=true->D e.on=true)->
    wpOp P ops Q i (λa' w'=>Inv (λj=>if j=i then true else D j) a' w') a w)
  (hend:∀(D:Nat->Bool) (a:Act) (w:World),Inv D a w->(∀i,i<ops.size->D i=true)->Q .normal a w):
  wpAny P .any ops Q ops.size (kY ops.size false) a0 w0.drew:=by
 refine(UI hac Inv hstep hend _ _ _ _ (by simp) ?_ ?_)
 .simp
 .have e:(λj=>(kY ops.size false).getD j false)=(λ_=>false):=by
   funext j
   rw[fW,yK];split<;>rfl
  grind
def bF(V:Nat->Value):Operand->Value
 | .tmp t=>V t
 | .const v=>v
 | .global g=> .pointer (some ⟨g,0,none⟩)
 | .func f=> .func (.func f) #[] #[]
def cX(P:Program)(o:Oper)(V:Nat->Value)(w:World)(K:Value->World->Prop):Prop:=
 match(execOp (bF V) o).run P w with
 | .ok (.value v) w'=>K v w'
 | .ok .skip w'=>K undef w'
 | .ok (.enter f args) w'=>Calls P f args w' λe w''=>∃v,e= .returned v/\K v w''
 |_=>False
def jq(a0:Act)(dsts:List Nat)(V:Nat->Value):Act:=dsts.foldl (λa s=>a.put (some s) (V s)) a0
def yi(V:Nat->Value):∀(dsts:List Nat) (a0:Act),(∀s∈dsts,s<a0.tmps.size)->
  (jq a0 dsts V).defers=a0.defers/\(jq a0 dsts V).tmps.size=a0.tmps.size/\∀s,s<a0.tmps.size->(jq a0 dsts V).tmps.getD s undef=if s∈dsts then V s else a0.tmps.getD s undef
 |[],a0,_=>⟨rfl,rfl,λs _=>by simp[jq]⟩
 |d::dsts,a0,h=>by
  have hs:(a0.put (some d) (V d)).tmps.size=a0.tmps.size:=by simp[kZ]
  obtain⟨h1,h2,h3⟩:=yi V dsts (a0.put (some d) (V d)) (by grind);refine⟨h1,h2.trans hs,?_⟩;intro s hlt;have:=h3 s (by omega);show(jq (a0.put (some d) (V d)) dsts V).tmps.getD s undef=_;rw[this];by_cases hm:s∈dsts
  .grind
  .by_cases e:s=d
   .subst e;simp[kZ,hlt]
   .simp only[kZ,fW,p9];grind
def Act.eval_evalV(a:Act):a.eval=bF (λs=>a.tmps.getD s undef):=by
 funext x
 cases x<;>rfl
def gdV(ops:Array Oper)(V:Nat->Value)(j:Nat):Option Bool:=
 match(ops[j]?).bind (·.dst)with
 |some d=>(match V d with| .bool b=>some b|_=>none)
 |none=>none
def D3(ops:Array Oper)(t:Array Value):yielded ops t=gdV ops (λs=>t.getD s undef):=by
 funext j
 unfold yielded gdV;cases h:(ops[j]?).bind (·.dst)with
 |none=>rfl
 |some d=>
  simp only[kc,fW];cases ht:t[d]? with
  |none=>rfl
  |some v=>grind
def Sm{P:Program}{ops:Array Oper}{Q:Exit->Act->World->Prop}{a0:Act}{w0:World}
  (dsts:List Nat)
  (hok:((bO ops.size).all λi=>((ops[i]?).map λo=>(o.after.toList.all λe=> !iS .any e||decide (e.on<i))&&(match o.dst with|some d=>dsts.contains d|none=>true)).getD true)=true)
  (hds:∀s∈dsts,s<a0.tmps.size)
  (F:(Nat->Bool)->(Nat->Value)->World->Prop) (h0:F (λ_=>false) (λs=>a0.tmps.getD s undef) w0.drew)
  (hstep:∀(i:Nat) (o:Oper) (D:Nat->Bool) (V:Nat->Value) (w:World),ops[i]? =some o->F D V w->D i=false->(∀e∈o.after.toList,iS .any e=true->D e.on=true)->
    (∀s,s∉dsts->V s=a0.tmps.getD s undef)->
    if gv o (gdV ops V)=true then
     cX P o V w (λv w'=>F (λj=>if j=i then true else D j) (match o.dst with|some d=>λs=>if s=d then v else V s|none=>V) w')
    else F (λj=>if j=i then true else D j) (match o.dst with|some d=>λs=>if s=d then undef else V s|none=>V) w)
  (hend:∀(D:Nat->Bool) (V:Nat->Value) (w:World),F D V w->(∀i,i<ops.size->D i=true)->Q .normal (jq a0 dsts V) w):
  wpAny P .any ops Q ops.size (kY ops.size false) a0 w0.drew:=by
 have hops:∀(i:Nat) (o:Oper),ops[i]? =some o->(∀e∈o.after.toList,iS .any e=true->e.on<i)/\(∀d,o.dst=some d->d∈dsts):=by
  intro i o ho;have hi:i<ops.size:=by grind
  rw[dm]at hok;have:=hok i (dY.2 hi);rw[ho]at this;simp only[dn,mZ,cD]at this;obtain⟨g2,g3⟩:=this;refine⟨?_,?_⟩
  .grind
  .grind
 refine SX (by grind) (λD a w=>a.defers=a0.defers/\a.tmps.size=a0.tmps.size/\(∀s,s∉dsts->a.tmps.getD s undef=a0.tmps.getD s undef)/\F D (λs=>a.tmps.getD s undef) w) (by grind) ?_ ?_
 .intro i o D a w ho ⟨i1,i2,i3,i4⟩ hD hpre;obtain⟨_,hdst⟩:=hops i o ho;have hrun:=hstep i o D (λs=>a.tmps.getD s undef) w ho i4 hD hpre i3;have hput:∀(v:Value) (w':World),F (λj=>if j=i then true else D j) (match o.dst with|some d=>λs=>if s=d then v else a.tmps.getD s undef|none=>λs=>a.tmps.getD s undef) w'->
    (a.put o.dst v).defers=a0.defers/\(a.put o.dst v).tmps.size=a0.tmps.size/\(∀s,s∉dsts->(a.put o.dst v).tmps.getD s undef=a0.tmps.getD s undef)/\F (λj=>if j=i then true else D j) (λs=>(a.put o.dst v).tmps.getD s undef) w':=by
   intro v w' hF;cases hd:o.dst with
   |none=>rw[hd]at hF;exact⟨i1,i2,i3,hF⟩
   |some d=>
    have hdm:=hdst d hd;have hget:∀s,(a.put (some d) v).tmps.getD s undef=if s=d then v else a.tmps.getD s undef:=by
     intro s;simp only[kZ,fW,p9];by_cases e:d=s
     .grind
     .grind
    refine⟨i1,by simpa[kZ]using i2,?_,?_⟩
    .intro s hs;rw[hget,if_neg (by grind)];exact i3 s hs
    .have e:(λs=>(a.put (some d) v).tmps.getD s undef)=(λs=>if s=d then v else a.tmps.getD s undef):=funext hget;grind
  unfold wpOp;rw[ho];simp only[];rw[D3];by_cases hw:gv o (gdV ops λs=>a.tmps.getD s undef)=true
  .rw[if_pos hw]at hrun|-;refine .inl ?_;unfold Oper.wp;rw[Act.eval_evalV];unfold cX at hrun;cases hr:(execOp (bF λs=>a.tmps.getD s undef) o).run P w with
   |halt x w'=>grind
   |ok n w'=>
    rw[hr]at hrun;cases n<;>simp only[]at hrun<;>first|exact hrun.elim|skip
    .exact hput _ _ hrun
    .exact hput _ _ hrun
    .rename_i f args;refine hrun.mono ?_;rintro e w'' ⟨v,rfl,hK⟩;exact hput _ _ hK
  .rw[if_neg hw]at hrun|-;exact hput _ _ hrun
 .intro D a w ⟨i1,i2,i3,i4⟩ hall;obtain⟨p1,p2,p3⟩:=yi (λs=>a.tmps.getD s undef) dsts a0 hds;have e:jq a0 dsts (λs=>a.tmps.getD s undef)=a:=by
   obtain⟨t,df⟩:=a;have ht:(jq a0 dsts (λs=>t.getD s undef)).tmps=t:=by
    apply Array.ext
    .rw[p2];exact i2.symm
    .intro s h1 h2;have h3:=p3 s (by grind);rw[fW,ry h1,mZ]at h3;rw[h3];by_cases hm:s∈dsts
     .rw[if_pos hm];simp[fW,h2]
     .rw[if_neg hm,<-i3 s hm];simp[fW,h2]
   have hdf:(jq a0 dsts (λs=>t.getD s undef)).defers=df:=p1.trans i1.symm;show jq a0 dsts (λs=>t.getD s undef)={tmps:=t,defers:=df};cases hp:jq a0 dsts (λs=>t.getD s undef)with
   |mk t' df'=>
    grind
  grind
def S1{P:Program}{id:Nat}{ops:Array Oper}{Q:Exit->Act->World->Prop}{a0:Act}{w0:World}(hm:P.follows .mixedOrders=true)
  (dsts:List Nat)
  (hok:((bO ops.size).all λi=>((ops[i]?).map λo=>(o.after.toList.all λe=> !iS .any e||decide (e.on<i))&&(match o.dst with|some d=>dsts.contains d|none=>true)).getD true)=true)
  (hds:∀s∈dsts,s<a0.tmps.size)
  (F:(Nat->Bool)->(Nat->Value)->World->Prop) (h0:F (λ_=>false) (λs=>a0.tmps.getD s undef) w0.drew)
  (hstep:∀(i:Nat) (o:Oper) (D:Nat->Bool) (V:Nat->Value) (w:World),ops[i]? =some o->F D V w->D i=false->(∀e∈o.after.toList,iS .any e=true->D e.on=true)->
    (∀s,s∉dsts->V s=a0.tmps.getD s undef)->
    if gv o (gdV ops V)=true then
     cX P o V w (λv w'=>F (λj=>if j=i then true else D j) (match o.dst with|some d=>λs=>if s=d then v else V s|none=>V) w')
    else F (λj=>if j=i then true else D j) (match o.dst with|some d=>λs=>if s=d then undef else V s|none=>V) w)
  (hend:∀(D:Nat->Bool) (V:Nat->Value) (w:World),F D V w->(∀i,i<ops.size->D i=true)->Q .normal (jq a0 dsts V) w):
  (DC id ops true).wp P Q a0 w0:=
 wp_region_any hm (Sm dsts hok hds F h0 hstep hend)
def aX(g:Nat->Option Ob)(W:List (Nat×Option Ob)):Nat->Option Ob:=λs=>match W.lookup s with|some x=>x|none=>g s
@[simp] def zh (g : Nat → Option Ob) : aX g [] = g := rfl
def ib:Value->AV
 | .int k n=> .p (.int k n)
 | .bool b=> .p (.bool b)
 | .string s=> .p (.str s)
 | .slice none 0 0=> .nil
 |_=> .any
def Et{ρ:Ren}{C:bG}(v:Value):aU ρ C (ib v) v:=by unfold ib;split<;>(unfold aU;try unfold a8)<;>first|rfl|trivial
def qJ{ρ:Ren}{C:bG}:∀(vs:List Value),ao ρ C (vs.map ib) vs
 |[] =>by rfl
 |v::vs=>by exact⟨v,vs,rfl,Et v,qJ vs⟩
def bJ:List AV->Option (List PV)
 |[] =>some []
 | .p x::l=>(bJ l).map (x:: ·)
 |_::_=>none
def d9(l:List AV):AV:=match bJ l with|some q=> .p (.agg q)|none=> .agg l
def nQ{ρ:Ren}{C:bG}:∀{l:List AV} {q:List PV} {vs:List Value},bJ l=some q->ao ρ C l vs->bK C q vs
 |[],q,vs,h,hr=>by simp[bJ]at h;subst h;exact hr
 |x::l,q,vs,h,hr=>by
  unfold bJ at h;split at h
  .grind
  .rename_i y l' e;cases e;simp only[iT]at h;obtain⟨r,h1,rfl⟩:=h;obtain⟨v,vs',rfl,h2,h3⟩:=hr;exact⟨v,vs',rfl,h2,nQ h1 h3⟩
  .cases h
def vk{ρ:Ren}{C:bG}{l:List AV}{vs:List Value}(h:ao ρ C l vs)(h1:fF vs):aU ρ C (d9 l) (.agg vs.toArray):=by
 unfold d9;split
 .rename_i q hq;exact⟨vs,rfl,nQ hq h,h1⟩
 .unfold aU;grind
def bK.toA{ρ:Ren}{C:bG}:∀{l:List PV} {vs:List Value},bK C l vs->ao ρ C (l.map .p) vs
 |[],vs,h=>by exact h
 |x::l,vs,h=>by
  obtain⟨v,r,rfl,h2,h3⟩:=h;exact⟨v,r,rfl,by exact h2,bK.toA h3⟩
def pJ:Value->AV
 | .agg cs=>if cs.toList.all (·.oneCell')=true then d9 (cs.toList.map ib)else .any
 | .tuple vs=>if vs.toList=[]then .undef else .any
 |v=>ib v
def TE{ρ:Ren}{C:bG}(v:Value):aU ρ C (pJ v) v:=by
 unfold pJ;split
 .split
  .rename_i cs h;have:=vk (qJ (ρ:=ρ) (C:=C) cs.toList) (λu hu=>by grind);omega
  .trivial
 .split
  .unfold aU Go.undef;simp_all
  .trivial
 .exact Et v
def dC(F:List AV):Operand->AV
 | .tmp t=>F.getD t .any
 | .const v=>pJ v
 | .func f=> .p (.fn (.func f) [] [])
 | .global _=> .any
def aj(P:Program)(t:TypeId):Nat:=((P.info? t).map (·.size)).getD 0
def fu(P:Program)(t:TypeId):Bool:=match P.underlying t with|some (.struct _)|some (.array _ _)=>true|_=>false
def tok(P:Program)(t:TypeId):Bool:=(P.info? t).isSome&&(P.underlying t).isSome
def mI(P:Program)(t:TypeId):Option (List AV):=(P.info? t).bind λi=>i.zero.map λz=>z.cells.toList.map ib
def lJ(P:Program)(t:TypeId):Bool:=((P.info? t).bind λi=>i.zero.map λz=>z.cells.toList.all (·.oneCell')&&z.cells.size==i.size).getD false
def bu(P:Program)(t:TypeId):Option TypeId:=match P.underlying t with|some (.slice e)=>some e|_=>none
def n9(P:Program)(t:TypeId):Option (Nat×TypeId):=match P.underlying t with|some (.array n e)=>some (n,e)|_=>none
def Ca(P:Program)(t:TypeId):Option IntKind:=match P.underlying t with|some (.int k)=>some k|_=>none
def mU(P:Program)(t:TypeId)(f:Nat):Option (Nat×TypeId):=match P.underlying t with
 |some (.struct fs)=>(fs[f]?).bind λx=>if aj P x.type=0 then none else some (x.offset,x.type)
 |_=>none
def uj:Nat->Nat->Nat
 |0,_=>0
 |f+1,s=>if s % 2=0 then uj f (s/2)+1 else 0
def cls(s:Nat):Nat:=uj s s
def sit(n i:Nat):Nat:=2^n*(2*i+1)
def Gz(i:Nat):∀(n f:Nat),n<f->uj f (sit n i)=n
 |0,f+1,_=>by unfold uj sit;grind
 |n+1,f+1,h=>by
  have e:sit (n+1) i=2*sit n i:=by unfold sit;rw[Nat.pow_succ,ur (2^n) 2,Nat.mul_assoc]
  unfold uj;rw[e,if_pos (by omega),Nat.mul_div_cancel_left _ (by decide),Gz i n f (by omega)]
def fT(n i:Nat):cls (sit n i)=n:=Gz i n _ (by unfold sit;have h1:n<2^n:=Nat.lt_two_pow_self;grind)
abbrev Res:=AV->List Nat->List (Nat×Option Ob)->Prop
def bB(P:Program)(o:Oper)(E:Operand->AV)(σ:Nat->Option Ob)(n:Nat)(r:AV)(R:List Nat)(W:List (Nat×Option Ob)):Prop:=
 ∀(C0:bG) (ρ:Ren) (g:Nat->Option Ob) (V:Nat->Value) (w:World) (B:Nat),StR C0 ρ g w B->B<=w.heap.size->(∀s∈R,g s=σ s)->(∀s,cls s=n->ρ s=none)->(∀s,cls s=n->g s=none)->
  (∀x∈o.op.operands.toList,aU ρ (ak C0 B w ρ g) (E x) (bF V x))->
  cX P o V w λv w'=>∃ρ':Ren,(∀s,cls s≠n->ρ' s=ρ s)/\(∀b o' x,ak C0 B w ρ g b o' x->ak C0 B w' ρ' (aX g W) b o' x)/\
   StR C0 ρ' (aX g W) w' B/\aU ρ' (ak C0 B w' ρ' (aX g W)) r v/\Below B w w'
def bB.pure{P:Program}{o:Oper}{E:Operand->AV}{σ:Nat->Option Ob}{n:Nat}{r:AV}{R:List Nat}
  (h:∀(C0:bG) (ρ:Ren) (g:Nat->Option Ob) (V:Nat->Value) (w:World) (B:Nat),StR C0 ρ g w B->(∀s∈R,g s=σ s)->(∀x∈o.op.operands.toList,aU ρ (ak C0 B w ρ g) (E x) (bF V x))->
    cX P o V w λv w'=>w'=w/\aU ρ (ak C0 B w ρ g) r v):bB P o E σ n r R [] :=by
 intro C0 ρ g V w B hs hB hR hn hg hE;have:=h C0 ρ g V w B hs hR hE;have hmono':∀(K K':Value->World->Prop),(∀v w,K v w->K' v w)->cX P o V w K->cX P o V w K':=by
  intro K K' hk h;unfold cX at h|-;split at h
  .grind
  .grind
  .exact h.mono (by grind)
  .exact h.elim
 refine hmono' _ _ ?_ this;rintro v w' ⟨rfl,hr⟩;exact⟨ρ,λ_ _=>rfl,λ_ _ _ h=>h,hs,hr,Below.refl _ _⟩
def CM(P:Program)(t:TypeId)(cs:List PV)(off:Nat)(K:PV->Prop):Prop:=
 tok P t=true/\if fu P t=true then∃l,(cs.drop off).take (aj P t)=l/\l.length=aj P t/\K (.agg l)else∃x,cs[off]? =some x/\K x
def nq(P:Program)(t:TypeId)(cs:List AV)(off:Nat)(K:AV->Prop):Prop:=
 tok P t=true/\if fu P t=true then∃l,(cs.drop off).take (aj P t)=l/\l.length=aj P t/\K (d9 l)else∃x,cs[off]? =some x/\K x
def Dn{P:Program}(w:World)(b o:Nat)(t:TypeId)(ht:tok P t=true)(vs:List Value)(v:Value)
  (h:if fu P t=true then vs.length=aj P t/\w.rangeAt b o vs/\v= .agg vs.toArray else w.cell? ⟨b,o,none⟩=some v):
  (yL t (.pointer (some ⟨b,o,none⟩))).run P w= .ok v w:=by
 unfold tok at ht;simp only[cD,la]at ht;obtain⟨⟨i,hi⟩,d,hd⟩:=ht;cases hg:fu P t with
 |true=>
  rw[hg,if_pos rfl]at h;obtain⟨h1,h2,rfl⟩:=h;refine run_loadAt_mid w b o t vs d h2 hd ?_ ?_
  .unfold fu at hg;grind
  .rw[h1];unfold aj;rw[hi];rfl
 |false=>
  rw[hg]at h;simp only[oI,if_false]at h;have:(isAgg t).run P w= .ok false w:=by unfold isAgg;rw[bo,run_underlying hd w];unfold fu at hg;rw[hd]at hg;cases d<;>simp_all
  simp[yL,yM,loadVar,this,h,load,Sem.run]
def U1{P:Program}{o:Oper}{E:Operand->AV}{σ:Nat->Option Ob}{n:Nat}{t:TypeId}{x:Operand}(ho:o.op= .load t x){cs:List PV}{off:Nat}(hx:E x= .p (.pro cs off)){K:PV->Prop}
  (h:CM P t cs off K):∃r,bB P o E σ n (.p r) [] []/\K r:=by
 obtain⟨ht,h⟩:=h;have key:∀(r:PV),(∀(C:bG) (w:World) (b oo:Nat),(∀b o v,C b o v->w.cell? ⟨b,o,none⟩=some v)->cj C cs b oo->∃v vs,(if fu P t=true then vs.length=aj P t/\w.rangeAt b (oo+off) vs/\v= .agg vs.toArray else w.cell? ⟨b,oo+off,none⟩=some v)/\a8 C r v)->
   bB P o E σ n (.p r) [] [] :=by
  intro r hr;refine bB.pure ?_;intro C0 ρ g V w B hs _ hE;have h1:=hE x (by rw[ho];simp[cG]);rw[hx]at h1;unfold aU a8 at h1;obtain⟨b,oo,he,hc⟩:=h1;obtain⟨v,vs,h2,h3⟩:=hr _ w b oo (λb o v hh=>hh.1) hc;have:=Dn (P:=P) w b (oo+off) t ht vs v h2;unfold cX execOp;simp only[ho,he,bo,this,b9,cK];exact⟨trivial,by exact h3⟩
 split at h
 .rename_i hg;obtain⟨l,hl,hlen,hK⟩:=h;refine⟨_,key _ ?_,hK⟩;intro C w b oo hC hc;have hc2:=(hc.drop off).take (aj P t);rw[hl]at hc2;have:∀m,∀l':List PV,l'.length=m->∀o',cj C l' b o'->∃vs:List Value,vs.length=m/\w.rangeAt b o' vs/\bK C l' vs/\fF vs:=by
   intro m;induction m with
   |zero=>intro l' h0 o' _;refine⟨[],rfl,(λj v hj=>by simp at hj),?_⟩;rw[ip.1 h0];exact⟨by rfl,λu hu=>by cases hu⟩
   |succ m ih=>
    intro l' h1 o' h2;cases l' with
    |nil=>simp at h1
    |cons y l'=>
     obtain⟨⟨v,h3,h6,h4⟩,h5⟩:=h2;obtain⟨vs,g1,g2,g3,g4⟩:=ih l' (by grind) (o'+1) h5;refine⟨v::vs,by simp[g1],?_,?_,λu hu=>by rcases bh.1 hu with rfl|hu;exact h6;exact g4 u hu⟩
     .intro j u hj;cases j with
      |zero=>grind
      |succ j=>have:=g2 j u (by grind);grind
     .unfold bK;grind
  obtain⟨vs,g1,g2,g3,g4⟩:=this _ l rfl _ hc2;refine⟨_,vs,?_,by exact⟨vs,rfl,g3,g4⟩⟩;grind
 .obtain⟨y,hy,hK⟩:=h;refine⟨y,key _ ?_,hK⟩;intro C w b oo hC hc;obtain⟨v,h1,_,h2⟩:=cj.get cs b oo hc off y hy;refine⟨v,[],?_,h2⟩;grind
def FK{P:Program}{t:TypeId}{ob:Ob}{off:Nat}{K:AV->Prop}(h:nq P t ob.cells off K):∃r,K r/\∀(ρ:Ren) (C:bG) (w:World) (b c:Nat) (arr:Array Value),ObRep ρ C w b c ob arr->
  ∃v,(yL t (.pointer (some ⟨b,off,none⟩))).run P w= .ok v w/\aU ρ C r v:=by
 obtain⟨ht,h⟩:=h;have key:∀(r:AV),(∀(ρ:Ren) (C:bG) (w:World) (b c:Nat) (arr:Array Value),ObRep ρ C w b c ob arr->∃v vs,(if fu P t=true then vs.length=aj P t/\w.rangeAt b off vs/\v= .agg vs.toArray else w.cell? ⟨b,off,none⟩=some v)/\aU ρ C r v)->
   ∀(ρ:Ren) (C:bG) (w:World) (b c:Nat) (arr:Array Value),ObRep ρ C w b c ob arr->∃v,(yL t (.pointer (some ⟨b,off,none⟩))).run P w= .ok v w/\aU ρ C r v:=by
  intro r hr ρ C w b c arr h3;obtain⟨v,vs,h4,h5⟩:=hr _ _ w b c arr h3;exact⟨v,Dn (P:=P) w b off t ht vs v h4,h5⟩
 split at h
 .rename_i hg;obtain⟨l,hl,hlen,hK⟩:=h;refine⟨_,hK,key _ ?_⟩;intro ρ C w b c arr hc;have:∀m,∀l':List AV,l'.length=m->∀o',(∀(i:Nat) x,l'[i]? =some x->∃v,arr[o'+i]? =some v/\v.oneCell'=true/\aU ρ C x v)->∃vs:List Value,vs.length=m/\w.rangeAt b o' vs/\ao ρ C l' vs/\fF vs:=by
   intro m;induction m with
   |zero=>intro l' h0 o' _;refine⟨[],rfl,(λj v hj=>by simp at hj),?_⟩;rw[ip.1 h0];exact⟨by rfl,λu hu=>by cases hu⟩
   |succ m ih=>
    intro l' h1 o' h2;cases l' with
    |nil=>simp at h1
    |cons y l'=>
     obtain⟨v,h3,h6,h4⟩:=h2 0 y rfl;obtain⟨vs,g1,g2,g3,g4⟩:=ih l' (by grind) (o'+1) (λi x hi=>by have:=h2 (i+1) x (by grind);grind)
     refine⟨v::vs,by simp[g1],?_,?_,λu hu=>by rcases bh.1 hu with rfl|hu;exact h6;exact g4 u hu⟩
     .intro j u hj;cases j with
      |zero=>simp at hj;subst hj;rw[hc.cell];exact h3
      |succ j=>have:=g2 j u (by grind);grind
     .unfold ao;grind
  obtain⟨vs,g1,g2,g3,g4⟩:=this _ l rfl off (λi x hi=>hc.cells _ x (by grind))
  refine⟨_,vs,?_,vk g3 g4⟩;grind
 .rename_i hg;obtain⟨y,hy,hK⟩:=h;refine⟨y,hK,key _ ?_⟩;intro ρ C w b c arr hc;obtain⟨v,h1,_,h2⟩:=hc.cells off y hy;refine⟨v,[],?_,h2⟩;rw[if_neg hg,hc.cell];exact h1
def U2{P:Program}{o:Oper}{E:Operand->AV}{σ:Nat->Option Ob}{n:Nat}{t:TypeId}{x:Operand}(ho:o.op= .load t x){s off:Nat}(hx:E x= .ptr s off){ob:Ob}(hob:σ s=some ob){K:AV->Prop}
  (h:nq P t ob.cells off K):∃r,bB P o E σ n r [s] []/\K r:=by
 obtain⟨r,hK,hr⟩:=FK h;refine⟨r,bB.pure ?_,hK⟩;intro C0 ρ g V w B hs hR hE;have h1:=hE x (by rw[ho];simp[cG]);rw[hx]at h1;obtain⟨b,c,he,hv⟩:=h1;obtain⟨_,arr,h3⟩:=hs.at ((hR s (by simp)).trans hob) he;obtain⟨v,h4,h5⟩:=hr _ _ w b c arr h3;unfold cX execOp;simp_all
section
variable {P:Program} {o:Oper} {E:Operand->AV} {σ:Nat->Option Ob} {n:Nat}
def bB.val{r:AV}(h:∀(ρ:Ren) (C:bG) (V:Nat->Value) (w:World),(∀x∈o.op.operands.toList,aU ρ C (E x) (bF V x))->
  ∃v,(execOp (bF V) o).run P w= .ok (.value v) w/\aU ρ C r v):bB P o E σ n r [] [] :=by
 refine bB.pure ?_;intro C0 ρ g V w B _ _ hE;obtain⟨v,h1,h2⟩:=h ρ _ V w hE;unfold cX;grind
def z7{x:Operand}(ho:o.op= .move x\/o.op= .assign x):bB P o E σ n (E x) [] [] :=by refine bB.val ?_;intro ρ C V w hE;have h1:=hE x (by rcases ho with ho|ho<;>rw[ho] <;>simp[cG]);refine⟨bF V x,?_,h1⟩;rcases ho with ho|ho<;>(unfold execOp;rw[ho];rfl)
def VL{x:Operand}(ho:o.op= .move x\/o.op= .assign x)(hx:E x= .nil):bB P o E σ n (.p (.sl 0 [])) [] [] :=by
 refine bB.val ?_;intro ρ C V w hE;have h1:=hE x (by rcases ho with ho|ho<;>rw[ho] <;>simp[cG]);rw[hx]at h1;refine⟨bF V x,?_,?_⟩
 .rcases ho with ho|ho<;>(unfold execOp;rw[ho];rfl)
 .rw[h1];unfold aU a8;grind
def rJ(c a b:AV)(K:AV->Prop):Prop:=match c with
 | .p (.bool t)=>K (if t=true then a else b)
 |_=>False
def WQ{c a b:Operand}(ho:o.op= .pick c a b){K:AV->Prop}(h:rJ (E c) (E a) (E b) K):∃r,bB P o E σ n r [] []/\K r:=by
 unfold rJ at h;have key:∀t:Bool,E c= .p (.bool t)->bB P o E σ n (if t=true then E a else E b) [] [] :=by
  intro t ht;refine bB.val ?_;intro ρ C V w hE;have h1:=hE c (by rw[ho];simp[cG]);have h2:=hE a (by rw[ho];simp[cG]);have h3:=hE b (by rw[ho];simp[cG]);rw[ht]at h1;unfold aU a8 at h1;refine⟨if t then bF V a else bF V b,?_,?_⟩
  .unfold execOp;rw[ho];simp[h1,asBool]
  .grind
 grind
def xt(x:AV):Bool:=match x with
 | .ptr .. =>true
 | .p (.pro ..)=>true
 | .fn (.func _) .. =>true
 | .p (.fn (.func _) ..)=>true
 |_=>false
def Hr{x:Operand}(ho:o.op= .nilCheck x)(h:xt (E x)=true):bB P o E σ n (E x) [] [] :=by
 refine bB.val ?_;intro ρ C V w hE;have h1:=hE x (by rw[ho];simp[cG]);refine⟨bF V x,?_,h1⟩;unfold execOp;rw[ho];unfold xt at h;split at h
 .rename_i e;rw[e]at h1;obtain⟨b,c,_,h1⟩:=h1;simp[h1]
 .rename_i e;rw[e]at h1;obtain⟨b,c,h1,_⟩:=h1;simp[h1]
 .rename_i e;rw[e]at h1;obtain⟨b,c,h1,_⟩:=h1;simp[h1]
 .rename_i e;rw[e]at h1;obtain⟨b,c,h1,_⟩:=h1;simp[h1]
 .cases h
def eu(l:List Int):List PV:=l.map (.int .i64)
def pZ(P:Program)(t:TypeId)(m:Nat):Prop:=∀(xs ys:List Int) (x y:Operand) (w:World),xs.length=m->ys.length=m->
 (do eqGuard .eql t x y (.agg (xs.map (c9 .i64)).toArray) (.agg (ys.map (c9 .i64)).toArray);binOp .eql t (.agg (xs.map (c9 .i64)).toArray) (.agg (ys.map (c9 .i64)).toArray):Sem Value).run P w= .ok (.bool (xs==ys)) w/\
 (do eqGuard .neq t x y (.agg (xs.map (c9 .i64)).toArray) (.agg (ys.map (c9 .i64)).toArray);binOp .neq t (.agg (xs.map (c9 .i64)).toArray) (.agg (ys.map (c9 .i64)).toArray):Sem Value).run P w= .ok (.bool (xs !=ys)) w
def Bu(P:Program)(t:TypeId):Bool:=match P.underlying t with|some .bool=>true|_=>false
def lD:List PV->Option (List Int)
 |[] =>some []
 | .int .i64 k::l=>(lD l).map (k:: ·)
 |_=>none
def y9{C:bG}:∀{l:List PV} {xs:List Int} {vs:List Value},lD l=some xs->bK C l vs->vs=xs.map (c9 .i64)
 |[],xs,vs,h,hr=>by simp[lD]at h;subst h;subst hr;rfl
 |x::l,xs,vs,h,hr=>by
  unfold lD at h;split at h
  .grind
  .rename_i k l' e;cases e;simp only[iT]at h;obtain⟨r,h1,rfl⟩:=h;obtain⟨v,vs',rfl,h2,h3⟩:=hr;rw[h2,y9 h1 h3];rfl
  .cases h
def Do{t:TypeId}(hu:P.underlying t=some .bool)(a b:Bool)(w:World):(ut t (.bool a) (.bool b)).run P w= .ok (a==b) w:=by unfold ut;rw[show DD=9999+1 from rfl];unfold jd;simp[run_underlying hu]
def q7(op:BinOp)(k:IntKind)(a b:Int)(K:AV->Prop):Prop:=match op with
 | .add=>K (.p (.int k (k.wrap (a+b))))
 | .sub=>K (.p (.int k (k.wrap (a-b))))
 | .mul=>K (.p (.int k (k.wrap (a*b))))
 | .quo=>b≠0/\K (.p (.int k (k.wrap (a.tdiv b))))
 | .rem=>b≠0/\K (.p (.int k (a.tmod b)))
 | .eql=>K (.p (.bool (a==b)))
 | .neq=>K (.p (.bool (a !=b)))
 | .lss=>K (.p (.bool (decide (a<b))))
 | .leq=>K (.p (.bool (decide (a<=b))))
 | .gtr=>K (.p (.bool (decide (b<a))))
 | .geq=>K (.p (.bool (decide (b<=a))))
 | .xor=>K (.p (.int k (k.wrap ((BitVec.ofInt k.bits a^^^BitVec.ofInt k.bits b).toNat:Int))))
 | .and=>K (.p (.int k (k.wrap ((BitVec.ofInt k.bits a&&&BitVec.ofInt k.bits b).toNat:Int))))
 | .or=>K (.p (.int k (k.wrap ((BitVec.ofInt k.bits a|||BitVec.ofInt k.bits b).toNat:Int))))
 | .shr=>0<=b/\K (.p (.int k (a.fdiv (2^min b.toNat k.bits))))
 | .shl=>0<=b/\K (.p (.int k (k.wrap (a*2^min b.toNat k.bits))))
 |_=>False
def rm(P:Program)(op:BinOp)(t:TypeId)(x y:AV)(K:AV->Prop):Prop:=match x,y with
 | .p (.int k a),.p (.int k' b)=>k'=k/\q7 op k a b K
 | .p (.bool a),.p (.bool b)=>Bu P t=true/\(match op with| .eql=>K (.p (.bool (a==b)))| .neq=>K (.p (.bool (a !=b)))|_=>False)
 | .p (.agg l),.p (.agg m)=>∃xs ys,lD l=some xs/\lD m=some ys/\xs.length=ys.length/\pZ P t xs.length/\(match op with| .eql=>K (.p (.bool (xs==ys)))| .neq=>K (.p (.bool (xs !=ys)))|_=>False)
 | .p (.sl _ cs),.nil=>(bu P t).isSome=true/\cs≠[]/\op= .eql/\K (.p (.bool false))
 |_,_=>False
def Yq{op:BinOp}{t t':TypeId}{x y:Operand}(ho:o.op= .binOp op t x y t'){K:AV->Prop}(h:rm P op t (E x) (E y) K):∃r,bB P o E σ n r [] []/\K r:=by
 have hx:x∈o.op.operands.toList:=by rw[ho];simp[cG]
 have hy:y∈o.op.operands.toList:=by rw[ho];simp[cG]
 unfold rm at h;split at h
 .rename_i k a k' b ea eb;obtain⟨rfl,h⟩:=h;have key:∀r:AV,(∀ρ C,∃v,(∀w:World,(do eqGuard op t x y (.int k' a) (.int k' b);binOp op t (.int k' a) (.int k' b):Sem Value).run P w= .ok v w)/\aU ρ C r v)->bB P o E σ n r [] [] :=by intro r hr;refine bB.val ?_;intro ρ C V w hE;have h1:=hE x hx;have h2:=hE y hy;rw[ea]at h1;rw[eb]at h2;unfold aU a8 at h1 h2;obtain⟨v,h3,h4⟩:=hr ρ C;refine⟨v,?_,h4⟩;unfold execOp;rw[ho];simp only[h1,h2,bo (x:=(do eqGuard op t x y (.int k' a) (.int k' b);binOp op t (.int k' a) (.int k' b):Sem Value)),h3,b9,cK]
  unfold q7 at h;split at h
  .exact⟨_,key _ λρ C=>⟨.int k' _,λw=>by simp[eqGuard,binOp,DE];rfl,by rfl⟩,h⟩
  .exact⟨_,key _ λρ C=>⟨.int k' _,λw=>by simp[eqGuard,binOp,DE];rfl,by rfl⟩,h⟩
  .exact⟨_,key _ λρ C=>⟨.int k' _,λw=>by simp[eqGuard,binOp,DE];rfl,by rfl⟩,h⟩
  .exact⟨_,key _ λρ C=>⟨.int k' _,λw=>by simp[eqGuard,binOp,Op.intDiv,h.1];rfl,by rfl⟩,h.2⟩
  .exact⟨_,key _ λρ C=>⟨.int k' _,λw=>by simp[eqGuard,binOp,Op.intDiv,h.1];rfl,by rfl⟩,h.2⟩
  .exact⟨_,key _ λρ C=>⟨.bool _,λw=>by simp[eqGuard,binOp,uu];rfl,by rfl⟩,h⟩
  .exact⟨_,key _ λρ C=>⟨.bool _,λw=>by simp[eqGuard,binOp,uu];rfl,by rfl⟩,h⟩
  .exact⟨_,key _ λρ C=>⟨.bool _,λw=>by simp[eqGuard,binOp,uu];rfl,by rfl⟩,h⟩
  .exact⟨_,key _ λρ C=>⟨.bool _,λw=>by simp[eqGuard,binOp,uu];rfl,by rfl⟩,h⟩
  .exact⟨_,key _ λρ C=>⟨.bool _,λw=>by simp[eqGuard,binOp,uu];rfl,by rfl⟩,h⟩
  .exact⟨_,key _ λρ C=>⟨.bool _,λw=>by simp[eqGuard,binOp,uu];rfl,by rfl⟩,h⟩
  .exact⟨_,key _ λρ C=>⟨.int k' _,λw=>by simp[eqGuard,binOp,Op.intBits];rfl,by rfl⟩,h⟩
  .exact⟨_,key _ λρ C=>⟨.int k' _,λw=>by simp[eqGuard,binOp,Op.intBits];rfl,by rfl⟩,h⟩
  .exact⟨_,key _ λρ C=>⟨.int k' _,λw=>by simp[eqGuard,binOp,Op.intBits];rfl,by rfl⟩,h⟩
  .exact⟨_,key _ λρ C=>⟨.int k' _,λw=>by simp only[eqGuard,binOp,Op.shift,bo,cK,b9,if_neg (show¬b<0 by omega)];rfl,by rfl⟩,h.2⟩
  .exact⟨_,key _ λρ C=>⟨.int k' _,λw=>by simp only[eqGuard,binOp,Op.shift,bo,cK,b9,if_neg (show¬b<0 by omega)];rfl,by rfl⟩,h.2⟩
  grind
 .rename_i a b ea eb;obtain⟨ht,h⟩:=h;unfold Bu at ht;have hu:P.underlying t=some .bool:=by
   split at ht
   .assumption
   .cases ht
  have key:∀r:AV,(∀ρ C,∃v,(∀w:World,(do eqGuard op t x y (.bool a) (.bool b);binOp op t (.bool a) (.bool b):Sem Value).run P w= .ok v w)/\aU ρ C r v)->bB P o E σ n r [] [] :=by intro r hr;refine bB.val ?_;intro ρ C V w hE;have h1:=hE x hx;have h2:=hE y hy;rw[ea]at h1;rw[eb]at h2;unfold aU a8 at h1 h2;obtain⟨v,h3,h4⟩:=hr ρ C;refine⟨v,?_,h4⟩;unfold execOp;rw[ho];simp only[h1,h2,bo (x:=(do eqGuard op t x y (.bool a) (.bool b);binOp op t (.bool a) (.bool b):Sem Value)),h3,b9,cK]
  split at h
  .exact⟨_,key _ λρ C=>⟨.bool _,λw=>by simp only[eqGuard,binOp,Do hu,bo,b9,cK];rfl,by rfl⟩,h⟩
  .exact⟨_,key _ λρ C=>⟨.bool _,λw=>by simp only[eqGuard,binOp,Do hu,bo,b9,cK];rfl,by rfl⟩,h⟩
  grind
 .rename_i l m ea eb;obtain⟨xs,ys,hxs,hys,hlen,hEq,h⟩:=h;have key:∀r:AV,(∀ρ C,∃v,(∀w:World,(do eqGuard op t x y (.agg (xs.map (c9 .i64)).toArray) (.agg (ys.map (c9 .i64)).toArray);binOp op t (.agg (xs.map (c9 .i64)).toArray) (.agg (ys.map (c9 .i64)).toArray):Sem Value).run P w= .ok v w)/\aU ρ C r v)->bB P o E σ n r [] [] :=by intro r hr;refine bB.val ?_;intro ρ C V w hE;have h1:=hE x hx;have h2:=hE y hy;rw[ea]at h1;rw[eb]at h2;unfold aU a8 at h1 h2;obtain⟨vs1,h1,r1,_⟩:=h1;obtain⟨vs2,h2,r2,_⟩:=h2;rw[y9 hxs r1]at h1;rw[y9 hys r2]at h2;obtain⟨v,h3,h4⟩:=hr ρ C;refine⟨v,?_,h4⟩;unfold execOp;rw[ho];simp only[h1,h2,bo (x:=(do eqGuard op t x y (.agg (xs.map (c9 .i64)).toArray) (.agg (ys.map (c9 .i64)).toArray);binOp op t (.agg (xs.map (c9 .i64)).toArray) (.agg (ys.map (c9 .i64)).toArray):Sem Value)),h3,b9,cK]
  split at h
  .exact⟨_,key _ λρ C=>⟨.bool _,λw=>(hEq xs ys x y w rfl hlen.symm).1,by rfl⟩,h⟩
  .exact⟨_,key _ λρ C=>⟨.bool _,λw=>(hEq xs ys x y w rfl hlen.symm).2,by rfl⟩,h⟩
  grind
 .rename_i m cs ea eb;obtain⟨ht,hcs,rfl,h⟩:=h;obtain⟨e,hu⟩:∃e,P.underlying t=some (.slice e):=by unfold bu at ht;grind
  refine⟨_,bB.val ?_,h⟩;intro ρ C V w hE;have h1:=hE x hx;have h2:=hE y hy;rw[ea]at h1;rw[eb]at h2;unfold aU at h1 h2;obtain⟨a,c,h1,_,h3,_⟩:=h1;obtain⟨ad,rfl⟩:∃ad,a=some ad:=by
   cases a with
   |none=>grind
   |some ad=>grind
  refine⟨.bool false,?_,by rfl⟩;unfold execOp;rw[ho];have h4:∀w:World,(jd (9999+1) t (.slice (some ad) m c) (.slice none 0 0)).run P w= .ok false w:=λw=>by generalize 9999=D;simp only[jd,bo,run_underlying hu,b9,cK]
  have h5:∀w:World,(binOp .eql t (.slice (some ad) m c) (.slice none 0 0)).run P w= .ok (.bool false) w:=λw=>by have:=h4 w;simp only[binOp,ut,DD,bo,this,b9];rfl
  simp only[h1,h2,eqGuard,bo,h5,b9,cK];try rfl
 grind
def unA(op:UnOp)(x:AV)(K:AV->Prop):Prop:=match op,x with
 | .not,.p (.bool b)=>K (.p (.bool !b))
 | .neg,.p (.int k a)=>K (.p (.int k (k.wrap (0-a))))
 |_,_=>False
def Yv{op:UnOp}{t:TypeId}{x:Operand}(ho:o.op= .unOp op t x){K:AV->Prop}(h:unA op (E x) K):∃r,bB P o E σ n r [] []/\K r:=by
 have hx:x∈o.op.operands.toList:=by rw[ho];simp[cG]
 unfold unA at h;split at h
 .rename_i b e;refine⟨_,bB.val ?_,h⟩;intro ρ C V w hE;have h1:=hE x hx;rw[e]at h1;unfold aU a8 at h1;exact⟨.bool !b,by unfold execOp;rw[ho];simp[h1,Op.unary],by rfl⟩
 .rename_i k a e;refine⟨_,bB.val ?_,h⟩;intro ρ C V w hE;have h1:=hE x hx;rw[e]at h1;unfold aU a8 at h1;exact⟨_,by unfold execOp;rw[ho];simp only[h1,Op.unary,DE];rfl,by rfl⟩
 grind
def xV(P:Program)(src dst:TypeId)(x:AV)(K:AV->Prop):Prop:=match x with
 | .p (.int _ a)=>(P.underlying src).isSome=true/\∃k,Ca P dst=some k/\K (.p (.int k (k.wrap a)))
 |_=>False
def XA{src dst:TypeId}{x:Operand}(ho:o.op= .convert src dst x){K:AV->Prop}(h:xV P src dst (E x) K):∃r,bB P o E σ n r [] []/\K r:=by
 have hx:x∈o.op.operands.toList:=by rw[ho];simp[cG]
 unfold xV at h;split at h
 .rename_i k0 a e;obtain⟨hs,k,hk,h⟩:=h;obtain⟨d,hs⟩:=la.1 hs;have hd:P.underlying dst=some (.int k):=by
   unfold Ca at hk;split at hk
   .grind
   .cases hk
  refine⟨_,bB.val ?_,h⟩;intro ρ C V w hE;have h1:=hE x hx;rw[e]at h1;unfold aU a8 at h1;refine⟨_,?_,by rfl⟩;unfold execOp;rw[ho];simp only[h1,convert,bo,run_underlying hs,run_underlying hd,b9,Conv.intToInt,cK]
 grind
def We{f:Fn}{first caps:Array Operand}(ho:o.op= .makeFunc f first caps):bB P o E σ n (.fn f (first.toList.map E) (caps.toList.map E)) [] [] :=by
 refine bB.val ?_;intro ρ C V w hE;refine⟨.func f (first.map (bF V)) (caps.map (bF V)),?_,?_⟩
 .unfold execOp;rw[ho];rfl
 .have key:∀l:List Operand,(∀x∈l,aU ρ C (E x) (bF V x))->ao ρ C (l.map E) (l.map (bF V)):=by
   intro l;induction l with
   |nil=>intro _;rfl
   |cons x l ih=>
    unfold ao;grind
  refine⟨first.toList.map (bF V),caps.toList.map (bF V),?_,key _ λx hx=>hE x ?_,key _ λx hx=>hE x ?_⟩
  .congr 1<;>(apply kd.1;simp)
  .rw[ho];simp only[cG,Array.toList_append,eK];exact .inl hx
  .rw[ho];simp only[cG,Array.toList_append,eK];exact .inr hx
def Bd(P:Program)(t:TypeId)(f:Nat)(x:AV)(K:AV->Prop):Prop:=∃q,mU P t f=some q/\match x with
 | .ptr s off=>K (.ptr s (off+q.1))
 | .p (.pro cs off)=>K (.p (.pro cs (off+q.1)))
 |_=>False
def Gf{t:TypeId}{f:Nat}{q:Nat×TypeId}(h:mU P t f=some q)(w:World)(b off:Nat):
  (Instr.fieldAt t (.pointer (some ⟨b,off,none⟩)) f).run P w= .ok (.pointer (some ⟨b,off+q.1,none⟩)) w:=by
 unfold mU at h;split at h
 .rename_i fs hu;simp only[kE]at h;obtain⟨x,hx,h⟩:=h;split at h
  .cases h
  .rename_i hz;cases h;cases hi:P.info? x.type with
   |none=>simp[aj,hi]at hz
   |some i=>
    have hne:i.size≠0:=by simpa[aj,hi]using hz
    simp[Instr.fieldAt,run_underlying hu,hx,yM,fieldPlace,sizeOf,typeInfo,hi,hne,uv]
 .cases h
def FS{t:TypeId}{f:Nat}{x:Operand}(ho:o.op= .fieldAddr t x f){K:AV->Prop}(h:Bd P t f (E x) K):∃r,bB P o E σ n r [] []/\K r:=by
 have hx:x∈o.op.operands.toList:=by rw[ho];simp[cG]
 obtain⟨q,hq,h⟩:=h;split at h
 .rename_i s off e;refine⟨_,bB.val ?_,h⟩;intro ρ C V w hE;have h1:=hE x hx;rw[e]at h1;obtain⟨b,c,h1,h2⟩:=h1;refine⟨.pointer (some ⟨b,off+q.1,none⟩),?_,by unfold aU;grind⟩;unfold execOp;rw[ho];simp only[h2,bo,Gf hq,b9,cK]
 .rename_i cs off e;refine⟨_,bB.val ?_,h⟩;intro ρ C V w hE;have h1:=hE x hx;rw[e]at h1;obtain⟨b,oo,h1,h2⟩:=h1;refine⟨.pointer (some ⟨b,oo+off+q.1,none⟩),?_,by unfold aU a8;grind⟩;unfold execOp;rw[ho];simp only[h1,bo,Gf hq,b9,cK]
 grind
def pi(P:Program)(t:TypeId)(l:List AV)(off:Nat)(K:AV->Prop):Prop:=
 tok P t=true/\if fu P t=true then∃m,(l.drop off).take (aj P t)=m/\K (d9 m)else∃x,l[off]? =some x/\K x
def BZ(P:Program)(t:TypeId)(f:Nat)(x:AV)(K:AV->Prop):Prop:=∃q,mU P t f=some q/\match x with
 | .agg l=>pi P q.2 l q.1 K
 | .p (.agg l)=>pi P q.2 (l.map .p) q.1 K
 |_=>False
def ao.take{ρ:Ren}{C:bG}{l:List AV}{vs:List Value}(h:ao ρ C l vs)(k:Nat):ao ρ C (l.take k) (vs.take k):=
 ao.of _ _ (by simp[h.length]) λi x hi=>by
  rw[oL]at hi|-;split at hi
  .rw[if_pos ‹_›];exact h.get _ _ i x hi
  .cases hi
def ao.drop{ρ:Ren}{C:bG}{l:List AV}{vs:List Value}(h:ao ρ C l vs)(k:Nat):ao ρ C (l.drop k) (vs.drop k):=
 ao.of _ _ (by simp[h.length]) λi x hi=>by rw[ru]at hi|-;exact h.get _ _ _ x hi
def WR{t:TypeId}{l:List AV}{off:Nat}{K:AV->Prop}(h:pi P t l off K):∃r,K r/\∀(ρ:Ren) (C:bG) (vs:List Value) (w:World),ao ρ C l vs->fF vs->∃v,(part t vs.toArray off).run P w= .ok v w/\aU ρ C r v:=by
 obtain⟨ht,h⟩:=h;unfold tok at ht;simp only[cD,la]at ht;obtain⟨⟨i,hi⟩,d,hd⟩:=ht;have hag:∀w:World,(isAgg t).run P w= .ok (fu P t) w:=by intro w;unfold isAgg fu;rw[bo,run_underlying hd w,hd];cases d<;>rfl
 split at h
 .rename_i hg;obtain⟨m,hm,hK⟩:=h;refine⟨_,hK,?_⟩;intro ρ C vs w hr h1s;have h2:=(hr.drop off).take (aj P t);rw[hm]at h2;refine⟨_,?_,vk h2 λu hu=>h1s u (by grind)⟩;have hsz:aj P t=i.size:=by simp[aj,hi]
  simp only[part,bo,hag,hg,b9,if_true,sizeOf,typeInfo,run_program,hi,cK];grind
 .rename_i hg;obtain⟨x,hx,hK⟩:=h;refine⟨x,hK,?_⟩;intro ρ C vs w hr _;obtain⟨v,h1,h2⟩:=hr.get _ _ off x hx;refine⟨v,?_,h2⟩;have hg':fu P t=false:=by simpa using hg
  simp[part,hag,hg',h1]
def VG{t:TypeId}{f:Nat}{x:Operand}(ho:o.op= .field t x f){K:AV->Prop}(h:BZ P t f (E x) K):∃r,bB P o E σ n r [] []/\K r:=by
 have hx:x∈o.op.operands.toList:=by rw[ho];simp[cG]
 obtain⟨q,hq,h⟩:=h;have key:∀l,pi P q.2 l q.1 K->(∀ρ C v,aU ρ C (E x) v->∃vs:List Value,v= .agg vs.toArray/\ao ρ C l vs/\fF vs)->∃r,bB P o E σ n r [] []/\K r:=by
  intro l hl hv;obtain⟨r,hK,hr⟩:=WR hl;refine⟨r,bB.val ?_,hK⟩;intro ρ C V w hE;obtain⟨vs,h1,h2,h2s⟩:=hv ρ C _ (hE x hx);obtain⟨v,h3,h4⟩:=hr ρ C vs w h2 h2s;refine⟨v,?_,h4⟩;unfold mU at hq;split at hq
  .rename_i fs hu;simp only[kE]at hq;obtain⟨y,hy,hq⟩:=hq;split at hq
   .cases hq
   .cases hq;unfold execOp;rw[ho];simp[h1,Instr.field,run_underlying hu,hy,asAgg,h3]
  .cases hq
 split at h
 .rename_i l e;refine key l h λρ C v hv=> ?_;rw[e]at hv;exact hv
 .rename_i l e;refine key _ h λρ C v hv=> ?_;rw[e]at hv;obtain⟨vs,h1,h2,h3⟩:=hv;exact⟨vs,h1,h2.toA,h3⟩
 grind
def wy(P:Program)(t:TypeId)(x i:AV)(K:AV->Prop):Prop:=match x,i with
 | .p (.sl n cs),.p (.int _ a)=>∃e,bu P t=some e/\(P.info? e).isSome=true/\0<=a/\a<n/\K (.p (.pro cs (a.toNat*aj P e)))
 | .own s o n,.p (.int _ a)=>∃e,bu P t=some e/\(P.info? e).isSome=true/\0<=a/\a<n/\K (.ptr s (o+a.toNat*aj P e))
 | .ptr s off,.p (.int _ a)=>∃q,n9 P t=some q/\(P.info? q.2).isSome=true/\0<=a/\a<q.1/\K (.ptr s (off+a.toNat*aj P q.2))
 | .p (.pro cs off),.p (.int _ a)=>∃q,n9 P t=some q/\(P.info? q.2).isSome=true/\0<=a/\a<q.1/\K (.p (.pro cs (off+a.toNat*aj P q.2)))
 |_,_=>False
def FO{t e:TypeId}(ht:P.underlying t=some (.slice e))(he:(P.info? e).isSome=true){k:IntKind}{a:Int}{n c b off:Nat}(h0:0<=a)(h1:a<n)(w:World):
  (DF t (.slice (some ⟨b,off,none⟩) n c) (.int k a)).run P w= .ok (.pointer (some ⟨b,off+a.toNat*aj P e,none⟩)) w:=by
 obtain⟨i,hi⟩:=la.1 he;simp[DF,asIntOf,run_underlying ht,h0,h1,sizeOf,typeInfo,hi,aj,uv]
def Ep{t e:TypeId}{m:Nat}(ht:P.underlying t=some (.array m e))(he:(P.info? e).isSome=true){k:IntKind}{a:Int}{b off:Nat}(h0:0<=a)(h1:a<m)(w:World):
  (DF t (.pointer (some ⟨b,off,none⟩)) (.int k a)).run P w= .ok (.pointer (some ⟨b,off+a.toNat*aj P e,none⟩)) w:=by
 obtain⟨i,hi⟩:=la.1 he;simp[DF,yM,asIntOf,run_underlying ht,h0,h1,sizeOf,typeInfo,hi,aj,uv]
def iw{t e:TypeId}(h:bu P t=some e):P.underlying t=some (.slice e):=by unfold bu at h;grind
def Ii{t:TypeId}{q:Nat×TypeId}(h:n9 P t=some q):P.underlying t=some (.array q.1 q.2):=by unfold n9 at h;grind
def VC{t:TypeId}{x i:Operand}(ho:o.op= .indexAddr t x i){K:AV->Prop}(h:wy P t (E x) (E i) K):∃r,bB P o E σ n r [] []/\K r:=by
 have hx:x∈o.op.operands.toList:=by rw[ho];simp[cG]
 have hi:i∈o.op.operands.toList:=by rw[ho];simp[cG]
 unfold wy at h;split at h
 .rename_i m cs k a ex ei;obtain⟨e,he,he2,h0,h1,hK⟩:=h;refine⟨_,bB.val ?_,hK⟩;intro ρ C V w hE;have g1:=hE x hx;have g2:=hE i hi;rw[ex]at g1;rw[ei]at g2;unfold aU a8 at g1 g2;obtain⟨ad,c,g1,g3,g4,g5⟩:=g1;cases ad with
  |none=>grind
  |some ad=>
   obtain⟨b,off,sp⟩:=ad;obtain⟨g5,g6⟩:=g5 _ rfl;have g5:sp=none:=g5 (by omega);subst g5;refine⟨.pointer (some ⟨b,off+a.toNat*aj P e,none⟩),?_,by unfold aU a8;grind⟩;unfold execOp;rw[ho];simp only[g1,g2,bo,FO (iw he) he2 h0 h1,b9,cK]
 .rename_i s oo m k a ex ei;obtain⟨e,he,he2,h0,h1,hK⟩:=h;refine⟨_,bB.val ?_,hK⟩;intro ρ C V w hE;have g1:=hE x hx;have g2:=hE i hi;rw[ex]at g1;rw[ei]at g2;unfold aU at g1 g2;unfold a8 at g2;obtain⟨q,c,g1,g3|⟨b,o',c',rfl,g4,g5,g6,g7⟩⟩:=g1
  .omega
  .have:=g6 (by omega);refine⟨.pointer (some ⟨b,o'+a.toNat*aj P e,none⟩),?_,by unfold aU;grind⟩;unfold execOp;rw[ho];simp only[g4,g2,bo,FO (iw he) he2 h0 h1,b9,cK]
 .rename_i s off k a ex ei;obtain⟨q,he,he2,h0,h1,hK⟩:=h;refine⟨_,bB.val ?_,hK⟩;intro ρ C V w hE;have g1:=hE x hx;have g2:=hE i hi;rw[ex]at g1;rw[ei]at g2;unfold aU at g1 g2;unfold a8 at g2;obtain⟨b,c,g1,g3⟩:=g1;refine⟨.pointer (some ⟨b,off+a.toNat*aj P q.2,none⟩),?_,by unfold aU;grind⟩;unfold execOp;rw[ho];simp only[g3,g2,bo,Ep (Ii he) he2 h0 h1,b9,cK]
 .rename_i cs off k a ex ei;obtain⟨q,he,he2,h0,h1,hK⟩:=h;refine⟨_,bB.val ?_,hK⟩;intro ρ C V w hE;have g1:=hE x hx;have g2:=hE i hi;rw[ex]at g1;rw[ei]at g2;unfold aU a8 at g1 g2;obtain⟨b,oo,g1,g3⟩:=g1;refine⟨.pointer (some ⟨b,oo+off+a.toNat*aj P q.2,none⟩),?_,by unfold aU a8;grind⟩;unfold execOp;rw[ho];simp only[g1,g2,bo,Ep (Ii he) he2 h0 h1,b9,cK]
 grind
def uS(x:AV)(i:Nat)(K:AV->Prop):Prop:=match x with
 | .tup l=>∃y,l[i]? =some y/\K y
 | .p (.tup l)=>∃y,l[i]? =some y/\K (.p y)
 |_=>False
def Wx{x:Operand}{i:Nat}(ho:o.op= .extract x i){K:AV->Prop}(h:uS (E x) i K):∃r,bB P o E σ n r [] []/\K r:=by
 have hx:x∈o.op.operands.toList:=by rw[ho];simp[cG]
 unfold uS at h;split at h
 .rename_i l e;obtain⟨y,hy,h⟩:=h;refine⟨_,bB.val ?_,h⟩;intro ρ C V w hE;have h1:=hE x hx;rw[e]at h1;obtain⟨vs,h1,h2⟩:=h1;obtain⟨v,h3,h4⟩:=h2.get _ _ i y hy;refine⟨v,?_,h4⟩;unfold execOp;rw[ho];simp[h1,Instr.extract,h3]
 .rename_i l e;obtain⟨y,hy,h⟩:=h;refine⟨_,bB.val ?_,h⟩;intro ρ C V w hE;have h1:=hE x hx;rw[e]at h1;obtain⟨vs,h1,h2⟩:=h1;obtain⟨v,h3,h4⟩:=h2.get _ _ i y hy;refine⟨v,?_,by exact h4⟩;unfold execOp;rw[ho];simp[h1,Instr.extract,h3]
 grind
end
def jv(l:List Oper)(j:Nat):Nat:=((l[j]?).bind (·.dst)).getD 1000000
def ii(anc:List (List Nat))(i:Nat):List Nat:=anc.getD i []
def Rd(w:World)(a:Option Addr)(cs:List Value):Prop:=∀i u,cs[i]? =some u->∃b off,a=some ⟨b,off,none⟩/\b<w.heap.size/\w.cell? ⟨b,off+i,none⟩=some u
def Sj{w:World}{base:Nat}{e:TypeId}{size:Nat}{v:Value}{n:Nat}{xs:List Value}(h:w.ownsRow base e size v n xs):∀k,v.ownBlock=some k->base<=k/\k<w.heap.size:=by
 intro k hk;rcases h.2 with⟨rfl,_⟩|⟨g,cap,cur,rfl,h2,h3,_⟩
 .simp[Value.ownBlock]at hk
 .simp[Value.ownBlock]at hk;grind
def Ut{P:Program}{o:Oper}{V:Nat->Value}{w:World}{K:Value->World->Prop}(s x:Operand)(t:TypeId)
  (ho:o.op= .call {callee:= .builtin .append,args:= #[s,x],argTypes:= #[t,t]})
  (base:Nat) (e:TypeId) (z:Value) (size bytes:Nat) (ht:P.underlying t=some (.slice e)) (hi:(P.info? e).map (λi=>(i.zero,i.size,i.bytes))=some (some z,size,bytes)) (hzs:z.cells.size=size) (hsz:0<size)
  (v:Value) (n:Nat) (xs:List Value) (hs:bF V s=v) (hown:w.ownsRow base e size v n xs)
  (a:Option Addr) (m c:Nat) (cs:List Value) (hx:bF V x= .slice a m c) (hl:cs.length=m*size) (hg:Rd w a cs) (hn:a=none->c=0) (h1:∀u∈cs,u.oneCell'=true)
  (h63:n+m<=1000000) (hbytes:bytes<=1000000) (hbase:base<=w.heap.size)
  (h:∀v' w',w'.ownsRow base e size v' (n+m) (xs++cs)->Below base w w'->w.grownBy w' v.ownBlock->(∀k,v'.ownBlock=some k->v.ownBlock=some k\/w.heap.size<=k)->K v' w'):cX P o V w K:=by
 obtain⟨i,hi1,hi2⟩:=iT.1 hi;simp only[Prod.mk.injEq]at hi2;obtain⟨i1,i2,i3⟩:=hi2;have hb:∀k,v.ownBlock=some k->base<=k:=λk hk=>(Sj hown k hk).1;by_cases hm:m=0
 .subst hm;have hcs:cs=[] :=by grind
  subst hcs;by_cases ha:a=none
  .subst ha;have hc:=hn rfl;subst hc;have hr:=run_append_owned_none (P:=P) (w:=w) base t o.type e i size ht hi1 v n xs hown;unfold cX execOp;simp only[ho,resolve,invoke,builtin,bo,cK,b9,uw,cV,lc,hs,hx,hr];exact h v w (by grind) (Below.refl _ _) ⟨rfl,rfl,rfl,az _,λ_ _ _=>rfl⟩ (by grind)
  .obtain⟨a',rfl⟩:=Option.ne_none_iff_exists'.1 ha;obtain⟨v',w',hr,h2,h3,_,h5⟩:=run_append_own_at (P:=P) (w:=w) base t o.type e i z size bytes ht hi1 i1 i2 i3 hzs hsz v n xs hown a' 0 c [] (by simp) (by simp) (by simp) (by simp only[maxLen];omega) (ci (DG h63 hbytes) (by decide)) hbase;unfold cX execOp;simp only[ho,resolve,invoke,builtin,bo,cK,b9,uw,cV,lc,hs,hx,hr];exact h v' w' h2 ((Below.refl base w).grown h3 hbase hb) h3 (by grind)
 .obtain⟨u0,hu0⟩:∃u,cs[0]? =some u:=by
   have:0<cs.length:=by rw[hl];exact Nat.mul_pos (by omega) hsz
   grind
  obtain⟨b,off,rfl,hbl,_⟩:=hg 0 u0 hu0;have hnews:∀j u,cs[j]? =some u->w.cell? ((⟨b,off,none⟩:Addr).add j)=some u:=by
   intro j u hj;obtain⟨b',off',he,_,hc⟩:=hg j u hj;simp only[fO,Addr.mk.injEq,and_true]at he;obtain⟨rfl,rfl⟩:=he;unfold Addr.add;by_cases hj0:j=0
   .grind
   .grind
  obtain⟨v',w',hr,h2,h3,_,h5⟩:=run_append_own_at (P:=P) (w:=w) base t o.type e i z size bytes ht hi1 i1 i2 i3 hzs hsz v n xs hown ⟨b,off,none⟩ m c cs hl hnews h1 (by simp only[maxLen];omega) (ci (DG h63 hbytes) (by decide)) hbase;unfold cX execOp;simp only[ho,resolve,invoke,builtin,bo,cK,b9,uw,cV,lc,hs,hx,hr];exact h v' w' h2 ((Below.refl base w).grown h3 hbase hb) h3 (by grind)
section
variable {m i:Nat} {A B:World->Prop} {D:Nat->Bool} {wx:World}
end
section
variable {m n i:Nat} {A B C:World->Prop} {D:Nat->Bool} {wx:World}
end
section
variable {P:Program} {o:Oper} {E:Operand->AV} {σ:Nat->Option Ob} {n:Nat}
def xv:AV->Option Int
 | .p (.int _ a)=>some a
 |_=>none
def Gc{ρ:Ren}{C:bG}{x:AV}{a:Int}{v:Value}(h:xv x=some a)(hr:aU ρ C x v):∃k,v= .int k a:=by
 unfold xv at h;split at h
 .unfold aU a8 at hr;grind
 .cases h
def loA(E:Operand->AV)(lo:Option Operand)(d:Int):Option Int:=match lo with|none=>some d|some x=>xv (E x)
def qr(P:Program)(t:TypeId)(x:AV)(lo hi:Option Int)(K:AV->Prop):Prop:=∃e l h,bu P t=some e/\(P.info? e).isSome=true/\aj P e≠0/\lo=some l/\hi=some h/\0<=l/\l<=h/\match x with
 | .p (.sl m cs)=>h<=m/\K (.p (.sl (h.toNat-l.toNat) ((cs.take (h.toNat*aj P e)).drop (l.toNat*aj P e))))
 | .own s oo m=>h<=m/\K (.own s (oo+l.toNat*aj P e) (h.toNat-l.toNat))
 |_=>False
def qv:AV->Int
 | .p (.sl m _)=>m
 | .own _ _ m=>m
 |_=>0
def zF{t e:TypeId}(ht:P.underlying t=some (.slice e))(he:(P.info? e).isSome=true)(a:Option Addr)(m c:Nat)(hmc:m<=c)(lo hi:Option Value)(l h:Int)(h0:0<=l)(h1:l<=h)(h2:h<=m)
  (hlo:(lo=none/\l=0)\/∃k,lo=some (.int k l)) (hhi:(hi=none/\h=m)\/∃k,hi=some (.int k h)) (w:World):
  (Instr.sliceAt t (.slice a m c) lo hi none).run P w= .ok (.slice (if c=l.toNat then a else a.map (·.add (l.toNat*aj P e))) (h.toNat-l.toNat) (c-l.toNat)) w:=by
 obtain⟨i,hi'⟩:=la.1 he;have hsz:aj P e=i.size:=by simp[aj,hi']
 have hb:(yN true m c lo hi none).run P w= .ok (l.toNat,h.toNat,c) w:=by
  rcases hlo with⟨rfl,rfl⟩|⟨k,rfl⟩<;>rcases hhi with⟨rfl,rfl⟩|⟨k',rfl⟩
  .simp[yN]
  .simp[yN,Instr.sliceBound,asIntOf,show 0<=h by omega,show h<=(c:Int) by omega]
  .simp[yN,Instr.sliceBound,asIntOf,h0,h1]
  .simp[yN,Instr.sliceBound,asIntOf,h0,show 0<=h by omega,show h<=(c:Int) by omega,show l<=max h 0 by omega]
 simp only[Instr.sliceAt,bo,run_underlying ht,b9,Instr.slice,hb,sizeOf,typeInfo,run_program,hi',cK,hsz]
def UU{t:TypeId}{x:Operand}{lo hi:Option Operand}(ho:o.op= .slice t x lo hi none){K:AV->Prop}(h:qr P t (E x) (loA E lo 0) (loA E hi (qv (E x))) K):∃r,bB P o E σ n r [] []/\K r:=by
 have hx:x∈o.op.operands.toList:=by rw[ho];simp[cG]
 have hl:∀y,lo=some y->y∈o.op.operands.toList:=by intro y hy;rw[ho];simp[cG,hy]
 have hh:∀y,hi=some y->y∈o.op.operands.toList:=by intro y hy;rw[ho];simp[cG,hy]
 obtain⟨e,l,hv,he,he2,hez,hlo,hhi,h0,h1,h⟩:=h;have klo:∀(ρ:Ren) (C:bG) (V:Nat->Value),(∀x∈o.op.operands.toList,aU ρ C (E x) (bF V x))->(lo.map (bF V)=none/\l=0)\/∃k,lo.map (bF V)=some (.int k l):=by
  intro ρ C V hE;unfold loA at hlo;cases lo with
  |none=>grind
  |some y=>obtain⟨k,hk⟩:=Gc hlo (hE y (hl y rfl));grind
 have khi:∀(m:Nat),qv (E x)=m->∀(ρ:Ren) (C:bG) (V:Nat->Value),(∀x∈o.op.operands.toList,aU ρ C (E x) (bF V x))->(hi.map (bF V)=none/\hv=m)\/∃k,hi.map (bF V)=some (.int k hv):=by
  intro m hm ρ C V hE;unfold loA at hhi;cases hi with
  |none=>grind
  |some y=>obtain⟨k,hk⟩:=Gc hhi (hE y (hh y rfl));grind
 split at h
 .rename_i m cs ex;obtain⟨h2,hK⟩:=h;refine⟨_,bB.val ?_,hK⟩;intro ρ C V w hE;have g1:=hE x hx;rw[ex]at g1;obtain⟨a,c,g1,g2,g3,g4⟩:=g1;have hrun:=zF (iw he) he2 a m c g2 _ _ l hv h0 h1 h2 (klo ρ C V hE) (khi m (by rw[ex];rfl) ρ C V hE) w;refine⟨.slice (if c=l.toNat then a else a.map (·.add (l.toNat*aj P e))) (hv.toNat-l.toNat) (c-l.toNat),?_,?_⟩
  .unfold execOp;simp_all
  .refine⟨_,_,rfl,by omega,?_,?_⟩
   .intro hn;have:a=none:=by
     split at hn
     .exact hn
     .simp_all
    grind
   .intro ad had;split at had
    .subst had;refine⟨by grind,?_⟩;have:((cs.take (hv.toNat*aj P e)).drop (l.toNat*aj P e))=[] :=by
      apply List.drop_eq_nil_of_le;rw[ew];have:hv.toNat=l.toNat:=by omega
      rw[this];omega
     rw[this];trivial
    .cases a with
     |none=>simp at had
     |some ad'=>
      simp at had;subst had;obtain⟨g5,g6⟩:=g4 ad' rfl;rcases oK m with hm0|hm0
      .have e0:hv.toNat=0:=by omega
       rw[e0];simp;trivial
      .have g5:=g5 hm0;obtain⟨b,off,sp⟩:=ad';subst g5;rw[uv];exact⟨λ_=>rfl,(g6.take _).drop _⟩
 .rename_i s oo m ex;obtain⟨h2,hK⟩:=h;refine⟨_,bB.val ?_,hK⟩;intro ρ C V w hE;have g1:=hE x hx;rw[ex]at g1;obtain⟨q,c,g1,⟨rfl,g2,g3,g4⟩|⟨b,o',c',rfl,g2,g3,g4,g5⟩⟩:=g1
  .have hrun:=zF (iw he) he2 none m 0 (by omega) _ _ l hv h0 h1 h2 (klo ρ C V hE) (khi m (by rw[ex];rfl) ρ C V hE) w;have e1:l=0:=by omega
   have e2:hv=0:=by omega
   refine⟨.slice none 0 0,?_,?_⟩
   .unfold execOp;simp_all
   grind
  .have hrun:=zF (iw he) he2 (some ⟨b,o',none⟩) m c' g3 _ _ l hv h0 h1 h2 (klo ρ C V hE) (khi m (by rw[ex];rfl) ρ C V hE) w;refine⟨.slice (if c'=l.toNat then some ⟨b,o',none⟩else(some (⟨b,o',none⟩:Addr)).map (·.add (l.toNat*aj P e))) (hv.toNat-l.toNat) (c'-l.toNat),?_,?_⟩
   .unfold execOp;simp_all
   .refine⟨some b,c,g1,.inr ⟨b,if c'=l.toNat then o' else o'+l.toNat*aj P e,c'-l.toNat,rfl,?_,by omega,?_,?_⟩⟩
    .split<;>simp[uv]
    .grind
    .intro hz;have h3:oo=0:=by omega
     have h4:l.toNat*aj P e=0:=by omega
     rcases DH.1 h4 with h5|h5
     .grind
     omega
 grind
def xu(P:Program)(t:TypeId)(x:AV)(K:AV->Prop):Prop:=match x with
 | .p (.sl m _)=>(bu P t).isSome=true/\K (.p (.int .i64 m))
 | .own _ _ m=>(bu P t).isSome=true/\K (.p (.int .i64 m))
 | .nil=>(bu P t).isSome=true/\K (.p (.int .i64 0))
 | .p (.str s)=>(match P.underlying t with|some .string=>true|_=>false)=true/\K (.p (.int .i64 s.size))
 |_=>False
def YI{x:Operand}{t:TypeId}(ho:o.op= .call {callee:= .builtin .len,args:= #[x],argTypes:= #[t]}){K:AV->Prop}(h:xu P t (E x) K):∃r,bB P o E σ n r [] []/\K r:=by
 have hx:x∈o.op.operands.toList:=by rw[ho];simp[cG,fz]
 have key:∀(m:Nat),(bu P t).isSome=true->(∀ρ C v,aU ρ C (E x) v->∃a c,v= .slice a m c)->bB P o E σ n (.p (.int .i64 m)) [] [] :=by intro m ht hv;obtain⟨e,he⟩:=la.1 ht;have hu:=iw he;refine bB.val ?_;intro ρ C V w hE;obtain⟨a,c,h1⟩:=hv ρ C _ (hE x hx);refine⟨.int .i64 m,?_,by rfl⟩;unfold execOp;rw[ho];simp[resolve,invoke,builtin,Builtin.len_,h1,run_underlying hu,goInt]
 unfold xu at h;split at h
 .rename_i m cs e;refine⟨_,key m h.1 λρ C v hv=> ?_,h.2⟩;unfold aU a8 at hv;grind
 .rename_i s oo m e;refine⟨_,key m h.1 λρ C v hv=> ?_,h.2⟩;unfold aU at hv;grind
 .rename_i e;refine⟨_,key 0 h.1 λρ C v hv=> ?_,h.2⟩;unfold aU at hv;grind
 .rename_i s e;obtain⟨ht,hK⟩:=h;refine⟨_,bB.val ?_,hK⟩;intro ρ C V w hE;have h1:=hE x hx;rw[e]at h1;unfold aU a8 at h1;have hu:P.underlying t=some .string:=by
   split at ht
   .assumption
   .cases ht
  refine⟨.int .i64 s.size,?_,by rfl⟩;unfold execOp;rw[ho];simp[resolve,invoke,builtin,Builtin.len_,h1,run_underlying hu,goInt]
 grind
def jR:AV->Option (List AV)
 | .agg l=>some l
 | .p (.agg l)=>some (l.map .p)
 | .p (.tup _)=>none
 | .p .junk=>none
 | .p x=>some [.p x]
 | .mp s=>some [.mp s]
 | .nil=>some [.nil]
 | .ptr s off=>some [.ptr s off]
 | .own s o n=>some [.own s o n]
 | .fn f a b=>some [.fn f a b]
 |_=>none
def zB{ρ:Ren}{C:bG}{x:AV}{l:List AV}{v:Value}(h:jR x=some l)(hr:aU ρ C x v):ao ρ C l v.cells.toList/\fF v.cells.toList:=by
 have key:∀(y:AV),l=[y]->aU ρ C y v->v.oneCell'=true->ao ρ C l v.cells.toList/\fF v.cells.toList:=by
  intro y hl hy h1;have hc:v.cells.toList=[v] :=by cases v<;>first|rfl|(simp[Value.oneCell']at h1;done)
  rw[hc,hl];refine⟨?_,λu hu=>by grind⟩;unfold ao;exact⟨v,[],rfl,hy,by rfl⟩
 unfold jR at h;split at h
 .cases h;obtain⟨vs,rfl,h1,h2⟩:=hr;exact⟨by simpa[DI]using h1,by simpa[DI]using h2⟩
 .cases h;obtain⟨vs,rfl,h1,h2⟩:=hr;exact⟨by simpa[DI]using h1.toA,by simpa[DI]using h2⟩
 .cases h
 .cases h
 .rename_i y hn1 hn2 hn3;cases h;refine key _ rfl hr ?_;unfold aU at hr;cases y<;>unfold a8 at hr
  .rw[hr];rfl
  .rw[hr];rfl
  .rw[hr];rfl
  .grind
  .grind
  .obtain⟨a,c,h1,_⟩:=hr;rw[h1];rfl
  .obtain⟨a,c,h1,_⟩:=hr;rw[h1];rfl
  .obtain⟨a,c,h1,_⟩:=hr;rw[h1];rfl
  grind
 .cases h;refine key _ rfl hr ?_;obtain⟨c,_,h2⟩:=hr;rw[h2];rfl
 .cases h;refine key _ rfl hr ?_;rw[hr];rfl
 .cases h;refine key _ rfl hr ?_;obtain⟨b,c,_,h2⟩:=hr;rw[h2];rfl
 .cases h;refine key _ rfl hr ?_;obtain⟨q,c,_,⟨_,h2,_⟩|⟨b,o',c',_,h2,_⟩⟩:=hr<;>(rw[h2];rfl)
 .cases h;refine key _ rfl hr ?_;obtain⟨a,b,h2,_⟩:=hr;rw[h2];rfl
 .cases h
def c7(cs:List AV)(off:Nat):List AV->List AV
 |[] =>cs
 |x::l=>c7 (cs.set off x) (off+1) l
def mw:∀(l:List AV) (cs:List AV) (off:Nat),(c7 cs off l).length=cs.length
 |[],cs,off=>rfl
 |x::l,cs,off=>by unfold c7;rw[mw l];simp
def kS(place:Nat->Option (Nat×Nat))(cells:List AV):List (Nat×AV)->Option (List AV)
 |[] =>some cells
 |(i,v)::rest=>match place i,jR v with
  |some (off,size),some l=>if l.length=size/\off+size<=cells.length then kS place (c7 cells off l) rest else none
  |_,_=>none
def ao.set{ρ:Ren}{C:bG}{l:List AV}{vs:List Value}(h:ao ρ C l vs)(k:Nat){x:AV}{v:Value}(hx:aU ρ C x v):ao ρ C (l.set k x) (vs.set k v):=
 ao.of _ _ (by simp[h.length]) λi y hi=>by
  have hl:=h.length;rw[gZ]at hi|-;split at hi
  .grind
  .rename_i e;rw[if_neg e];exact h.get _ _ i y hi
def Fy{ρ:Ren}{C:bG}:∀(l:List AV) (vs:List Value) (cs:List AV) (us:List Value) (off:Nat) (j:Nat),ao ρ C l vs->ao ρ C cs us->fF vs->fF us->
  ao ρ C (c7 cs (off+j) l) ((vs.zipIdx j).foldl (λ(a:Array Value) (c,j)=>a.setIfInBounds (off+j) c) us.toArray).toList/\fF ((vs.zipIdx j).foldl (λ(a:Array Value) (c,j)=>a.setIfInBounds (off+j) c) us.toArray).toList
 |[],vs,cs,us,off,j,h1,h2,h3,h4=>by subst h1;simpa[c7]using⟨h2,h4⟩
 |x::l,vs,cs,us,off,j,h1,h2,h3,h4=>by
  obtain⟨v,r,rfl,hv,hr⟩:=h1;have:=Fy l r (cs.set (off+j) x) (us.set (off+j) v) off (j+1) hr (h2.set _ hv) (λu hu=>h3 u (by grind)) (λu hu=>by
   rcases List.mem_or_eq_of_mem_set hu with h|h
   .exact h4 u h
   .subst h;exact h3 _ (by grind))
  simpa[c7,List.zipIdx_cons,oO]using this
def zU{ρ:Ren}{C:bG}{place:Nat->Option (Nat×Nat)}:∀(parts:List (Nat×AV)) (vparts:List (Nat×Value)) (cs res:List AV) (us:List Value),
  kS place cs parts=some res->vparts.length=parts.length->(∀(j:Nat) q,parts[j]? =some q->∃v,vparts[j]? =some (q.1,v)/\aU ρ C q.2 v)->ao ρ C cs us->fF us->
  ∃vs:List Value,Instr.fill place us.toArray vparts=some vs.toArray/\ao ρ C res vs/\fF vs
 |[],vparts,cs,res,us,h,hl,hp,hc,h1=>by
  simp[kS]at h;subst h;have:vparts=[] :=by grind
  subst this;exact⟨us,rfl,hc,h1⟩
 |(i,x)::rest,vparts,cs,res,us,h,hl,hp,hc,h1=>by
  obtain⟨v,hv0,hv⟩:=hp 0 (i,x) rfl;cases vparts with
  |nil=>simp at hl
  |cons q vparts=>
   simp at hv0;subst hv0;unfold kS at h;split at h
   .rename_i off size l hpl hcl;split at h
    .obtain⟨c1,c2⟩:=zB hcl hv;have hlen:=c1.length;have hcs:=hc.length;obtain⟨s1,s2⟩:=Fy l v.cells.toList cs us off 0 c1 hc c2 h1;obtain⟨vs,f1,f2,f3⟩:=zU rest vparts _ res _ h (by grind) (λj q hj=>hp (j+1) q (by grind)) s1 s2;refine⟨vs,?_,f2,f3⟩;unfold Instr.fill;rw[hpl];dsimp only;simp only[rz]at hlen;have e1:¬(v.cells.size≠size||decide (off+v.cells.size>us.toArray.size))=true:=by simp;omega
     rw[if_neg e1];rw[<-f1];have e2:∀(a:Array Value),a.zipIdx.foldl (λ(cs:Array Value) (x:Value×Nat)=>match x with|(c,j)=>cs.setIfInBounds (off+j) c) us.toArray=(a.toList.zipIdx 0).foldl (λ(cs:Array Value) (x:Value×Nat)=>match x with|(c,j)=>cs.setIfInBounds (off+j) c) us.toArray:=by intro a;rw[<-Array.foldl_toList,Array.toList_zipIdx]
     rw[e2]
    .cases h
   .cases h
def BR(P:Program)(t:TypeId):Nat->Option (Nat×Nat):=match P.underlying t with
 |some (.struct fs)=>λi=>(fs[i]?).map λf=>(f.offset,aj P f.type)
 |some (.array _ e)=>λi=>some (i*aj P e,aj P e)
 |_=>λ_=>none
def Am(P:Program)(t:TypeId):Bool:=match P.underlying t with
 |some (.struct fs)=>fs.toList.all λf=>(P.info? f.type).isSome
 |some (.array _ e)=>(P.info? e).isSome
 |_=>false
def mmA(f:Int->Int->Int)(x y:AV)(K:AV->Prop):Prop:=match x,y with
 | .p (.int .i64 a),.p (.int .i64 b)=>K (.p (.int .i64 (f a b)))
 |_,_=>False
def MS{P:Program}(ts:Array TypeId)(t:TypeId)(x y:Int)(w:World):(Builtin.min_ ts t #[.int .i64 x,.int .i64 y]).run P w= .ok (.int .i64 (min x y)) w/\(Builtin.max_ ts t #[.int .i64 x,.int .i64 y]).run P w= .ok (.int .i64 (max x y)) w:=by have h:= @run_min_int2 P w ts t .i64 .i64 x y;have h2:= @run_max_int2 P w ts t .i64 .i64 x y;grind
def X7{x y:Operand}{ts:Array TypeId}(ho:o.op= .call {callee:= .builtin .min,args:= #[x,y],argTypes:=ts}){K:AV->Prop}(h:mmA min (E x) (E y) K):∃r,bB P o E σ n r [] []/\K r:=by
 unfold mmA at h;split at h
 .rename_i a b ea eb;refine⟨_,bB.val ?_,h⟩;intro ρ C V w hE;have h1:=hE x (by rw[ho];simp[cG,fz]);have h2:=hE y (by rw[ho];simp[cG,fz]);rw[ea]at h1;rw[eb]at h2;unfold aU a8 at h1 h2;refine⟨.int .i64 (min a b),?_,by rfl⟩;unfold execOp;rw[ho];simp[resolve,invoke,builtin,h1,h2,(MS _ _ _ _ _).1]
 grind
def YF{x y:Operand}{ts:Array TypeId}(ho:o.op= .call {callee:= .builtin .max,args:= #[x,y],argTypes:=ts}){K:AV->Prop}(h:mmA max (E x) (E y) K):∃r,bB P o E σ n r [] []/\K r:=by
 unfold mmA at h;split at h
 .rename_i a b ea eb;refine⟨_,bB.val ?_,h⟩;intro ρ C V w hE;have h1:=hE x (by rw[ho];simp[cG,fz]);have h2:=hE y (by rw[ho];simp[cG,fz]);rw[ea]at h1;rw[eb]at h2;unfold aU a8 at h1 h2;refine⟨.int .i64 (max a b),?_,by rfl⟩;unfold execOp;rw[ho];simp[resolve,invoke,builtin,h1,h2,(MS _ _ _ _ _).2]
 grind
end
section
variable {P:Program} {o:Oper} {E:Operand->AV} {σ:Nat->Option Ob} {n:Nat}
def J0(P:Program)(t:TypeId)(parts:List (Nat×AV))(K:AV->Prop):Prop:=∃z,mI P t=some z/\lJ P t=true/\Am P t=true/\∃l,kS (BR P t) z parts=some l/\K (d9 l)
def FI:∀(fs:List Field),fs.all (λf=>(P.info? f.type).isSome)=true->fs.mapM (λf=>(P.info? f.type).map λi=>(f.offset,i.size))=some (fs.map λf=>(f.offset,aj P f.type))
 |[],_=>rfl
 |f::fs,h=>by
  simp only[List.all_cons,cD]at h;obtain⟨i,hi⟩:=la.1 h.1;simp[List.mapM_cons,hi,FI fs h.2,aj]
def sT{t:TypeId}{z:List AV}(h:mI P t=some z)(h1:lJ P t=true):∃i zv,P.info? t=some i/\i.zero=some zv/\zv.cells.size=i.size/\fF zv.cells.toList/\z=zv.cells.toList.map ib:=by unfold mI at h;simp only[kE,iT]at h;obtain⟨i,hi,zv,hz,rfl⟩:=h;unfold lJ at h1;simp only[hi,kc,hz,dn,mZ,cD,beq_iff_eq,dm]at h1;exact⟨i,zv,hi,hz,h1.2,h1.1,rfl⟩
def Vd{t:TypeId}{parts:Array (Nat×Operand)}(ho:o.op= .build t parts){K:AV->Prop}(h:J0 P t (parts.toList.map λq=>(q.1,E q.2)) K):∃r,bB P o E σ n r [] []/\K r:=by
 obtain⟨z,hz,hz1,hpo,l,hl,hK⟩:=h;refine⟨_,bB.val ?_,hK⟩;intro ρ C V w hE;obtain⟨i,zv,hi,hiz,hsz,hone,rfl⟩:=sT hz hz1;have hp:∀(j:Nat) q,(parts.toList.map λq=>(q.1,E q.2))[j]? =some q->∃v,(parts.toList.map λq=>(q.1,bF V q.2))[j]? =some (q.1,v)/\aU ρ C q.2 v:=by
  intro j q hj;rw[dw]at hj|-;cases hq:parts.toList[j]? with
  |none=>grind
  |some q'=>
   rw[hq]at hj;simp only[dn,fO]at hj;subst hj;refine⟨bF V q'.2,rfl,hE q'.2 ?_⟩;simp only[cG];grind
 obtain⟨vs,f1,f2,f3⟩:=zU _ (parts.toList.map λq=>(q.1,bF V q.2)) _ l zv.cells.toList hl (by simp) hp (qJ _) hone;have hb:P.built t (parts.map λq=>(q.1,bF V q.2)).toList=some vs.toArray:=by
  unfold Program.built;rw[hi];unfold Am at hpo;unfold BR at f1;cases hu:P.underlying t with
  |none=>grind
  |some d=>
   rw[hu]at hpo f1;cases d<;>first|(cases hpo;done)|skip
   case struct fs=>
    dsimp only at hpo f1|-;rw[hiz,FI _ hpo];simp_all
   case array m e=>
    dsimp only at hpo f1|-;obtain⟨ie,hie⟩:=la.1 hpo;rw[hiz,hie];rw[<-f1];simp[aj,hie]
 refine⟨.agg vs.toArray,?_,vk f2 f3⟩;unfold execOp;rw[ho];simp only[bo,run_build w t _ _ hb,b9,cK]
def xe.mono{B c:Nat}{w w':World}{vs:List Value}(h:xe B w c vs)(hm:∀k,rV w k->(k=c\/∃since seen c0,w.heap[k]? =some (.mapIter (some c) since seen c0))->w'.heap[k]? =w.heap[k]?):xe B w' c vs:=by obtain⟨r,since,seen,c0,es,clock,cur,h1,h2,h3,h4⟩:=h;exact⟨r,since,seen,c0,es,clock,cur,h1,(hm r ⟨_,h2,by simp⟩ (.inr ⟨_,_,_,h2⟩)).trans h2,(hm c ⟨_,h3,by simp⟩ (.inl rfl)).trans h3,h4⟩
def tg.mono{C0:bG}{B:Nat}{ρ ρ':Ren}{C C':bG}{w w':World}{c:Nat}{o:Ob}(h:tg C0 B ρ C w c o)(hext:∀s q,ρ s=some q->ρ' s=some q)(hC:∀b o x,C b o x->C' b o x)
  (hm:∀k,o.ty≠0->rV w k->(k=c\/∃since seen c0,w.heap[k]? =some (.mapIter (some c) since seen c0))->w'.heap[k]? =w.heap[k]?):tg C0 B ρ' C' w' c o:=by
 rcases h with⟨h0,h1,h2⟩|⟨h0,hB,es,clock,h1,h3,h4,h2⟩|⟨h0,hB,vs,h1,h2⟩
 .exact .inl ⟨h0,λi x hi v hv=>aU.mono hext hC x v (h1 i x hi v hv),h2⟩
 .exact .inr (.inl ⟨h0,hB,es,clock,(hm c (by rw[h0];decide) ⟨_,h1,by simp⟩ (.inl rfl)).trans h1,h3,h4,ao.mono hext hC _ _ h2⟩)
 .exact .inr (.inr ⟨h0,hB,vs,h1.mono λk=>hm k (by rw[h0];decide),ao.mono hext hC _ _ h2⟩)
def StR.stepG{C0:bG}{ρ ρ':Ren}{g:Nat->Option Ob}{w w':World}{B:Nat}{W:List (Nat×Option Ob)}(hs:StR C0 ρ g w B)
  (hρ:∀s o,W.lookup s=none->g s=some o->ρ' s=ρ s) (hext:∀s q,ρ s=some q->ρ' s=some q)
  (hmono:∀b o x,ak C0 B w ρ g b o x->ak C0 B w' ρ' (aX g W) b o x)
  (hold:∀s o b c,W.lookup s=none->g s=some o->ρ s=some (some b,c)->w'.heap[b]? =w.heap[b]?)
  (hmap:∀(s:Nat) (o:Ob) (c k:Nat),W.lookup s=none->g s=some o->o.esz=0->o.ty≠0->ρ s=some (none,c)->rV w k->(k=c\/∃since seen c0,w.heap[k]? =some (.mapIter (some c) since seen c0))->w'.heap[k]? =w.heap[k]?)
  (hnew:∀s o,W.lookup s=some (some o)->∃q c,ρ' s=some (q,c)/\((q=none/\o.esz≠0/\o.cells=[]/\c=0)\/(q=none/\o.esz=0/\tg C0 B ρ' (ak C0 B w' ρ' (aX g W)) w' c o/\
     (∀s' o' c',s'≠s->aX g W s'=some o'->o'.esz=0->ρ' s'=some (none,c')->¬mW o c o' c'))\/∃b arr,q=some b/\B<=b/\ObRep ρ' (ak C0 B w' ρ' (aX g W)) w' b c o arr/\
    ∀s' o' c',s'≠s->aX g W s'=some o'->ρ' s'≠some (some b,c'))):StR C0 ρ' (aX g W) w' B:=by
 refine⟨?_,?_,?_⟩
 .intro s ob hob;unfold aX at hob;split at hob
  .grind
  .rename_i hx;obtain⟨q,c,h1,⟨h2,h3|⟨h3,h4⟩⟩|⟨b,arr,h2,h3,h4⟩⟩:=hs.ob s ob hob
   .grind
   .subst h2;exact⟨none,c,by grind,.inl ⟨rfl,.inr ⟨h3,h4.mono hext hmono λk hty=>hmap s ob c k hx hob h3 hty h1⟩⟩⟩
   .refine⟨q,c,by grind,.inr ⟨b,arr,h2,h3,?_,h4.box,h4.row,?_⟩⟩
    .subst h2;rw[hold s ob b c hx hob h1];exact h4.blk
    .intro i x hi;obtain⟨v,g1,g2,g3⟩:=h4.cells i x hi;exact⟨v,g1,g2,aU.mono hext hmono x v g3⟩
 .intro s s' ob ob' b c c' h1 h2 h3 h4;by_cases hss:s=s'
  .exact hss
  have k1:=h1;have k2:=h2;unfold aX at h1 h2;split at h1
  .grind
  .rename_i hx;split at h2
   .grind
   .rename_i hx2;exact hs.inj s s' ob ob' b c c' h1 h2 (by grind) (by grind)
 .intro s s' ob ob' c c' h1 h2 m1 m2 h3 h4 hT;by_cases hss:s=s'
  .exact hss
  have k1:=h1;have k2:=h2;unfold aX at h1 h2;split at h1
  .grind
  .rename_i hx;split at h2
   .rename_i x hx2;subst h2;obtain⟨q,c2,e1,⟨_,e2,_⟩|⟨e2,_,_,e5⟩|⟨b2,arr,e2,_,_,_⟩⟩:=hnew s' ob' hx2
    .omega
    .rw[h4]at e1;cases e1;exact absurd hT.symm (by grind)
    grind
   .rename_i hx2;exact hs.mpi s s' ob ob' c c' h1 h2 m1 m2 (by grind) (by grind) hT
def StR.step{C0:bG}{ρ ρ':Ren}{g:Nat->Option Ob}{w w':World}{B:Nat}{W:List (Nat×Option Ob)}(hs:StR C0 ρ g w B)
  (hρ:∀s o,W.lookup s=none->g s=some o->ρ' s=ρ s) (hext:∀s q,ρ s=some q->ρ' s=some q)
  (hmono:∀b o x,ak C0 B w ρ g b o x->ak C0 B w' ρ' (aX g W) b o x)
  (hold:∀s o b c,W.lookup s=none->g s=some o->ρ s=some (some b,c)->w'.heap[b]? =w.heap[b]?)
  (hnew:∀s o,W.lookup s=some (some o)->∃q c,ρ' s=some (q,c)/\((q=none/\o.esz≠0/\o.cells=[]/\c=0)\/∃b arr,q=some b/\B<=b/\ObRep ρ' (ak C0 B w' ρ' (aX g W)) w' b c o arr/\
    ∀s' o' c',s'≠s->aX g W s'=some o'->ρ' s'≠some (some b,c')))
  (hmap:∀(c:Nat) (_ _:Unit),rV w c->w'.heap[c]? =w.heap[c]?):StR C0 ρ' (aX g W) w' B:=
 hs.stepG hρ hext hmono hold (λ_ _ _ k _ _ _ _ _ h _=>hmap k () () h) (by grind)
def i9{w:World}{c:Nat}(h:rV w c):c<w.heap.size:=by grind
def mA{w:World}{b c:Nat}{arr:Array Value}{t:TypeId}{q:Nat×Nat}(h:rV w c)(hb:w.heap[b]? =some (.cells arr t q)):c≠b:=by grind
def bB.alloc{r:AV}{ob:Ob}(h:∀(ρ:Ren) (C:bG) (V:Nat->Value) (w:World),(∀x∈o.op.operands.toList,aU ρ C (E x) (bF V x))->
  ∃v arr c,(execOp (bF V) o).run P w= .ok (.value v) (w.alloc (.cells arr ob.ty))/\(ob.esz=0->arr.size=ob.cells.length)/\(ob.esz≠0->arr.size=c*ob.esz/\ob.cells.length<=arr.size/\c<=maxLen)/\
   ao ρ C ob.cells (arr.toList.take ob.cells.length)/\fF arr.toList/\∀(ρ':Ren) (C':bG),ρ' (sit n 0)=some (some w.heap.size,c)->aU ρ' C' r v):bB P o E σ n r [] [(sit n 0,some ob)] :=by
 intro C0 ρ g V w B hs hB _ hn hgn hE;have hcl:∀s,cls s≠n->s≠sit n 0:=λs h e=>h (by rw[e];exact fT n 0);generalize sit n 0=m at*;obtain⟨v,arr,c,hrun,h1,h2,h3,h4,h5⟩:=h ρ _ V w hE;unfold cX;rw[hrun];have hblk:(w.alloc (.cells arr ob.ty)).heap[w.heap.size]? =some (.cells arr ob.ty (0,0)):=heap_alloc_new w _
 let ρ':Ren:=λs=>if s=m then some (some w.heap.size,c)else ρ s
 have hext:∀s q,ρ s=some q->ρ' s=some q:=by intro s q hq;show(if s=m then _ else _)=_;rw[if_neg (by grind)];exact hq
 have hlt:∀s ob b c,g s=some ob->ρ s=some (some b,c)->b<w.heap.size:=by intro s ob b c e1 e2;obtain⟨_,arr,e3⟩:=hs.at e1 e2;exact e3.lt
 have hold:∀b,b<w.heap.size->(w.alloc (.cells arr ob.ty)).heap[b]? =w.heap[b]? :=λb hb=>Below.heap_alloc w _ b hb;have hlk:∀s,s≠m->[(m,some ob)].lookup s=none:=by intro s hs;simp[cL,beq_eq_false_iff_ne.2 hs]
 have hup:∀s,s≠m->aX g [(m,some ob)] s=g s:=by intro s hs;unfold aX;rw[hlk s hs]
 have hmono:∀b o' x,ak C0 B w ρ g b o' x->ak C0 B (w.alloc (.cells arr ob.ty)) ρ' (aX g [(m,some ob)]) b o' x:=by
  intro b o' x ⟨e1,e2,e0⟩;have hb:b<w.heap.size:=f0 w ⟨b,o',none⟩ e1;refine⟨(gb (hold b hb)).trans e1,?_,e0⟩;intro s c' e3;by_cases e:s=m
  .grind
  .grind
 refine⟨ρ',by grind,hmono,?_,by grind,(Below.refl B w).alloc hB _⟩;refine hs.step ?_ hext hmono ?_ ?_ (by grind)
 .grind
 .grind
 .intro s ob' e;have e1:s=m:=by
   rcases iq s m with h|h
   .grind
   .exact h
  subst e1;have e2:ob'=ob:=by simp[cL]at e;exact e.symm
  subst e2;refine⟨some w.heap.size,c,by simp[ρ'],.inr ⟨w.heap.size,arr,rfl,hB,⟨hblk,h1,h2,?_⟩,?_⟩⟩
  .intro i x hi;obtain⟨u,g1,g2⟩:=h3.get _ _ i x hi;rw[oL]at g1;split at g1
   .refine⟨u,by grind,h4 u (by grind),aU.mono hext hmono x u g2⟩
   .cases g1
  grind
def KB(P:Program)(n:Nat)(t:TypeId)(K:Res):Prop:=∃z,mI P t=some z/\lJ P t=true/\K (.ptr (sit n 0) 0) [] [(sit n 0,some ⟨t,0,z⟩)]
def Vk{t:TypeId}(ho:o.op= .alloc t){K:Res}(h:KB P n t K):∃r R W,bB P o E σ n r R W/\K r R W:=by
 obtain⟨z,hz,hz1,hK⟩:=h;refine⟨_,_,_,bB.alloc ?_,hK⟩;intro ρ C V w hE;obtain⟨i,zv,hi,hiz,hsz,hone,rfl⟩:=sT hz hz1;refine⟨.pointer (some ⟨w.heap.size,0,none⟩),zv.cells,0,?_,λ_=>by simp,by grind,?_,hone,λρ' C' h=> ?_⟩
 .unfold execOp;rw[ho];simp[Instr.alloc,zeroValue,typeInfo,hi,hiz,newVar,newRow]
 .rw[ir (by simp)];exact qJ _
 .unfold aU;grind
def RU(n:Nat)(t:TypeId)(x:AV)(K:Res):Prop:=∃l,jR x=some l/\K (.ptr (sit n 0) 0) [] [(sit n 0,some ⟨t,0,l⟩)]
def Yp{t:TypeId}{x:Operand}(ho:o.op= .box t x){K:Res}(h:RU n t (E x) K):∃r R W,bB P o E σ n r R W/\K r R W:=by
 obtain⟨l,hl,hK⟩:=h;refine⟨_,_,_,bB.alloc ?_,hK⟩;intro ρ C V w hE;obtain⟨h1,h2⟩:=zB hl (hE x (by rw[ho];simp[cG]));have h3:=h1.length;refine⟨.pointer (some ⟨w.heap.size,0,none⟩),(bF V x).cells,0,?_,λ_=>by omega,by grind,?_,h2,λρ' C' h=> ?_⟩
 .unfold execOp;rw[ho];simp[Instr.box,newVar,newRow]
 .grind
 .unfold aU;grind
def j5:Nat->List AV->List AV
 |0,_=>[]
 |m+1,z=>z++j5 m z
def IY(P:Program)(n:Nat)(t:TypeId)(len:Nat)(parts:List (Nat×AV))(K:Res):Prop:=∃e z,bu P t=some e/\mI P e=some z/\lJ P e=true/\z≠[]/\len*aj P e<=1000000/\
 ∃l,kS (λi=>some (i*aj P e,aj P e)) (j5 len z) parts=some l/\K (.own (sit n 0) 0 len) [] [(sit n 0,some ⟨e,aj P e,l⟩)]
def yt(z:List AV):∀m,(j5 m z).length=m*z.length
 |0=>by simp[j5]
 |m+1=>by simp[j5,yt z m,lg];omega
def GC(zv:Array Value)(_hz:0<zv.size)(m:Nat):((DJ (m*zv.size)).map (λj=>zv[j % zv.size]!)).toList=(bS m zv.toList).flatten:=by
 apply List.ext_getElem?;induction m with
 |zero=>simp
 |succ m ih=>
  intro i;rw[oP,Rj];by_cases hi:i<zv.size
  .rw[iL (by omega)];have h1:i<(m+1)*zv.size:=by rw[lg];omega
   simp[h1,oJ hi,hi]
  .rw[iU (by simp;omega)];have e1:(i-zv.size) % zv.size=i % zv.size:=by
    conv=>rhs;rw[show i=(i-zv.size)+zv.size by omega,Nat.add_mod_right]
   grind
def zH{ρ:Ren}{C:bG}(zs:List Value):∀m,ao ρ C (j5 m (zs.map ib)) (bS m zs).flatten
 |0=>by rfl
 |m+1=>by
  rw[oP,Rj,j5];have ih:=zH (ρ:=ρ) (C:=C) zs m;refine ao.of _ _ (by simp[ih.length]) λi x hi=> ?_;by_cases h:i<(zs.map ib).length
  .rw[iL h]at hi;rw[iL (by simpa using h)];exact(qJ zs).get _ _ i x hi
  .rw[iU (by omega)]at hi;have:=ih.get _ _ _ x hi;grind
def UE{t:TypeId}{len:Nat}{parts:Array (Nat×Operand)}(ho:o.op= .buildSlice t len parts){K:Res}(h:IY P n t len (parts.toList.map λq=>(q.1,E q.2)) K):∃r R W,bB P o E σ n r R W/\K r R W:=by
 obtain⟨e,z,he,hz,hz1,hne,hlen,l,hl,hK⟩:=h;refine⟨_,_,_,bB.alloc ?_,hK⟩;intro ρ C V w hE;obtain⟨i,zv,hi,hiz,hsz,hone,rfl⟩:=sT hz hz1;have hsize:aj P e=zv.cells.size:=by simp[aj,hi,hsz]
 have hpos:0<zv.cells.size:=by
  rcases oK zv.cells.size with h|h
  .grind
  .exact h
 have hp:∀(j:Nat) q,(parts.toList.map λq=>(q.1,E q.2))[j]? =some q->∃v,(parts.toList.map λq=>(q.1,bF V q.2))[j]? =some (q.1,v)/\aU ρ C q.2 v:=by
  intro j q hj;rw[dw]at hj|-;cases hq:parts.toList[j]? with
  |none=>grind
  |some q'=>
   rw[hq]at hj;simp only[dn,fO]at hj;subst hj;refine⟨bF V q'.2,rfl,hE q'.2 ?_⟩;simp only[cG];grind
 have hones:fF (bS len zv.cells.toList).flatten:=by intro u hu;simp only[List.mem_flatten,Rk]at hu;obtain⟨l',⟨_,rfl⟩,hu⟩:=hu;exact hone u hu
 obtain⟨vs,f1,f2,f3⟩:=zU _ (parts.toList.map λq=>(q.1,bF V q.2)) _ l _ hl (by simp) hp (zH _ len) hones;have hl2:=f2.length;have hl3:l.length=len*aj P e:=by
  have:∀(parts:List (Nat×AV)) (cs res:List AV),kS (λi=>some (i*aj P e,aj P e)) cs parts=some res->res.length=cs.length:=by
   intro parts;induction parts with
   |nil=>intro cs res h;simp[kS]at h;rw[h]
   |cons q parts ih=>
    intro cs res h;unfold kS at h;split at h
    .split at h
     .rw[ih _ _ h,mw]
     .cases h
    .cases h
  rw[this _ _ _ hl,yt,eB,rz,hsize]
 refine⟨.slice (some ⟨w.heap.size,0,none⟩) len len,vs.toArray,len,?_,λh=>by omega,λ_=> ?_,?_,by omega,λρ' C' h=> ?_⟩
 .unfold execOp;rw[ho];have e1:¬(len*aj P e>2^24):=by omega
  have e2:((parts.map λq=>(q.1,bF V q.2)).toList)=(parts.toList.map λq=>(q.1,bF V q.2)):=by simp
  have e3:∀w:World,(sizeOf e).run P w= .ok (aj P e) w:=λw=>by simp[sizeOf,typeInfo,hi,aj]
  have e4:∀w:World,(zeroValue e).run P w= .ok zv w:=λw=>by simp[zeroValue,typeInfo,hi,hiz]
  by_cases h0:len*aj P e=0
  .have hl0:len=0:=by
    rcases DH.1 h0 with h|h
    .exact h
    .omega
   subst hl0;simp only[List.replicate_zero,List.flatten_nil]at f1;simp only[Instr.buildSlice,bo,run_underlying (iw he),b9,e3,Nat.zero_mul,if_neg (show¬(0:Nat)>2^24 by omega),if_true,cK];have e6:(DJ 0).map (λx=>(#[] :Array Value)[x % (#[] :Array Value).size]!)= #[] :=by simp
   rw[e6,e2];rw[f1];simp[newRow]
  .have e5:(DJ (len*aj P e)).map (λj=>zv.cells[j % zv.cells.size]!)=(bS len zv.cells.toList).flatten.toArray:=by rw[hsize];apply kd.1;rw[GC zv.cells hpos len]
   simp only[Instr.buildSlice,bo,run_underlying (iw he),b9,e3,if_neg e1,if_neg h0,e4,cK,e5,e2,f1];simp[newRow]
 .refine⟨?_,?_,?_⟩
  .simp;omega
  .simp;omega
  .have:len<=len*aj P e:=Rl _ (by omega);unfold maxLen;omega
 .grind
 .unfold aU;grind
end
section
variable {P:Program} {o:Oper} {E:Operand->AV} {σ:Nat->Option Ob} {n:Nat}
def v7:∀(l cs:List AV) (off:Nat),off+l.length<=cs.length->∀(i:Nat) x,(c7 cs off l)[i]? =some x->(off<=i/\l[i-off]? =some x)\/((i<off\/off+l.length<=i)/\cs[i]? =some x)
 |[],cs,off,_,i,x,h=>by
  simp only[c7]at h;grind
 |y::l,cs,off,hl,i,x,h=>by
  simp only[iJ]at hl;rcases v7 l (cs.set off y) (off+1) (by simp;omega) i x h with⟨h1,h2⟩|⟨h1,h2⟩
  .grind
  grind
def qq(P:Program)(t:TypeId)(σ:Nat->Option Ob)(a v:AV)(K:Res):Prop:=match a with
 | .ptr s off=>∃ob l,σ s=some ob/\jR v=some l/\l.length=aj P t/\(P.info? t).isSome=true/\off+l.length<=ob.cells.length/\K .undef [s] [(s,some ⟨ob.ty,ob.esz,c7 ob.cells off l⟩)]
 |_=>False
def E1{t:TypeId}{a x:Operand}(ho:o.op= .store t a x){K:Res}(h:qq P t σ (E a) (E x) K):∃r R W,bB P o E σ n r R W/\K r R W:=by
 unfold qq at h;split at h
 case h_2=>exact h.elim
 rename_i s off ea;obtain⟨ob,l,hob,hl,hsz,ht,hoff,hK⟩:=h;refine⟨_,_,_,?_,hK⟩;intro C0 ρ g V w B hs hB hR hn hgn hE;have g1:=hE a (by rw[ho];simp[cG]);rw[ea]at g1;obtain⟨b,c,hρ,hv⟩:=g1;have hgs:g s=some ob:=by grind
 obtain⟨hBb,arr,hO⟩:=hs.at hgs hρ;obtain⟨r1,r2⟩:=zB hl (hE x (by rw[ho];simp[cG]));have hlen:=r1.length;have hle:ob.cells.length<=arr.size:=by
  by_cases hz:ob.esz=0
  .rw[hO.box hz];omega
  .exact(hO.row hz).2.1
 have hst:=run_storeCells_at P b off ob.ty (bF V x).cells.toList 0 arr w hO.blk (by omega) r2;obtain⟨i,hi⟩:=la.1 ht;have hsi:(bF V x).cells.size=i.size:=by
  have:aj P t=i.size:=by simp[aj,hi]
  rw[<-rz,hlen,hsz,this]
 unfold cX execOp;simp only[ho,hv,Instr.storeAt,yM,storeVar,sizeOf,typeInfo,bo,cK,b9,run_program,hi,if_neg (show¬(bF V x).cells.size≠i.size from λh=>h hsi),hst];simp only[ux];generalize hvs:(bF V x).cells.toList=vs at*;have hblk:(w.setRow b (arr.toList.take off++vs++arr.toList.drop (off+vs.length)).toArray).heap[b]? =some (.cells (arr.toList.take off++vs++arr.toList.drop (off+vs.length)).toArray ob.ty (0,0)):=setRow_heap w b arr _ ob.ty _ hO.blk;have hold:∀k,k≠b->(w.setRow b (arr.toList.take off++vs++arr.toList.drop (off+vs.length)).toArray).heap[k]? =w.heap[k]? :=by intro k hk;unfold uy;simp only[yI];rw[if_neg (by grind)]
 have hsize:(w.setRow b (arr.toList.take off++vs++arr.toList.drop (off+vs.length)).toArray).heap.size=w.heap.size:=by unfold uy;simp
 have hlk:∀s',s'≠s->[(s,some (⟨ob.ty,ob.esz,c7 ob.cells off l⟩:Ob))].lookup s'=none:=by intro s' hs';simp[cL,beq_eq_false_iff_ne.2 hs']
 have hup:∀s',s'≠s->aX g [(s,some ⟨ob.ty,ob.esz,c7 ob.cells off l⟩)] s'=g s':=by intro s' hs';unfold aX;rw[hlk s' hs']
 have hmono:∀b' o' x,ak C0 B w ρ g b' o' x->ak C0 B (w.setRow b (arr.toList.take off++vs++arr.toList.drop (off+vs.length)).toArray) ρ (aX g [(s,some ⟨ob.ty,ob.esz,c7 ob.cells off l⟩)]) b' o' x:=by
  intro b' o' x ⟨e1,e2,e0⟩;have hne:b'≠b:=λe=>by grind
  refine⟨(gb (hold b' hne)).trans e1,?_,e0⟩;intro s' c' e3;by_cases e:s'=s
  .grind
  .grind
 refine⟨ρ,λ_ _=>rfl,hmono,?_,by rfl,⟨rfl,rfl,rfl,by omega,by grind⟩⟩;refine hs.step (by grind) (λ_ _ h=>h) hmono ?_ ?_ λk es clock hk=>hold k (mA hk hO.blk)
 .intro s' o' b' c' e1 e2 e3;refine hold b' λe=> ?_;subst e;have:=hs.inj s s' ob o' b' c c' hgs e2 hρ e3;grind
 .intro s' o' e;have e1:s'=s:=by
   rcases iq s' s with h|h
   .grind
   .exact h
  subst e1;have e2:o'=⟨ob.ty,ob.esz,c7 ob.cells off l⟩:=by simp[cL]at e;exact e.symm
  subst e2;have hasz:(arr.toList.take off++vs++arr.toList.drop (off+vs.length)).toArray.size=arr.size:=by simp[ew];omega
  refine⟨some b,c,hρ,.inr ⟨b,_,rfl,hBb,⟨hblk,?_,?_,?_⟩,?_⟩⟩
  .intro hz;rw[hasz,hO.box hz];exact(mw _ _ _).symm
  .intro hz;obtain⟨k1,k2,k3⟩:=hO.row hz;rw[hasz];exact⟨k1,by rw[mw];exact k2,k3⟩
  .intro j y hj;rcases v7 l ob.cells off hoff j y hj with⟨h1,h2⟩|⟨h1,h2⟩
   .obtain⟨u,k1,k2⟩:=r1.get _ _ _ y h2;refine⟨u,?_,r2 u (by grind),aU.mono (λ_ _ h=>h) hmono y u k2⟩;grind
   .obtain⟨u,k1,k3,k2⟩:=hO.cells j y h2;refine⟨u,?_,k3,aU.mono (λ_ _ h=>h) hmono y u k2⟩;grind
  .intro s2 o' c' hne e3 e4;rw[hup s2 hne]at e3;exact hne (hs.inj s' s2 ob o' b c c' hgs e3 hρ e4).symm
def jy(P:Program)(e:TypeId):Bool:=((P.info? e).bind λi=>i.zero.map λz=>z.cells.size==i.size&&decide (0<i.size)&&decide (i.bytes<=1000000)).getD false
def CO(σ:Nat->Option Ob)(e:TypeId)(esz:Nat)(x:AV)(K:Nat->List AV->List Nat->Prop):Prop:=match x with
 | .nil=>K 0 [] []
 | .own s 0 k=>∃ob,σ s=some ob/\ob.ty=e/\ob.esz=esz/\ob.cells.length=k*esz/\K k ob.cells [s]
 |_=>False
def xE(σ:Nat->Option Ob)(esz:Nat)(y:AV)(K:Nat->List AV->List Nat->Prop):Prop:=match y with
 | .nil=>K 0 [] []
 | .p (.sl m cs)=>cs.length=m*esz/\K m (cs.map .p) []
 | .own s o m=>∃ob l,σ s=some ob/\(ob.cells.drop o).take (m*esz)=l/\l.length=m*esz/\K m l [s]
 |_=>False
def um(P:Program)(n:Nat)(t:TypeId)(σ:Nat->Option Ob)(x y:AV)(K:Res):Prop:=∃e,bu P t=some e/\jy P e=true/\
 CO σ e (aj P e) x λk cs R1=>xE σ (aj P e) y λm cs' R2=>k+m<=1000000/\
  K (.own (sit n 0) 0 (k+m)) (R1++R2) (R1.map (·,none)++[(sit n 0,some ⟨e,aj P e,cs++cs'⟩)])
def cj.vals{C:bG}:∀(l:List PV) (b off:Nat),cj C l b off->∃vs:List Value,vs.length=l.length/\(∀(i:Nat) v,vs[i]? =some v->C b (off+i) v)/\bK C l vs/\fF vs
 |[],b,off,_=>⟨[],rfl,(by grind),by rfl,λu hu=>by cases hu⟩
 |x::l,b,off,h=>by
  obtain⟨⟨v,h1,h2,h3⟩,h4⟩:=h;obtain⟨vs,g1,g2,g3,g4⟩:=cj.vals l b (off+1) h4;refine⟨v::vs,by simp[g1],?_,?_,λu hu=>by rcases bh.1 hu with rfl|hu;exact h2;exact g4 u hu⟩
  .grind
  .unfold bK;grind
def ObRep.vals{ρ:Ren}{C:bG}{w:World}{b c:Nat}{ob:Ob}{arr:Array Value}(h:ObRep ρ C w b c ob arr):ao ρ C ob.cells (arr.toList.take ob.cells.length)/\fF (arr.toList.take ob.cells.length):=by
 have hle:ob.cells.length<=arr.size:=by
  by_cases hz:ob.esz=0
  .rw[h.box hz];omega
  .exact(h.row hz).2.1
 refine⟨ao.of _ _ (by simp;omega) λi x hi=> ?_,?_⟩
 .obtain⟨v,h1,_,h3⟩:=h.cells i x hi;grind
 .intro u hu;obtain⟨i,hi,he⟩:=iK hu;simp only[ew,rz]at hi;obtain⟨v,h1,h2,_⟩:=h.cells i ob.cells[i] (by grind);grind
def Wq{C0:bG}{ρ:Ren}{g:Nat->Option Ob}{w:World}{B:Nat}(hs:StR C0 ρ g w B){e:TypeId}{esz:Nat}{x:AV}{v:Value}(hz:esz≠0)(hx:aU ρ (ak C0 B w ρ g) x v){k:Nat}{cs:List AV}{R:List Nat}
  (hd:(x= .nil/\k=0/\cs=[]/\R=[])\/∃s ob,x= .own s 0 k/\R=[s]/\g s=some ob/\ob.ty=e/\ob.esz=esz/\ob.cells.length=k*esz/\cs=ob.cells):
  ∃xs,w.ownsRow B e esz v k xs/\ao ρ (ak C0 B w ρ g) cs xs/\fF xs/\((v.ownBlock=none/\∀s∈R,∀b c,ρ s≠some (some b,c))\/∃s b c ob,R=[s]/\g s=some ob/\ρ s=some (some b,c)/\v.ownBlock=some b):=by
 rcases hd with⟨rfl,rfl,rfl,rfl⟩|⟨s,ob,rfl,rfl,h1,h2,h3,h4,rfl⟩
 .subst hx;exact⟨[],World.ownsRow_nil _ _ _ _,by rfl,(λu hu=>by cases hu),.inl ⟨rfl,by grind⟩⟩
 .obtain⟨q,c,hq,⟨rfl,hv,rfl,_⟩|⟨b,o',c',rfl,hv,h5,h6,h7⟩⟩:=hx
  .subst hv;have hc:ob.cells=[] :=by grind
   rw[hc];exact⟨[],World.ownsRow_nil _ _ _ _,by rfl,(λu hu=>by cases hu),.inl ⟨rfl,by grind⟩⟩
  .obtain⟨rfl,rfl⟩:=h7 rfl;obtain⟨hB,arr,hO⟩:=hs.at h1 hq;obtain⟨r1,r2⟩:=hO.vals;obtain⟨k1,k2,k3⟩:=hO.row (by omega);refine⟨_,⟨?_,.inr ⟨b,c',arr,hv,hB,?_,h5,k3,?_,?_⟩⟩,r1,r2,.inr ⟨s,b,c',ob,rfl,h1,hq,by rw[hv];rfl⟩⟩
   .grind
   .have:=hO.blk;grind
   .rw[k1,h3]
   .rw[h4]
def Vr{C0:bG}{ρ:Ren}{g:Nat->Option Ob}{w:World}{B:Nat}(hs:StR C0 ρ g w B){esz:Nat}{y:AV}{v:Value}(hy:aU ρ (ak C0 B w ρ g) y v){m:Nat}{cs:List AV}
  (hd:(y= .nil/\m=0/\cs=[])\/(∃l,y= .p (.sl m l)/\l.length=m*esz/\cs=l.map .p)\/∃s o ob,y= .own s o m/\g s=some ob/\(ob.cells.drop o).take (m*esz)=cs/\cs.length=m*esz):
  ∃a c us,v= .slice a m c/\us.length=m*esz/\Rd w a us/\(a=none->c=0)/\ao ρ (ak C0 B w ρ g) cs us/\fF us:=by
 rcases hd with⟨rfl,rfl,rfl⟩|⟨l,rfl,hl,rfl⟩|⟨s,oo,ob,rfl,h1,h2,h3⟩
 .exact⟨none,0,[],hy,by simp,(λi u hi=>by simp at hi),λ_=>rfl,by rfl,λu hu=>by cases hu⟩
 .obtain⟨a,c,hv,h1,h2,h3⟩:=hy;cases a with
  |none=>
   obtain⟨rfl,rfl⟩:=h2 rfl;exact⟨none,0,[],hv,hl,(λi u hi=>by simp at hi),λ_=>rfl,by rfl,λu hu=>by cases hu⟩
  |some ad=>
   obtain⟨b,off,sp⟩:=ad;obtain⟨h4,h5⟩:=h3 _ rfl;rcases oK m with hm0|hm0
   .subst hm0;have hl0:_=[] :=ip.1 (by simpa using hl);subst hl0;exact⟨_,c,[],hv,by simp,(λi u hi=>by simp at hi),(by grind),by rfl,λu hu=>by cases hu⟩
   have h4:=h4 hm0;subst h4;obtain⟨vs,k1,k2,k3,k4⟩:=h5.vals;refine⟨_,c,vs,hv,by omega,?_,(by grind),k3.toA,k4⟩;intro i u hi;have:=k2 i u hi;exact⟨b,off,rfl,f0 w ⟨b,_,none⟩ this.1,this.1⟩
 .obtain⟨q,c,hq,⟨rfl,hv,rfl,rfl⟩|⟨b,o',c',rfl,hv,h5,h6,h7⟩⟩:=hy
  .have:cs=[] :=by grind
   subst this;exact⟨none,0,[],hv,by simp,(λi u hi=>by simp at hi),λ_=>rfl,by rfl,λu hu=>by cases hu⟩
  .obtain⟨hB,arr,hO⟩:=hs.at h1 hq;obtain⟨r1,r2⟩:=hO.vals;refine⟨_,c',((arr.toList.take ob.cells.length).drop oo).take (m*esz),hv,?_,?_,(by grind),by rw[<-h2];exact(r1.drop _).take _,λu hu=>r2 u (by grind)⟩
   .have:=r1.length;grind
   .intro i u hi;rw[oL]at hi;split at hi
    .rename_i hlt;have hm:m≠0:=by intro h;subst h;simp at hlt
     have e:=h6 hm;rw[ru,oL]at hi;split at hi
     .refine⟨b,o',rfl,hO.lt,?_⟩;rw[hO.cell];grind
     .cases hi
    .cases hi
def Sz{t t' ty e e':TypeId}(ht:P.underlying t=some (.slice e))(ht':P.underlying t'=some (.slice e'))(s x:Value)(w:World):
  (Builtin.append_ #[t,t'] ty #[s,x]).run P w=(Builtin.append_ #[t,t] ty #[s,x]).run P w:=by
 cases s<;>simp[Builtin.append_,run_underlying ht,run_underlying ht']
def td{x y:Operand}{t t':TypeId}(ht':(bu P t').isSome=true)(ho:o.op= .call {callee:= .builtin .append,args:= #[x,y],argTypes:= #[t,t']}){K:Res}(h:um P n t σ (E x) (E y) K):∃r R W,bB P o E σ n r R W/\K r R W:=by
 obtain⟨e,he,hta,h⟩:=h;unfold jy at hta;have hx:x∈o.op.operands.toList:=by rw[ho];simp[cG,fz]
 have hy:y∈o.op.operands.toList:=by rw[ho];simp[cG,fz]
 cases hi:P.info? e with
 |none=>grind
 |some i=>
 rw[hi]at hta;simp only[kc]at hta;cases hz:i.zero with
 |none=>grind
 |some z=>
 rw[hz]at hta;simp only[dn,mZ,cD,beq_iff_eq,decide_eq_true_eq]at hta;obtain⟨⟨t1,t2⟩,t3⟩:=hta;have hesz:aj P e=i.size:=by simp[aj,hi]
 have hh:∃k cs R1 m cs' R2,((E x= .nil/\k=0/\cs=[]/\R1=[])\/∃s ob,E x= .own s 0 k/\R1=[s]/\σ s=some ob/\ob.ty=e/\ob.esz=aj P e/\ob.cells.length=k*aj P e/\cs=ob.cells)/\
   ((E y= .nil/\m=0/\cs'=[]/\R2=[])\/(∃l,E y= .p (.sl m l)/\l.length=m*aj P e/\cs'=l.map .p/\R2=[])\/∃s o ob,E y= .own s o m/\σ s=some ob/\(ob.cells.drop o).take (m*aj P e)=cs'/\cs'.length=m*aj P e/\R2=[s])/\
   k+m<=1000000/\K (.own (sit n 0) 0 (k+m)) (R1++R2) (R1.map (·,none)++[(sit n 0,some ⟨e,aj P e,cs++cs'⟩)]):=by
  have tl:∀k cs R1,xE σ (aj P e) (E y) (λm cs' R2=>k+m<=1000000/\K (.own (sit n 0) 0 (k+m)) (R1++R2) (R1.map (·,none)++[(sit n 0,some ⟨e,aj P e,cs++cs'⟩)]))->
    ∃m cs' R2,((E y= .nil/\m=0/\cs'=[]/\R2=[])\/(∃l,E y= .p (.sl m l)/\l.length=m*aj P e/\cs'=l.map .p/\R2=[])\/∃s o ob,E y= .own s o m/\σ s=some ob/\(ob.cells.drop o).take (m*aj P e)=cs'/\cs'.length=m*aj P e/\R2=[s])/\
    k+m<=1000000/\K (.own (sit n 0) 0 (k+m)) (R1++R2) (R1.map (·,none)++[(sit n 0,some ⟨e,aj P e,cs++cs'⟩)]):=by
   intro k cs R1 h;unfold xE at h;split at h
   .rename_i ey;exact⟨0,[],[],by grind,h⟩
   .grind
   .grind
   .exact h.elim
  unfold CO at h;split at h
  .rename_i ex;obtain⟨m,cs',R2,h1,h2⟩:=tl _ _ _ h;exact⟨0,[],[],m,cs',R2,by grind,h1,h2⟩
  .obtain⟨ob,g1,g2,g3,g4,g5⟩:=h;obtain⟨m,cs',R2,h1,h2⟩:=tl _ _ _ g5;grind
  .exact h.elim
 obtain⟨k,cs,R1,m,cs',R2,hd1,hd2,hkm,hK⟩:=hh;refine⟨_,_,_,?_,hK⟩;intro C0 ρ g V w B hs hB hR hn hgn hE;have hn:=hn _ (fT n 0);have hgn:=hgn _ (fT n 0);have hcl:∀s,cls s≠n->s≠sit n 0:=λs h e=>h (by rw[e];exact fT n 0);have hd1':(E x= .nil/\k=0/\cs=[]/\R1=[])\/∃s ob,E x= .own s 0 k/\R1=[s]/\g s=some ob/\ob.ty=e/\ob.esz=aj P e/\ob.cells.length=k*aj P e/\cs=ob.cells:=by
  rcases hd1 with h|⟨s,ob,h1,h2,h3,h4⟩
  .exact .inl h
  .grind
 have hd2':(E y= .nil/\m=0/\cs'=[])\/(∃l,E y= .p (.sl m l)/\l.length=m*aj P e/\cs'=l.map .p)\/∃s o ob,E y= .own s o m/\g s=some ob/\(ob.cells.drop o).take (m*aj P e)=cs'/\cs'.length=m*aj P e:=by
  rcases hd2 with⟨h1,h2,h3,_⟩|⟨l,h1,h2,h3,_⟩|⟨s,oo,ob,h1,h2,h3,h4,h5⟩
  .grind
  .grind
  .grind
 obtain⟨xs,hown,q1,q2,hsep⟩:=Wq hs (by omega) (hE x hx) hd1';obtain⟨a,c,us,hyv,p1,p2,p3,p4,p5⟩:=Vr hs (hE y hy) hd2';have hlenx:xs.length=k*aj P e:=hown.1;have hsuff:∀K0:Value->World->Prop,cX P {o with op:= .call {callee:= .builtin .append,args:= #[x,y],argTypes:= #[t,t]}} V w K0->cX P o V w K0:=by intro K0 h;obtain⟨e',he'⟩:=la.1 ht';have hr:=Sz (ty:=o.type) (iw he) (iw he') (bF V x) (bF V y) w;unfold cX execOp at*;simp only[ho,resolve,invoke,builtin,bo,cK,b9,uw,cV,lc]at*;rw[hr];exact h
 refine hsuff _ ?_;refine Ut x y t rfl B e z (aj P e) i.bytes (iw he) (by grind) (by rw[t1,hesz]) (by omega) _ k xs rfl hown a m c us hyv p1 p2 p3 p5 hkm t3 hB ?_;intro v' w' hown' hbel hgrow hblk;obtain⟨q',c',hq',hq2⟩:∃(q':Option Nat) (c':Nat),((q'=none/\v'= .slice none 0 0/\k+m=0/\c'=0/\xs++us=[])\/∃b' arr,q'=some b'/\v'= .slice (some ⟨b',0,none⟩) (k+m) c'/\B<=b'/\w'.heap[b']? =some (.cells arr e (0,0))/\k+m<=c'/\c'<=maxLen/\arr.size=c'*aj P e/\arr.toList.take ((k+m)*aj P e)=xs++us)/\True:=by
  obtain⟨o1,⟨h1,h2⟩|⟨b',c',arr,h1,h2,h3,h4,h5,h6,h7⟩⟩:=hown'
  .exact⟨none,0,.inl ⟨rfl,h1,h2,rfl,ip.1 (by grind)⟩,trivial⟩
  .exact⟨some b',c',by grind,trivial⟩
 clear hq2;generalize hnS:sit n 0=nS at*
 let ρ':Ren:=λs=>if s=nS then some (q',c')else ρ s
 let W:List (Nat×Option Ob):=R1.map (·,none)++[(nS,some ⟨e,aj P e,cs++cs'⟩)]
 show∃ρ'':Ren,(∀s,cls s≠n->ρ'' s=ρ s)/\(∀b o' x,ak C0 B w ρ g b o' x->ak C0 B w' ρ'' (aX g W) b o' x)/\StR C0 ρ'' (aX g W) w' B/\aU ρ'' (ak C0 B w' ρ'' (aX g W)) (.own nS 0 (k+m)) v'/\Below B w w';have hext:∀s q,ρ s=some q->ρ' s=some q:=by intro s q hq;show(if s=nS then _ else _)=_;rw[if_neg (by grind)];exact hq
 have hR1:∀s∈R1,s≠nS:=by
  intro s hs' e;rcases hd1' with⟨_,_,_,h⟩|⟨s',ob,_,h1,h2,_⟩
  .grind
  .grind
 have hlkn:W.lookup nS=some (some ⟨e,aj P e,cs++cs'⟩):=by
  rcases hd1' with⟨_,_,_,h⟩|⟨s',ob,_,h1,h2,_⟩
  .simp[W,h]
  .grind
 have hlkR:∀s,s∈R1->W.lookup s=some none:=by
  intro s hs';rcases hd1' with⟨_,_,_,h⟩|⟨s',ob,_,h1,h2,_⟩
  .grind
  .grind
 have hlk:∀s,s≠nS->s∉R1->W.lookup s=none:=by
  intro s h1 h2;rcases hd1' with⟨_,_,_,h⟩|⟨s',ob,_,h3,_⟩
  .grind
  .grind
 have hupR:∀s,s∈R1->aX g W s=none:=by intro s h;unfold aX;rw[hlkR s h]
 have hup:∀s,s≠nS->s∉R1->aX g W s=g s:=by intro s h1 h2;unfold aX;rw[hlk s h1 h2]
 have hrow:∀s ob b c,g s=some ob->ρ s=some (some b,c)->s∉R1->some b≠(bF V x).ownBlock:=by
  intro s ob b c e1 e2 e3 e4;rcases hsep with⟨h1,_⟩|⟨s',b',c2,ob',h1,h2,h3,h4⟩
  .grind
  .rw[h4]at e4;cases e4;have:=hs.inj s s' ob ob' b c c2 e1 h2 e2 h3;grind
 have hlt:∀s ob b c,g s=some ob->ρ s=some (some b,c)->b<w.heap.size:=by intro s ob b c e1 e2;obtain⟨_,arr,e3⟩:=hs.at e1 e2;exact e3.lt
 have hmono:∀b o' x,ak C0 B w ρ g b o' x->ak C0 B w' ρ' (aX g W) b o' x:=by
  intro b o' x' ⟨e1,e2,e0⟩;have hb:b<w.heap.size:=f0 w ⟨b,o',none⟩ e1;have hnr:some b≠(bF V x).ownBlock:=by
   intro e4;rcases hsep with⟨h1,_⟩|⟨s',b',c2,ob',h1,h2,h3,h4⟩
   .grind
   .grind
  refine⟨(gb (hgrow.block b hb hnr)).trans e1,?_,e0⟩;intro s c2 e3;by_cases e:s=nS
  .subst e;simp only[ρ',if_true]at e3;cases e3;rcases hq' with⟨h1,_⟩|⟨b',arr,h1,h2,_⟩
   .cases h1
   .cases h1;rcases hblk b (by rw[h2];rfl)with h3|h3
    .grind
    .omega
  .grind
 refine⟨ρ',by grind,hmono,?_,?_,hbel⟩
 .refine hs.step ?_ hext hmono ?_ ?_ λk es clock hk=>hgrow.block k (i9 hk) ?_
  rotate_left 3
  .intro e4;rcases hsep with⟨h1,_⟩|⟨s',b',c2,ob',h1,h2,h3,h4⟩
   .grind
   .rw[h4]at e4;cases e4;obtain⟨_,arr,e5⟩:=hs.at h2 h3;exact mA hk e5.blk rfl
  .grind
  .intro s ob' b c2 e1 e2 e3;have e4:s∉R1:=λh=>by grind
   exact hgrow.block b (by grind) (by grind)
  .intro s ob' e1;have e2:s=nS:=by
    by_cases h1:s=nS
    .exact h1
    .grind
   subst e2;rw[hlkn]at e1;simp only[fO]at e1;subst e1;refine⟨q',c',by simp[ρ'],?_⟩;rcases hq' with⟨h1,h2,h3,h4,h5⟩|⟨b',arr,h1,h2,h3,h4,h5,h6,h7,h8⟩
   .refine .inl ⟨h1,by grind,?_,h4⟩;have l1:=q1.length;have l2:=p4.length;have l3:=congrArg fg h5;simp only[dh,iI]at l3;rw[List.append_eq_nil_iff];exact⟨ip.1 (by omega),ip.1 (by omega)⟩
   .refine .inr ⟨b',arr,h1,h3,⟨h4,by grind,λ_=>⟨h7,?_,h6⟩,?_⟩,?_⟩
    .have l1:=q1.length;have l2:=p4.length;rw[h7,dh,<-l1,<-l2,hlenx,p1,<-lg];exact Nat.mul_le_mul_right _ h5
    .intro j u hj;have l1:=q1.length;have hjj:∃v,(xs++us)[j]? =some v/\v.oneCell'=true/\aU ρ (ak C0 B w ρ g) u v:=by
      by_cases hlt2:j<cs.length
      .rw[iL hlt2]at hj;obtain⟨v,g1,g2⟩:=q1.get _ _ j u hj;exact⟨v,by grind,q2 v (by grind),g2⟩
      .rw[iU (by omega)]at hj;obtain⟨v,g1,g2⟩:=p4.get _ _ _ u hj;exact⟨v,by grind,p5 v (by grind),g2⟩
     obtain⟨v,g1,g2,g3⟩:=hjj;refine⟨v,?_,g2,aU.mono hext hmono u v g3⟩;grind
    .intro s' o' c2 hne e3 e4;have e5:s'∉R1:=λh=>by grind
     rcases hblk b' (by rw[h2];rfl)with h9|h9
     .grind
     grind
 .unfold aU;grind
end
def xS(C0:bG)(B:Nat)(w:World):bG:=λb o v=>w.cell? ⟨b,o,none⟩=some v/\(B<=b\/C0 b o v)
def cM{α β:Type}(f:α->Option β):List α->Option (List β)
 |[] =>some []
 |x::l=>match f x,cM f l with
  |some y,some m=>some (y::m)
  |_,_=>none
def bD{α β:Type}(f:α->List β):List α->List β
 |[] =>[]
 |x::l=>f x++bD f l
def cq:Nat->(Nat->Option Ob)->AV->Option PV
 |_,_,.p x=>some x
 |_,_,.nil=>some (.sl 0 [])
 |d+1,σ,.own s o m=>(σ s).bind λob=>(cM (cq d σ) ob.cells).map λl=> .sl m ((l.drop o).take (m*ob.esz))
 |d+1,σ,.ptr s off=>(σ s).bind λob=>(cM (cq d σ) ob.cells).map λl=> .pro l off
 |d+1,σ,.agg l=>(cM (cq d σ) l).map .agg
 |d+1,σ,.fn f a b=>(cM (cq d σ) a).bind λx=>(cM (cq d σ) b).map λy=> .fn f x y
 |_,_,_=>none
def bc:Nat->(Nat->Option Ob)->AV->List Nat
 |0,_,_=>[]
 |d+1,σ,.own s _ _=>s::(match σ s with|some ob=>bD (bc d σ) ob.cells|none=>[])
 |d+1,σ,.ptr s _=>s::(match σ s with|some ob=>bD (bc d σ) ob.cells|none=>[])
 |d+1,σ,.agg l=>bD (bc d σ) l
 |d+1,σ,.fn _ a b=>bD (bc d σ) a++bD (bc d σ) b
 |_,_,_=>[]
def BL(d:Nat)(σ:Nat->Option Ob)(x:PV):cq d σ (.p x)=some x:=by cases d<;>rfl
def pU(d:Nat)(σ:Nat->Option Ob):∀(l:List PV),cM (cq d σ) (l.map .p)=some l
 |[] =>rfl
 |x::l=>by simp only[cV,cM,BL,pU d σ l]
def JH(d:Nat)(σ:Nat->Option Ob)(x:PV):bc d σ (.p x)=[] :=by cases d<;>rfl
def kN(d:Nat)(σ:Nat->Option Ob):∀(l:List PV),bD (bc d σ) (l.map .p)=[]
 |[] =>rfl
 |x::l=>by simp only[cV,bD,JH,kN d σ l,List.append_nil]
def jl{α β:Type}{f:α->List β}{x:α}{y:β}:∀{l:List α},x∈l->y∈f x->y∈bD f l
 |a::l,h,hy=>by
  rcases bh.1 h with rfl|h
  .exact f7 _ hy
  .exact fq _ (jl h hy)
def jM{α β:Type}{f:α->Option β}:∀{l:List α} {m:List β},cM f l=some m->l.length=m.length/\∀(i:Nat) x,l[i]? =some x->∃y,m[i]? =some y/\f x=some y
 |[],m,h=>by simp[cM]at h;grind
 |a::l,m,h=>by
  unfold cM at h;split at h
  .rename_i y r h1 h2;obtain⟨g1,g2⟩:=jM h2;grind
  .cases h
section
variable {P:Program}
def vw{C0:bG}{ρ:Ren}{g σ:Nat->Option Ob}{w:World}{B:Nat}(hs:StR C0 ρ g w B)(T:bG)(S:Nat->Prop)(hfull:∀b o v,ak C0 B w ρ g b o v->T b o v)(hT:∀s ob b c,S s->g s=some ob->ρ s=some (some b,c)->B<=b->∀o v,w.cell? ⟨b,o,none⟩=some v->T b o v):∀(d:Nat) (x:AV) (y:PV) (v:Value),cq d σ x=some y->(∀s∈bc d σ x,S s/\g s=σ s)->aU ρ (ak C0 B w ρ g) x v->a8 T y v:=by
 intro d;induction d with
 |zero=>
  intro x y v h hr hx;unfold cq at h;split at h<;>first|(cases h;done)|skip
  .cases h;exact a8.mono hfull _ v hx
  .cases h;unfold aU at hx;unfold a8;grind
  all_goals (rename_i e;cases e)
 |succ d ih=>
  have ihL:∀(l:List AV) (m:List PV) (vs:List Value),cM (cq d σ) l=some m->(∀s∈bD (bc d σ) l,S s/\g s=σ s)->ao ρ (ak C0 B w ρ g) l vs->bK T m vs:=by
   intro l m vs h hr hv;obtain⟨h1,h2⟩:=jM h;refine bK.of _ _ (by rw[<-h1];exact hv.length) λi y hi=> ?_;have hlt:i<l.length:=by rw[h1];grind
   obtain⟨y',h3,h4⟩:=h2 i l[i] (by grind);rw[hi]at h3;cases h3;obtain⟨v,h5,h6⟩:=hv.get _ _ i l[i] (by grind);exact⟨v,h5,ih _ _ v h4 (λs hs'=>hr s (jl (by grind) hs')) h6⟩
  have ihC:∀(s b c:Nat) (ob:Ob) (m:List PV),S s->g s=some ob->ρ s=some (some b,c)->cM (cq d σ) ob.cells=some m->(∀s∈bD (bc d σ) ob.cells,S s/\g s=σ s)->cj T m b 0:=by
   intro s b c ob m hS h1 h2 h3 h4;obtain⟨hBb,arr,hO⟩:=hs.at h1 h2;obtain⟨g1,g2⟩:=jM h3;refine cj.of _ _ _ λi y hi=> ?_;have hlt:i<ob.cells.length:=by rw[g1];grind
   obtain⟨y',h5,h6⟩:=g2 i ob.cells[i] (by grind);rw[hi]at h5;cases h5;obtain⟨v,k1,k2,k3⟩:=hO.cells i ob.cells[i] (by grind);refine⟨v,?_,k2,ih _ _ v h6 (λs hs'=>h4 s (jl (by grind) hs')) k3⟩;refine hT s ob b c hS h1 h2 hBb _ _ ?_;rw[Nat.zero_add,hO.cell];exact k1
  intro x y v h hr hx;unfold cq at h;split at h
  .cases h;exact a8.mono hfull _ v hx
  .cases h;unfold aU at hx;unfold a8;grind
  .rename_i σ _ _ _ d' s o m e;cases e;simp only[kE,iT]at h;obtain⟨ob,h1,l,h2,rfl⟩:=h;have hg:g s=some ob:=(hr s (by simp[bc])).2.trans h1;have hSs:=(hr s (by simp[bc])).1;have hr2:∀s'∈bD (bc d σ) ob.cells,S s'/\g s'=σ s':=λs' hs'=>hr s' (by simp only[bc,h1];grind);unfold a8;obtain⟨q,c,hq,⟨rfl,hv,rfl,rfl⟩|⟨b,o',c',rfl,hv,h5,h6,h7⟩⟩:=hx
   .grind
   .refine⟨_,c',hv,h5,(by grind),λad e=> ?_⟩;cases e;by_cases hm:m=0
    .subst hm;simp;trivial
    .have e:=h6 hm;have:=((ihC s b c ob l hSs hg hq h2 hr2).drop o').take (m*ob.esz);grind
  .rename_i σ _ _ _ d' s off e;simp only[kE,iT]at h;obtain⟨ob,h1,l,h2,rfl⟩:=h;have hg:g s=some ob:=(hr s (by simp[bc])).2.trans h1;have hSs:=(hr s (by simp[bc])).1;have hr2:∀s'∈bD (bc d σ) ob.cells,S s'/\g s'=σ s':=λs' hs'=>hr s' (by simp only[bc,h1];grind);unfold aU at hx;unfold a8;grind
  .rename_i d' l e;cases e;simp only[iT]at h;obtain⟨m,h2,rfl⟩:=h;obtain⟨vs,h3,h4,h5⟩:=hx;exact⟨vs,h3,ihL l m vs h2 (λs hs'=>hr s hs') h4,h5⟩
  .rename_i d' f a b e;cases e;simp only[kE,iT]at h;obtain⟨x1,h1,x2,h2,rfl⟩:=h;obtain⟨vs1,vs2,h3,h4,h5⟩:=hx;exact⟨vs1,vs2,h3,ihL a x1 vs1 h1 (λs hs'=>hr s (f7 _ hs')) h4,ihL b x2 vs2 h2 (λs hs'=>hr s (fq _ hs')) h5⟩
  .cases h
def fy(P:Program)(f:FuncId):Bool:=((P.funcs[f]?).map λfn=> !(fn.name== "runtime.NumGoroutine")&& !fn.body.isNone).getD false
def Sat(P:Program)(fr:Bool)(f:FuncId)(A:List PV)(r:PV):Prop:=fy P f=true/\
 ∀(C:bG) (w:World) (vs:List Value),(∀b o v,C b o v->w.cell? ⟨b,o,none⟩=some v)->bK C A vs->
  Calls P f vs.toArray w λe w'=>∃v,e= .returned v/\a8 (λb o x=>(fr=false/\C b o x)\/(w.heap.size<=b/\w'.cell? ⟨b,o,none⟩=some x)) r v/\Below w.heap.size w w'
def kI{f:FuncId}(h:fy P f=true)(args:Array Value)(w:World):(callFunc f args).run P w= .ok (.enter f args) w:=by
 unfold fy at h;cases hf:P.funcs[f]? with
 |none=>grind
 |some fn=>
  rw[hf]at h;simp only[dn,mZ,cD,Rg]at h;simp only[callFunc,bo,run_program,b9,hf,h.1,h.2,oI,if_false,cK]
structure Lent(C:bG)(w:World)(b c:Nat)(ty:TypeId)(esz:Nat)(cells:List PV)(arr:Array Value):Prop where
 blk:w.heap[b]? =some (.cells arr ty (0,0))
 box:esz=0->arr.size=cells.length
 row:esz≠0->arr.size=c*esz/\cells.length<=arr.size/\c<=maxLen
 cells:∀(i:Nat) x,cells[i]? =some x->∃v,arr[i]? =some v/\v.oneCell'=true/\a8 C x v
def MV(n:Option Nat)(b c:Nat):Value:=match n with
 |none=> .pointer (some ⟨b,0,none⟩)
 |some n=> .slice (some ⟨b,0,none⟩) n c
def oH(P:Program)(f:FuncId)(n:Option Nat)(A:List PV)(ty:TypeId)(esz:Nat)(cells cells':List PV):Prop:=fy P f=true/\cells'.length=cells.length/\
 (∀(C:bG) (w:World) (b c:Nat) (arr:Array Value) (vs:List Value),(∀b' o v,C b' o v->w.cell? ⟨b',o,none⟩=some v/\b'≠b)->Lent C w b c ty esz cells arr->(∀m,n=some m->m<=c)->bK C A vs->
   Calls P f (MV n b c::vs).toArray w λe w'=>∃arr',e= .returned Go.undef/\Lent C w' b c ty esz cells' arr'/\w.grownBy w' (some b))/\
 (n=some 0->∀(C:bG) (w:World) (vs:List Value),(∀b' o v,C b' o v->w.cell? ⟨b',o,none⟩=some v)->bK C A vs->
   Calls P f (.slice none 0 0::vs).toArray w λe w'=>e= .returned Go.undef/\Below w.heap.size w w')
def Ay(P:Program)(σ:Nat->Option Ob)(f:FuncId)(avs:List AV)(K:Res):Prop:=match avs with
 | .ptr s 0::rest=>∃ty cells,σ s=some ⟨ty,0,cells.map .p⟩/\∃A cells',bJ rest=some A/\oH P f none A ty 0 cells cells'/\K .undef [s] [(s,some ⟨ty,0,cells'.map .p⟩)]
 | .own s 0 n::rest=>∃ty esz cells,σ s=some ⟨ty,esz,cells.map .p⟩/\esz≠0/\∃A cells',bJ rest=some A/\oH P f (some n) A ty esz cells cells'/\K .undef [s] [(s,some ⟨ty,esz,cells'.map .p⟩)]
 |_=>False
def YQ(P:Program)(σ:Nat->Option Ob)(f:FuncId)(avs:List AV)(K:Res):Prop:=
 ∃A,cM (cq 3 σ) avs=some A/\∃fr r,Sat P fr f A r/\(((fr=true\/bJ avs=some A)/\K (.p r) (bD (bc 3 σ) avs) [])\/K (.p r) (bD (bc 3 σ) avs) ((bD (bc 3 σ) avs).map (·,none)))
def rq(σ:Nat->Option Ob):List AV->List PV->List Nat->Prop
 |[],[],R=>R=[]
 |x::l,y::m,R=>∃R1 R2,R=R1++R2/\((y= .junk/\R1=[])\/(cq 3 σ x=some y/\R1=bc 3 σ x))/\rq σ l m R2
 |_,_,_=>False
def YP(P:Program)(σ:Nat->Option Ob)(f:FuncId)(avs:List AV)(K:Res):Prop:=∃A R r,rq σ avs A R/\Sat P true f A r/\K (.p r) R []
def mC(P:Program)(σ:Nat->Option Ob)(f:FuncId)(avs:List AV)(K:Res):Prop:=YQ P σ f avs K\/Ay P σ f avs K\/YP P σ f avs K
def xZ(P:Program)(σ:Nat->Option Ob)(fv:AV)(args:List AV)(K:Res):Prop:=match fv with
 | .fn (.func f) first caps=>mC P σ f (first++args++caps) K
 | .p (.fn (.func f) first caps)=>mC P σ f (first.map .p++args++caps.map .p) K
 |_=>False
variable {o:Oper} {E:Operand->AV} {σ:Nat->Option Ob} {n:Nat}
def ao.append{ρ:Ren}{C:bG}{l m:List AV}{vs us:List Value}(h:ao ρ C l vs)(k:ao ρ C m us):ao ρ C (l++m) (vs++us):=
 ao.of _ _ (by simp[h.length,k.length]) λi x hi=>by
  have hl:=h.length;by_cases hlt:i<l.length
  .rw[iL hlt]at hi;rw[iL (by omega)];exact h.get _ _ i x hi
  .rw[iU (by omega)]at hi;rw[iU (by omega),hl];exact k.get _ _ _ x hi
def Fb{s n0:Nat}{nn:Option Nat}{f:FuncId}{A:List PV}{ty esz:Nat}{cells cells':List PV}(hob:σ s=some ⟨ty,esz,cells.map .p⟩)(hS:oH P f nn A ty esz cells cells')
  (hkind:(nn=none/\esz=0)\/(nn=some n0/\esz≠0))
  (hrun:∀(ρ:Ren) (C:bG) (V:Nat->Value) (w:World),(∀x∈o.op.operands.toList,aU ρ C (E x) (bF V x))->∃v us,(execOp (bF V) o).run P w= .ok (.enter f (v::us).toArray) w/\bK C A us/\
    aU ρ C (match nn with|none=> .ptr s 0|some n0=> .own s 0 n0) v):bB P o E σ n .undef [s] [(s,some ⟨ty,esz,cells'.map .p⟩)] :=by
 obtain⟨_,hlen,hcall,hnil⟩:=hS;intro C0 ρ g V w B hs hB hR hn hgn hE;obtain⟨v,us,hr,hA,hv⟩:=hrun ρ _ V w hE;have hgs:g s=some ⟨ty,esz,cells.map .p⟩:=by grind
 unfold cX;rw[hr];dsimp only;have hlk:∀s',s'≠s->[(s,some (⟨ty,esz,cells'.map .p⟩:Ob))].lookup s'=none:=by intro s' hs';simp[cL,beq_eq_false_iff_ne.2 hs']
 have hup:∀s',s'≠s->aX g [(s,some ⟨ty,esz,cells'.map .p⟩)] s'=g s':=by intro s' hs';unfold aX;rw[hlk s' hs']
 have hat:∀s' o',[(s,some (⟨ty,esz,cells'.map .p⟩:Ob))].lookup s'=some (some o')->s'=s/\o'=⟨ty,esz,cells'.map .p⟩:=by
  intro s' o' e;have e1:s'=s:=by
   rcases iq s' s with h|h
   .grind
   .exact h
  subst e1;simp[cL]at e;exact⟨rfl,e.symm⟩
 have hlt:∀s ob b c,g s=some ob->ρ s=some (some b,c)->b<w.heap.size:=by intro s ob b c e1 e2;obtain⟨_,arr,e3⟩:=hs.at e1 e2;exact e3.lt
 have real:∀b c,ρ s=some (some b,c)->v=MV nn b c->(∀m,nn=some m->m<=c)->
   Calls P f (v::us).toArray w λe w''=>∃v,e= .returned v/\∃ρ':Ren,(∀s,cls s≠n->ρ' s=ρ s)/\(∀b o' x,ak C0 B w ρ g b o' x->ak C0 B w'' ρ' (aX g [(s,some ⟨ty,esz,cells'.map .p⟩)]) b o' x)/\
    StR C0 ρ' (aX g [(s,some ⟨ty,esz,cells'.map .p⟩)]) w'' B/\aU ρ' (ak C0 B w'' ρ' (aX g [(s,some ⟨ty,esz,cells'.map .p⟩)])) .undef v/\Below B w w'':=by
  intro b c hρ hv hnc;obtain⟨hBb,arr,hO⟩:=hs.at hgs hρ;subst hv;have hL:Lent (ak C0 B w ρ g) w b c ty esz cells arr:=by refine⟨hO.blk,λh=>by simpa using hO.box h,λh=>by simpa using hO.row h,λi x hi=> ?_⟩;obtain⟨u,h1,h2,h3⟩:=hO.cells i (.p x) (by grind);unfold aU at h3;grind
  refine(hcall _ w b c arr us (λb' o' x hx=>⟨hx.1,λe=>by subst e;have:=hx.2.1 s c hρ;grind⟩) hL hnc hA).mono ?_;rintro e w' ⟨arr',rfl,hL',hG⟩;have hold:∀k,k<w.heap.size->k≠b->w'.heap[k]? =w.heap[k]? :=λk h1 h2=>hG.block k h1 (by grind);have hmono:∀b' o' x,ak C0 B w ρ g b' o' x->ak C0 B w' ρ (aX g [(s,some ⟨ty,esz,cells'.map .p⟩)]) b' o' x:=by
   intro b' o' x ⟨e1,e2,e0⟩;have hne:b'≠b:=λe=>by grind
   refine⟨(gb (hold b' (f0 w ⟨b',o',none⟩ e1) hne)).trans e1,?_,e0⟩;intro s' c' e3;by_cases e:s'=s
   .grind
   .grind
  refine⟨_,rfl,ρ,λ_ _=>rfl,hmono,?_,by rfl,⟨hG.os,hG.tape,hG.output,hG.size,by grind⟩⟩;refine hs.step (by grind) (λ_ _ h=>h) hmono ?_ ?_ λk es clock hk=>hold k (i9 hk) (mA hk hO.blk)
  .intro s' o' b' c' e1 e2 e3;refine hold b' (by grind) λe=> ?_;subst e;have:=hs.inj s s' _ o' b' c c' hgs e2 hρ e3;grind
  .intro s' o' e;obtain⟨rfl,rfl⟩:=hat s' o' e;refine⟨some b,c,hρ,.inr ⟨b,arr',rfl,hBb,⟨hL'.blk,λh=>by simpa using hL'.box h,λh=>by simpa using hL'.row h,?_⟩,?_⟩⟩
   .intro i x hi;rw[dw]at hi;cases hc:cells'[i]? with
    |none=>grind
    |some y=>
     rw[hc]at hi;simp only[dn,fO]at hi;subst hi;obtain⟨u,h1,h2,h3⟩:=hL'.cells i y hc;exact⟨u,h1,h2,by exact a8.mono hmono y u h3⟩
   .intro s2 o' c' hne e3 e4;rw[hup s2 hne]at e3;exact hne (hs.inj s' s2 _ o' b c c' hgs e3 hρ e4).symm
 rcases hkind with⟨rfl,he⟩|⟨rfl,he⟩
 .obtain⟨b,c,hρ,hv⟩:=hv;exact real b c hρ hv (by grind)
 .obtain⟨q,c,hρ,⟨rfl,hv,rfl,_⟩|⟨b,o',c',rfl,hv,h5,h6,h7⟩⟩:=hv
  .subst hv;have hcn:cells'=[] :=by
    obtain⟨q,c2,h1,⟨_,h2|h2⟩|⟨b,arr,h2,_⟩⟩:=hs.ob s _ hgs
    rotate_left
    .grind
    rotate_left
    .have:(cells.map AV.p)=[] :=h2.2.1;have:cells.length=0:=by simpa using congrArg fg this
     grind
    .grind
   refine(hnil rfl _ w us (λb' o' x hx=>hx.1) hA).mono ?_;rintro e w' ⟨rfl,hb⟩;have hold:∀k,k<w.heap.size->w'.heap[k]? =w.heap[k]? :=λk hk=>hb.block k hk;have hmono:∀b' o' x,ak C0 B w ρ g b' o' x->ak C0 B w' ρ (aX g [(s,some ⟨ty,esz,cells'.map .p⟩)]) b' o' x:=by
    intro b' o' x ⟨e1,e2,e0⟩;refine⟨(gb (hold b' (f0 w ⟨b',o',none⟩ e1))).trans e1,?_,e0⟩;intro s' c' e3;by_cases e:s'=s
    .grind
    .grind
   refine⟨_,rfl,ρ,λ_ _=>rfl,hmono,?_,by rfl,hb.mono hB⟩;refine hs.step (by grind) (λ_ _ h=>h) hmono (by grind) ?_ (by grind);intro s' o' e;obtain⟨rfl,rfl⟩:=hat s' o' e;obtain⟨q,c2,h1,⟨_,h2|h2⟩|⟨b,arr,h2,_⟩⟩:=hs.ob s' _ hgs
   .grind
   .grind
   grind
  .obtain⟨rfl,rfl⟩:=h7 rfl;exact real b c' hρ hv (by grind)
def Vb{c:Call}{f:Operand}{fid:FuncId}{first caps:List AV}(hfm:f∈o.op.operands.toList)(ham:∀x∈c.args.toList,x∈o.op.operands.toList)(ho:o.op= .call c)(hc:c.callee= .value f)
  (hfv:∀ρ C v,aU ρ C (E f) v->∃vs1 vs2:List Value,v= .func (.func fid) vs1.toArray vs2.toArray/\ao ρ C first vs1/\ao ρ C caps vs2) {K:Res}
  (h:Ay P σ fid (first++c.args.toList.map E++caps) K):∃r R W,bB P o E σ n r R W/\K r R W:=by
 have hrun:fy P fid=true->∀(ρ:Ren) (C:bG) (V:Nat->Value) (w:World),(∀x∈o.op.operands.toList,aU ρ C (E x) (bF V x))->∃us,(execOp (bF V) o).run P w= .ok (.enter fid us.toArray) w/\ao ρ C (first++c.args.toList.map E++caps) us:=by
  intro hok ρ C V w hE;obtain⟨vs1,vs2,hv,q1,q2⟩:=hfv _ _ _ (hE f hfm);have hargs:∀l:List Operand,(∀x∈l,x∈o.op.operands.toList)->ao ρ C (l.map E) (l.map (bF V)):=by
   intro l;induction l with
   |nil=>intro _;rfl
   |cons x l ih=>
    unfold ao;grind
  refine⟨vs1++c.args.toList.map (bF V)++vs2,?_,(q1.append (hargs _ ham)).append q2⟩;unfold execOp;rw[ho];have e2:vs1.toArray++oQ (bF V) c.args++vs2.toArray=(vs1++c.args.toList.map (bF V)++vs2).toArray:=by apply kd.1;simp
  simp only[resolve,hc,hv,oR,bo,cK,b9,invoke,kI hok,e2]
 generalize first++c.args.toList.map E++caps=avs at h hrun
 unfold Ay at h;split at h
 .obtain⟨ty,cells,hob,A,cells',hA,hS,hK⟩:=h;refine⟨_,_,_,Fb (n0:=0) hob hS (by grind) ?_,hK⟩;intro ρ C V w hE;obtain⟨us,h1,h2⟩:=hrun hS.1 ρ C V w hE;obtain⟨v,r,rfl,h3,h4⟩:=h2;exact⟨v,r,h1,nQ hA h4,h3⟩
 .rename_i s k rest;obtain⟨ty,esz,cells,hob,he,A,cells',hA,hS,hK⟩:=h;refine⟨_,_,_,Fb (n0:=k) hob hS (by grind) ?_,hK⟩;intro ρ C V w hE;obtain⟨us,h1,h2⟩:=hrun hS.1 ρ C V w hE;obtain⟨v,r,rfl,h3,h4⟩:=h2;exact⟨v,r,h1,nQ hA h4,h3⟩
 grind
def rq.rep{P:Program}{C0:bG}{ρ:Ren}{g σ:Nat->Option Ob}{w:World}{B:Nat}(hs:StR C0 ρ g w B):∀{l:List AV} {A:List PV} {R:List Nat} {vs:List Value},rq σ l A R->(∀s∈R,g s=σ s)->ao ρ (ak C0 B w ρ g) l vs->bK (xS C0 B w) A vs
 |[],[],_,vs,_,_,hv=>by unfold ao at hv;subst hv;rfl
 |x::l,y::m,R,vs,h,hR,hv=>by
  obtain⟨R1,R2,rfl,h1,h2⟩:=h;obtain⟨v,r,rfl,h3,h4⟩:=hv;refine⟨v,r,rfl,?_,rq.rep (P:=P) hs h2 (λs hs'=>hR s (fq _ hs')) h4⟩;rcases h1 with⟨rfl,_⟩|⟨h1,rfl⟩
  .trivial
  .exact vw hs (xS C0 B w) (λ_=>True) (λb o v h=>⟨h.1,h.2.2⟩) (λs ob b c _ _ _ hb o v h=>⟨h,.inl hb⟩) 3 x y v h1 (λs hs'=>⟨trivial,hR s (f7 _ hs')⟩) h3
 |[],_::_,_,_,h,_,_=>h.elim
 |_::_,[],_,_,h,_,_=>h.elim
def XH{c:Call}{f:Operand}(ho:o.op= .call c)(hc:c.callee= .value f){K:Res}(h:xZ P σ (E f) (c.args.toList.map E) K):∃r R W,bB P o E σ n r R W/\K r R W:=by
 have hfm:f∈o.op.operands.toList:=by rw[ho];simp[cG,fz,hc]
 have ham:∀x∈c.args.toList,x∈o.op.operands.toList:=by intro x hx;rw[ho];simp[cG,fz];exact .inr (by grind)
 have key:∀(fid:FuncId) (first caps:List AV),(∀ρ C v,aU ρ C (E f) v->∃vs1 vs2:List Value,v= .func (.func fid) vs1.toArray vs2.toArray/\ao ρ C first vs1/\ao ρ C caps vs2)->
   mC P σ fid (first++c.args.toList.map E++caps) K->∃r R W,bB P o E σ n r R W/\K r R W:=by
  intro fid first caps hfv hgo
  refine yP hgo ?_ (λhgo=>yP hgo (λhgo=>Vb hfm ham ho hc hfv hgo) ?_)
  rotate_left
  .rintro⟨A,R,r,hA,⟨hok,hcalls⟩,hK⟩;refine⟨_,_,_,?_,hK⟩;intro C0 ρ g V w B hs hB hR hn hgn hE;obtain⟨vs1,vs2,hv,q1,q2⟩:=hfv _ _ _ (hE f hfm);have hargs:∀l:List Operand,(∀x∈l,x∈o.op.operands.toList)->ao ρ (ak C0 B w ρ g) (l.map E) (l.map (bF V)):=by
    intro l;induction l with
    |nil=>intro _;rfl
    |cons x l ih=>
     unfold ao;grind
   have hall:=(q1.append (hargs _ ham)).append q2;have hrun:(execOp (bF V) o).run P w= .ok (.enter fid (vs1++c.args.toList.map (bF V)++vs2).toArray) w:=by
    unfold execOp;rw[ho];have e2:vs1.toArray++oQ (bF V) c.args++vs2.toArray=(vs1++c.args.toList.map (bF V)++vs2).toArray:=by apply kd.1;simp
    simp only[resolve,hc,hv,oR,bo,cK,b9,invoke,kI hok,e2]
   unfold cX;rw[hrun];dsimp only;refine(hcalls (xS C0 B w) w _ (λb o v h=>h.1) (hA.rep (P:=P) hs hR hall)).mono ?_;rintro e w' ⟨v,rfl,hr,hbel⟩;have hlive:∀s ob b c,g s=some ob->ρ s=some (some b,c)->b<w.heap.size:=by intro s ob b c e1 e2;obtain⟨_,arr,e3⟩:=hs.at e1 e2;exact e3.lt
   have hold:∀b,b<w.heap.size->w'.heap[b]? =w.heap[b]? :=λb hb=>hbel.block b hb;have hmono:∀b o' x,ak C0 B w ρ g b o' x->ak C0 B w' ρ g b o' x:=by intro b o' x ⟨e1,e2,e0⟩;exact⟨(gb (hold b (f0 w ⟨b,o',none⟩ e1))).trans e1,e2,e0⟩
   refine⟨v,rfl,ρ,λ_ _=>rfl,hmono,?_,?_,hbel.mono hB⟩
   .exact hs.step (by grind) (λ_ _ h=>h) hmono (by grind) (by grind) (by grind)
   .refine a8.mono ?_ r v hr;rintro b o' x (⟨h1,h2⟩|⟨h1,h2⟩)
    .cases h1
    .refine⟨h2,?_,by grind⟩;intro s c' e3;show g s=none;cases hgs:g s with
     |none=>rfl
     |some ob=>grind
  rintro⟨A,hA,fr,r,hsat,hcase⟩;have sim:∀W:List (Nat×Option Ob),(W=[]/\(fr=true\/bJ (first++c.args.toList.map E++caps)=some A))\/W=(bD (bc 3 σ) (first++c.args.toList.map E++caps)).map (·,none)->bB P o E σ n (.p r) (bD (bc 3 σ) (first++c.args.toList.map E++caps)) W:= ?_
  .grind
  intro W hW;intro C0 ρ g V w B hs hB hR hn hgn hE;obtain⟨vs1,vs2,hv,q1,q2⟩:=hfv _ _ _ (hE f hfm);have hargs:∀l:List Operand,(∀x∈l,x∈o.op.operands.toList)->ao ρ (ak C0 B w ρ g) (l.map E) (l.map (bF V)):=by
   intro l;induction l with
   |nil=>intro _;rfl
   |cons x l ih=>
    unfold ao;grind
  have hall:=(q1.append (hargs _ ham)).append q2;obtain⟨hok,hcalls⟩:=hsat;have hrun:(execOp (bF V) o).run P w= .ok (.enter fid (vs1++c.args.toList.map (bF V)++vs2).toArray) w:=by
   unfold execOp;rw[ho];have e2:vs1.toArray++oQ (bF V) c.args++vs2.toArray=(vs1++c.args.toList.map (bF V)++vs2).toArray:=by apply kd.1;simp
   simp only[resolve,hc,hv,oR,bo,cK,b9,invoke,kI hok,e2]
  have hlive:∀s ob b c,g s=some ob->ρ s=some (some b,c)->b<w.heap.size:=by intro s ob b c e1 e2;obtain⟨_,arr,e3⟩:=hs.at e1 e2;exact e3.lt
  have hnone:∀s x,W.lookup s=some x->W.lookup s=some none:=by
   intro s x h;rcases hW with⟨rfl,_⟩|rfl
   .simp at h
   .have key:∀l:List Nat,(l.map (·,(none:Option Ob))).lookup s=some x->x=none:=by
     intro l;induction l with
     |nil=>grind
     |cons k l ih=>
      grind
    grind
  have hdrop:∀b o' x,ak C0 B w ρ g b o' x->ak C0 B w ρ (aX g W) b o' x:=by
   intro b o' x ⟨e1,e2,e0⟩;refine⟨e1,λs c' e3=> ?_,e0⟩;unfold aX;split
   .grind
   .grind
  unfold cX;rw[hrun];dsimp only;have fin:∀(C:bG),(∀b o v,C b o v->w.cell? ⟨b,o,none⟩=some v)->bK C A (vs1++c.args.toList.map (bF V)++vs2)->(fr=false->∀b o v,C b o v->ak C0 B w ρ (aX g W) b o v)->
    Calls P fid (vs1++c.args.toList.map (bF V)++vs2).toArray w λe w''=>∃v,e= .returned v/\∃ρ':Ren,(∀s,cls s≠n->ρ' s=ρ s)/\(∀b o' x,ak C0 B w ρ g b o' x->ak C0 B w'' ρ' (aX g W) b o' x)/\StR C0 ρ' (aX g W) w'' B/\aU ρ' (ak C0 B w'' ρ' (aX g W)) (.p r) v/\Below B w w'':=by
   intro C hC hrep hCC;refine(hcalls C w _ hC hrep).mono ?_;rintro e w' ⟨v,rfl,hr,hbel⟩;have hold:∀b,b<w.heap.size->w'.heap[b]? =w.heap[b]? :=λb hb=>hbel.block b hb;have hmono:∀b o' x,ak C0 B w ρ (aX g W) b o' x->ak C0 B w' ρ (aX g W) b o' x:=by intro b o' x ⟨e1,e2,e0⟩;exact⟨(gb (hold b (f0 w ⟨b,o',none⟩ e1))).trans e1,e2,e0⟩
   refine⟨v,rfl,ρ,λ_ _=>rfl,by grind,?_,?_,hbel.mono hB⟩
   .refine hs.step (by grind) (λ_ _ h=>h) (by grind) ?_ (by grind) (by grind);grind
   .refine a8.mono ?_ r v hr;rintro b o' x (⟨h1,h2⟩|⟨h1,h2⟩)
    .grind
    .refine⟨h2,?_,by grind⟩;intro s c' e3;unfold aX;split
     .grind
     .cases hgs:g s with
      |none=>rfl
      |some ob=>grind
  have hsnap:∀(T:bG),(∀b o v,ak C0 B w ρ g b o v->T b o v)->(∀s ob b c2,s∈bD (bc 3 σ) (first++c.args.toList.map E++caps)->g s=some ob->ρ s=some (some b,c2)->B<=b->∀o v,w.cell? ⟨b,o,none⟩=some v->T b o v)->
    bK T A (vs1++c.args.toList.map (bF V)++vs2):=by
   intro T hT1 hT2;obtain⟨g1,g2⟩:=jM hA;refine bK.of _ _ (by rw[<-g1];exact hall.length) λi y hi=> ?_;have hlt:i<(first++c.args.toList.map E++caps).length:=by rw[g1];grind
   obtain⟨y',h5,h6⟩:=g2 i _ (dA hlt);rw[hi]at h5;cases h5;obtain⟨v,k1,k2⟩:=hall.get _ _ i _ (dA hlt);exact⟨v,k1,vw hs T (λs=>s∈bD (bc 3 σ) (first++c.args.toList.map E++caps)) hT1 hT2 3 _ _ v h6 (λs hs'=>⟨jl (by grind) hs',hR s (jl (by grind) hs')⟩) k2⟩
  rcases hW with⟨rfl,h⟩|rfl
  .cases fr with
   |true=>exact fin (xS C0 B w) (λb o v h=>h.1) (hsnap _ (λb o v h=>⟨h.1,h.2.2⟩) (λs ob b c _ _ _ hb o v h=>⟨h,.inl hb⟩)) (by grind)
   |false=>
    rcases h with h|h
    .cases h
    .exact fin (ak C0 B w ρ g) (λb o v h=>h.1) (nQ h hall) (by grind)
  .refine fin (ak C0 B w ρ (aX g ((bD (bc 3 σ) (first++c.args.toList.map E++caps)).map (·,none)))) (λb o v h=>h.1) (hsnap _ hdrop ?_) (by grind);intro s ob b c' hsm e1 e2 hb o' v e3;have hmem:∀l:List Nat,s∈l->(l.map (·,(none:Option Ob))).lookup s=some none:=by
    intro l;induction l with
    |nil=>grind
    |cons k l ih=>
     grind
   refine⟨e3,λs' c2 e4=> ?_,.inl hb⟩;unfold aX;split
   .grind
   .cases hg':g s' with
    |none=>rfl
    |some ob'=>
     have:=hs.inj s s' ob ob' b c' c2 e1 hg' e2 e4;grind
 unfold xZ at h;split at h
 .rename_i fid first caps e
  refine key fid first caps (λρ C v hv=> ?_) h
  rw[e]at hv;exact hv
 .rename_i fid first caps e
  refine key fid _ _ (λρ C v hv=> ?_) h;rw[e]at hv;obtain⟨vs1,vs2,h1,h2,h3⟩:=hv;exact⟨vs1,vs2,h1,h2.toA,h3.toA⟩
 grind
end
def ue(v:Value)(us:List Value):Value:=match us with
 |[] =>v
 |us=> .tuple (v::us).toArray
def lM(C:bG)(N:Nat)(q:Option Nat)(w':World):bG:=λb o x=>C b o x\/(N<=b/\q≠some b/\w'.cell? ⟨b,o,none⟩=some x)
def uo(P:Program)(f:FuncId)(A:List PV)(ty esz:Nat)(cells:List PV)(m:Nat)(ys:List PV):Prop:=fy P f=true/\esz≠0/\
 ∀(C:bG) (w:World) (vs:List Value),(∀b o v,C b o v->w.cell? ⟨b,o,none⟩=some v)->bK C A vs->
  Calls P f vs.toArray w λe w'=>∃v us q c,e= .returned (ue v us)/\Below w.heap.size w w'/\bK (lM C w.heap.size q w') ys us/\
   ((q=none/\v= .slice none 0 0/\m=0/\cells=[]/\c=0)\/∃b arr,q=some b/\v= .slice (some ⟨b,0,none⟩) m c/\m<=c/\w.heap.size<=b/\w'.heap[b]? =some (.cells arr ty (0,0))/\
     arr.size=c*esz/\cells.length<=arr.size/\c<=maxLen/\∀(i:Nat) x,cells[i]? =some x->∃u,arr[i]? =some u/\u.oneCell'=true/\a8 (lM C w.heap.size q w') x u)
def xj(n m:Nat)(ys:List PV):AV:=match ys with
 |[] => .own (sit n 0) 0 m
 |ys=> .tup (.own (sit n 0) 0 m::ys.map .p)
def C9(P:Program)(f:FuncId)(A:List PV)(ty esz:Nat)(cells:List PV)(m:Nat)(ys:List PV):Prop:=fy P f=true/\esz≠0/\
 ∀(C:bG) (w:World) (vs:List Value),(∀b o v,C b o v->w.cell? ⟨b,o,none⟩=some v)->bK C A vs->
  Calls P f (Value.slice none 0 0::vs).toArray w λe w'=>∃v us q c,e= .returned (ue v us)/\Below w.heap.size w w'/\bK (lM C w.heap.size q w') ys us/\
   ((q=none/\v= .slice none 0 0/\m=0/\cells=[]/\c=0)\/∃b arr,q=some b/\v= .slice (some ⟨b,0,none⟩) m c/\m<=c/\w.heap.size<=b/\w'.heap[b]? =some (.cells arr ty (0,0))/\
     arr.size=c*esz/\cells.length<=arr.size/\c<=maxLen/\∀(i:Nat) x,cells[i]? =some x->∃u,arr[i]? =some u/\u.oneCell'=true/\a8 (lM C w.heap.size q w') x u)
def wU(P:Program)(n:Nat)(f:FuncId)(avs:List AV)(K:Res):Prop:=
 ∃A ty esz cells m ys,((bJ avs=some A/\uo P f A ty esz cells m ys)\/∃r,avs= .nil::r/\bJ r=some A/\C9 P f A ty esz cells m ys)/\K (xj n m ys) [] [(sit n 0,some ⟨ty,esz,cells.map .p⟩)]
def xX(P:Program)(n:Nat)(fv:AV)(args:List AV)(K:Res):Prop:=match fv with
 | .fn (.func f) first caps=>wU P n f (first++args++caps) K
 | .p (.fn (.func f) first caps)=>wU P n f (first.map .p++args++caps.map .p) K
 |_=>False
section
variable {P:Program} {o:Oper} {E:Operand->AV} {σ:Nat->Option Ob} {n:Nat}
def bK.MT{ρ:Ren}{C:bG}:∀{l:List PV} {vs:List Value},bK C l vs->ao ρ C (l.map .p) vs
 |[],vs,h=>by exact h
 |x::l,vs,h=>by
  obtain⟨v,r,rfl,h2,h3⟩:=h;exact⟨v,r,rfl,by exact h2,bK.MT h3⟩
def Va{c:Call}{f:Operand}(ho:o.op= .call c)(hc:c.callee= .value f){K:Res}(h:xX P n (E f) (c.args.toList.map E) K):∃r R W,bB P o E σ n r R W/\K r R W:=by
 have hfm:f∈o.op.operands.toList:=by rw[ho];simp[cG,fz,hc]
 have ham:∀x∈c.args.toList,x∈o.op.operands.toList:=by intro x hx;rw[ho];simp[cG,fz];exact .inr (by grind)
 have key:∀(fid:FuncId) (first caps:List AV),(∀ρ C v,aU ρ C (E f) v->∃vs1 vs2:List Value,v= .func (.func fid) vs1.toArray vs2.toArray/\ao ρ C first vs1/\ao ρ C caps vs2)->
   wU P n fid (first++c.args.toList.map E++caps) K->∃r R W,bB P o E σ n r R W/\K r R W:=by
  intro fid first caps hfv ⟨A,ty,esz,cells,m,ys,hA,hK⟩
  obtain⟨hok,he,hcalls⟩:fy P fid=true/\esz≠0/\∀(ρ:Ren) (C:bG) (w:World) (vs:List Value),(∀b o v,C b o v->w.cell? ⟨b,o,none⟩=some v)->ao ρ C (first++c.args.toList.map E++caps) vs->
   Calls P fid vs.toArray w λe w'=>∃v us q c,e= .returned (ue v us)/\Below w.heap.size w w'/\bK (lM C w.heap.size q w') ys us/\
    ((q=none/\v= .slice none 0 0/\m=0/\cells=[]/\c=0)\/∃b arr,q=some b/\v= .slice (some ⟨b,0,none⟩) m c/\m<=c/\w.heap.size<=b/\w'.heap[b]? =some (.cells arr ty (0,0))/\
      arr.size=c*esz/\cells.length<=arr.size/\c<=maxLen/\∀(i:Nat) x,cells[i]? =some x->∃u,arr[i]? =some u/\u.oneCell'=true/\a8 (lM C w.heap.size q w') x u):=by
   rcases hA with⟨hA,h1,h2,h3⟩|⟨r,hr,hA,h1,h2,h3⟩
   .exact⟨h1,h2,λρ C w vs hC h=>h3 C w vs hC (nQ hA h)⟩
   .refine⟨h1,h2,λρ C w vs hC h=> ?_⟩;rw[hr]at h;obtain⟨v,vs',rfl,h4,h5⟩:=h;subst h4;exact h3 C w vs' hC (nQ hA h5)
  refine⟨_,_,_,?_,hK⟩;intro C0 ρ g V w B hs hB hR hn hgn hE;have hn:=hn _ (fT n 0);have hgn:=hgn _ (fT n 0);have hcl:∀s,cls s≠n->s≠sit n 0:=λs h e=>h (by rw[e];exact fT n 0);obtain⟨vs1,vs2,hv,q1,q2⟩:=hfv _ _ _ (hE f hfm);have hargs:∀l:List Operand,(∀x∈l,x∈o.op.operands.toList)->ao ρ (ak C0 B w ρ g) (l.map E) (l.map (bF V)):=by
   intro l;induction l with
   |nil=>intro _;rfl
   |cons x l ih=>
    unfold ao;grind
  have hall:=(q1.append (hargs _ ham)).append q2;have hrun:(execOp (bF V) o).run P w= .ok (.enter fid (vs1++c.args.toList.map (bF V)++vs2).toArray) w:=by
   unfold execOp;rw[ho];have e2:vs1.toArray++oQ (bF V) c.args++vs2.toArray=(vs1++c.args.toList.map (bF V)++vs2).toArray:=by apply kd.1;simp
   simp only[resolve,hc,hv,oR,bo,cK,b9,invoke,kI hok,e2]
  have hlive:∀s ob b c,g s=some ob->ρ s=some (some b,c)->b<w.heap.size:=by intro s ob b c e1 e2;obtain⟨_,arr,e3⟩:=hs.at e1 e2;exact e3.lt
  unfold cX;rw[hrun];dsimp only;refine(hcalls ρ (ak C0 B w ρ g) w _ (λb o v h=>h.1) hall).mono ?_;rintro e w' ⟨v,us,q,c,rfl,hbel,hys,hrow⟩;have hqb:∀b,q=some b->w.heap.size<=b:=by
   intro b hb;rcases hrow with⟨h1,_⟩|⟨b',arr,h1,_,_,h4,_⟩
   .grind
   .grind
  have hold:∀b,b<w.heap.size->w'.heap[b]? =w.heap[b]? :=λb hb=>hbel.block b hb;unfold xj;generalize hnS:sit n 0=nS at*
  let ρ':Ren:=λs=>if s=nS then some (q,c)else ρ s
  have hρn:ρ' nS=some (q,c):=if_pos rfl;have hρs:∀s,s≠nS->ρ' s=ρ s:=by grind
  have hup:∀s,s≠nS->aX g [(nS,some ⟨ty,esz,cells.map .p⟩)] s=g s:=by intro s h;unfold aX;simp[cL,beq_eq_false_iff_ne.2 h]
  have hmono:∀b o' x,ak C0 B w ρ g b o' x->ak C0 B w' ρ' (aX g [(nS,some ⟨ty,esz,cells.map .p⟩)]) b o' x:=by
   intro b o' x ⟨e1,e2,e0⟩;have hlt:=f0 w ⟨b,o',none⟩ e1;refine⟨(gb (hold b hlt)).trans e1,λs c' e3=> ?_,e0⟩;by_cases hsn:s=nS
   .grind
   .grind
  have hkeep:∀b o' x,lM (ak C0 B w ρ g) w.heap.size q w' b o' x->ak C0 B w' ρ' (aX g [(nS,some ⟨ty,esz,cells.map .p⟩)]) b o' x:=by
   rintro b o' x (h1|⟨h1,h2,h3⟩)
   .grind
   .refine⟨h3,λs c' e3=> ?_,by grind⟩;by_cases hsn:s=nS
    .grind
    .rw[hup s hsn];cases hgs:g s with
     |none=>rfl
     |some ob=>grind
  refine⟨_,rfl,ρ',by grind,hmono,?_,?_,hbel.mono hB⟩
  .refine hs.step (by grind) (by grind) hmono ?_ ?_ (by grind)
   .grind
   .intro s o' hso;have hsn:s=nS:=by
     rcases iq s nS with h|h
     .grind
     .exact h
    subst hsn;simp[cL]at hso;subst hso;refine⟨q,c,hρn,?_⟩;rcases hrow with⟨h1,h2,h3,h4,h5⟩|⟨b,arr,h1,h2,h3,h4,h5,h6,h7,h8,h9⟩
    .grind
    .refine .inr ⟨b,arr,h1,by grind,⟨h5,by grind,by grind,λi x hi=> ?_⟩,λs' o2 c' hne hg' hr'=> ?_⟩
     .rw[dw]at hi;cases hci:cells[i]? with
      |none=>grind
      |some y=>
       rw[hci]at hi;simp only[dn,fO]at hi;subst hi;obtain⟨u,k1,k2,k3⟩:=h9 i y hci;exact⟨u,k1,k2,by exact a8.mono hkeep y u k3⟩
     grind
  .have hown:aU ρ' (ak C0 B w' ρ' (aX g [(nS,some ⟨ty,esz,cells.map .p⟩)])) (.own nS 0 m) v:=by
    unfold aU;refine⟨q,c,hρn,?_⟩;rcases hrow with⟨h1,h2,h3,_⟩|⟨b,arr,h1,h2,h3,_⟩
    .grind
    .grind
   have hys2:ao ρ' (ak C0 B w' ρ' (aX g [(nS,some ⟨ty,esz,cells.map .p⟩)])) (ys.map .p) us:=(bK.mono hkeep ys us hys).MT;cases ys with
   |nil=>
    have:us=[] :=by have:=hys.length;simpa using this
    subst this;exact hown
   |cons y ys=>
    have hne:us≠[] :=λh=>by have:=hys.length;grind
    cases us with
    |nil=>grind
    |cons u us=>
     refine⟨v::u::us,rfl,?_⟩;unfold ao;grind
 unfold xX at h;split at h
 .rename_i fid first caps e
  refine key fid first caps (λρ C v hv=> ?_) h
  rw[e]at hv;exact hv
 .rename_i fid first caps e
  refine key fid _ _ (λρ C v hv=> ?_) h;rw[e]at hv;obtain⟨vs1,vs2,h1,h2,h3⟩:=hv;exact⟨vs1,vs2,h1,h2.toA,h3.toA⟩
 grind
end
section
variable {P:Program} {o:Oper} {E:Operand->AV} {σ:Nat->Option Ob} {n:Nat}
def MU(P:Program)(n:Nat)(t:TypeId)(x y:AV)(K:Res):Prop:=∃(k1 k2:IntKind) (m:Nat) (e:TypeId) (z:List AV) (i:TypeInfo),x= .p (.int k1 m)/\y= .p (.int k2 m)/\bu P t=some e/\P.info? e=some i/\
 mI P e=some z/\lJ P e=true/\z≠[]/\m*aj P e<=1000000/\m*i.bytes<=1000000000/\K (.own (sit n 0) 0 m) [] [(sit n 0,some ⟨e,aj P e,j5 m z⟩)]
def F9{t e:TypeId}{i:TypeInfo}{zv:Value}{m:Nat}{k1 k2:IntKind}(he:bu P t=some e)(hi:P.info? e=some i)(hiz:i.zero=some zv)(hsz:aj P e=zv.cells.size)(hpos:0<zv.cells.size)(h1:m*aj P e<=1000000)(h2:m*i.bytes<=1000000000)(w:World):
  (Instr.makeSlice t (.int k1 m) (.int k2 m)).run P w= .ok (.slice (some ⟨w.heap.size,0,none⟩) m m) (w.alloc (.cells (bS m zv.cells.toList).flatten.toArray e)):=by
 have hm:m<=1000000:=by have:m<=m*aj P e:=Rl _ (by omega);omega
 have wl:d6.wrap (m:Int)=m:=by rw[IntKind.wrap_i64];omega
 have n1:¬(m:Int)<0:=by omega
 have n2:¬(281474976710656<(i.bytes:Int)*m):=by have h3:((m*i.bytes:Nat):Int)<=((1000000000:Nat):Int):=Int.ofNat_le.2 h2;rw[ur,Int.natCast_mul]at h3;omega
 have n4:¬(m:Int)<m:=by omega
 have e3:∀w:World,(sizeOf e).run P w= .ok (aj P e) w:=λw=>by simp[sizeOf,typeInfo,hi,aj]
 have e4:∀w:World,(zeroValue e).run P w= .ok zv w:=λw=>by simp[zeroValue,typeInfo,hi,hiz]
 have e5:(if m*aj P e=0 then #[]else(DJ (m*aj P e)).map (λj=>zv.cells[j % zv.cells.size]!))=(bS m zv.cells.toList).flatten.toArray:=by
  split
  .rename_i h0;have:m=0:=by
    rcases DH.1 h0 with h|h
    .exact h
    .omega
   grind
  .rw[hsz];apply kd.1;rw[GC zv.cells hpos m]
 rw[<-e5];by_cases h0:m*aj P e=0
 .have:m=0:=by
   rcases DH.1 h0 with h|h
   .exact h
   .omega
  subst this;have w0:d6.wrap 0=0:=by simpa using wl
  simp[w0,Instr.makeSlice,asInt,asIntOf,run_underlying (iw he),typeInfo,hi,askRoom,newRow,sizeOf];grind
 .simp[Instr.makeSlice,asInt,asIntOf,run_underlying (iw he),typeInfo,hi,wl,n1,n2,n4,askRoom,e3,e4,h0,newRow]
def Wi{t:TypeId}{a b:Operand}(ho:o.op= .makeSlice t a b){K:Res}(h:MU P n t (E a) (E b) K):∃r R W,bB P o E σ n r R W/\K r R W:=by
 obtain⟨k1,k2,m,e,z,i0,ha,hb,he,hi0,hz,hz1,hne,h1,h2,hK⟩:=h;refine⟨_,_,_,bB.alloc ?_,hK⟩;intro ρ C V w hE;obtain⟨i,zv,hi,hiz,hsz,hone,rfl⟩:=sT hz hz1;rw[hi0]at hi;cases hi;have hsize:aj P e=zv.cells.size:=by simp[aj,hi0,hsz]
 have hpos:0<zv.cells.size:=by
  rcases oK zv.cells.size with h|h
  .grind
  .exact h
 have hones:fF (bS m zv.cells.toList).flatten:=by intro u hu;simp only[List.mem_flatten,Rk]at hu;obtain⟨l',⟨_,rfl⟩,hu⟩:=hu;exact hone u hu
 have va:bF V a= .int k1 m:=by have:=hE a (by rw[ho];simp[cG]);rw[ha]at this;unfold aU at this;unfold a8 at this;exact this
 have vb:bF V b= .int k2 m:=by have:=hE b (by rw[ho];simp[cG]);rw[hb]at this;unfold aU at this;unfold a8 at this;exact this
 have hlen:(bS m zv.cells.toList).flatten.length=m*aj P e:=by rw[hsize];simp
 have hl2:(j5 m (zv.cells.toList.map ib)).length=m*aj P e:=by rw[yt,eB,rz,hsize]
 refine⟨.slice (some ⟨w.heap.size,0,none⟩) m m,(bS m zv.cells.toList).flatten.toArray,m,?_,λh=>by grind,λ_=> ?_,?_,hones,λρ' C' h=> ?_⟩
 .unfold execOp;rw[ho];dsimp only;rw[va,vb];have:=F9 (k1:=k1) (k2:=k2) he hi0 hiz hsize hpos h1 h2 w;simp[this]
 .refine⟨?_,?_,?_⟩
  .omega
  .grind
  .have:m<=m*aj P e:=Rl _ (by omega);unfold maxLen;omega
 .rw[ir (by grind)];exact zH _ m
 .unfold aU;grind
def yj{α:Type}(g0:Nat->Nat)(x:α)(s:Nat):∀l:List Nat,(l.map λi=>(g0 i,x)).lookup s=if s∈l.map g0 then some x else none
 |[] =>rfl
 |i::l=>by
  rw[cV,dJ,yj g0 x s l,cV];grind
def bB.fam{r:AV}{ob iob:Ob}{g0:Nat->Nat}{m0:Nat}(hi1:iob.esz≠0)(hi2:iob.cells=[])(hg0:∀i,cls (g0 i)=n)(hg1:∀i,g0 i≠sit n 0)
  (h:∀(ρ:Ren) (C:bG) (V:Nat->Value) (w:World),(∀x∈o.op.operands.toList,aU ρ C (E x) (bF V x))->
  ∃v arr c,(execOp (bF V) o).run P w= .ok (.value v) (w.alloc (.cells arr ob.ty))/\(ob.esz=0->arr.size=ob.cells.length)/\(ob.esz≠0->arr.size=c*ob.esz/\ob.cells.length<=arr.size/\c<=maxLen)/\
   fF arr.toList/\∀(ρ':Ren) (C':bG),ρ' (sit n 0)=some (some w.heap.size,c)->(∀i,i<m0->ρ' (g0 i)=some (none,0))->ao ρ' C' ob.cells (arr.toList.take ob.cells.length)/\aU ρ' C' r v):
  bB P o E σ n r [] ((sit n 0,some ob)::(bO m0).map λi=>(g0 i,some iob)):=by
 intro C0 ρ g V w B hs hB _ hn hgn hE;have hcl:∀s,cls s≠n->s≠sit n 0:=λs h e=>h (by rw[e];exact fT n 0);have hcl2:∀s,s∈(bO m0).map g0->cls s=n:=by grind
 have hmem:∀i,i<m0->g0 i∈(bO m0).map g0:=by grind
 have hm:cls (sit n 0)=n:=fT n 0;generalize sit n 0=m at*;obtain⟨v,arr,c,hrun,h1,h2,h4,h5⟩:=h ρ _ V w hE;unfold cX;rw[hrun];dsimp only;have hblk:(w.alloc (.cells arr ob.ty)).heap[w.heap.size]? =some (.cells arr ob.ty (0,0)):=heap_alloc_new w _;generalize hM:(bO m0).map g0=M at*
 let ρ':Ren:=λs=>if s=m then some (some w.heap.size,c)else if s∈M then some (none,0)else ρ s
 have hext:∀s q,ρ s=some q->ρ' s=some q:=by intro s q hq;show(if s=m then _ else _)=_;rw[if_neg (by grind),if_neg (by grind)];exact hq
 have hlt:∀s ob b c,g s=some ob->ρ s=some (some b,c)->b<w.heap.size:=by intro s ob b c e1 e2;obtain⟨_,arr,e3⟩:=hs.at e1 e2;exact e3.lt
 have hold:∀b,b<w.heap.size->(w.alloc (.cells arr ob.ty)).heap[b]? =w.heap[b]? :=λb hb=>Below.heap_alloc w _ b hb;generalize hW:((m,some ob)::(bO m0).map λi=>(g0 i,some iob))=W;have hlk:∀s,W.lookup s=if s=m then some (some ob)else if s∈M then some (some iob)else none:=by
  intro s;rw[<-hW,dJ,yj,hM];by_cases e:s=m
  .grind
  .grind
 have hup:∀s,s≠m->s∉M->aX g W s=g s:=by intro s h1 h2;unfold aX;rw[hlk,if_neg h1,if_neg h2]
 have hmono:∀b o' x,ak C0 B w ρ g b o' x->ak C0 B (w.alloc (.cells arr ob.ty)) ρ' (aX g W) b o' x:=by
  intro b o' x ⟨e1,e2,e0⟩;have hb:b<w.heap.size:=f0 w ⟨b,o',none⟩ e1;refine⟨(gb (hold b hb)).trans e1,?_,e0⟩;intro s c' e3;by_cases e:s=m
  .grind
  .grind
 have k5:=λC'=>h5 ρ' C' (by simp[ρ']) (λi hi=>by grind)
 refine⟨ρ',λs hs=> ?_,hmono,?_,(k5 _).2,(Below.refl B w).alloc hB _⟩
 .grind
 refine hs.step ?_ hext hmono ?_ ?_ (by grind)
 .grind
 .grind
 .intro s ob' e;rw[hlk]at e;by_cases e1:s=m
  .rw[if_pos e1]at e;subst e1;have e2:ob'=ob:=by cases e;rfl
   subst e2;refine⟨some w.heap.size,c,by simp[ρ'],.inr ⟨w.heap.size,arr,rfl,hB,⟨hblk,h1,h2,?_⟩,?_⟩⟩
   .intro i x hi;obtain⟨u,g1,g2⟩:=(k5 _).1.get _ _ i x hi;rw[oL]at g1;split at g1
    .exact⟨u,by grind,h4 u (by grind),g2⟩
    .cases g1
   grind
  .rw[if_neg e1]at e;by_cases e':s∈M
   .rw[if_pos e']at e;cases e;exact⟨none,0,by grind,by grind⟩
   grind
def JX(P:Program)(n:Nat)(t:TypeId)(x y:AV)(K:Res):Prop:=∃(g0:Nat->Nat) (ity:TypeId) (wd:Nat) (k1 k2:IntKind) (m:Nat) (e:TypeId) (i:TypeInfo),x= .p (.int k1 m)/\y= .p (.int k2 m)/\bu P t=some e/\P.info? e=some i/\
 mI P e=some [.nil]/\lJ P e=true/\wd≠0/\(∀i,cls (g0 i)=n)/\(∀i,g0 i≠sit n 0)/\m<=1000000/\m*i.bytes<=1000000000/\
 K (.own (sit n 0) 0 m) [] ((sit n 0,some ⟨e,1,(bO m).map λj=> .own (g0 j) 0 0⟩)::(bO m).map λj=>(g0 j,some ⟨ity,wd,[]⟩))
def TP{α:Type}(v:α):∀m,(bS m [v]).flatten=bS m v
 |0=>rfl
 |m+1=>by simp_all
def Uz{t:TypeId}{a b:Operand}(ho:o.op= .makeSlice t a b){K:Res}(h:JX P n t (E a) (E b) K):∃r R W,bB P o E σ n r R W/\K r R W:=by
 obtain⟨g0,ity,wd,k1,k2,m,e,i0,ha,hb,he,hi0,hz,hz1,hwd,hg0,hg1,h1,h2,hK⟩:=h;refine⟨_,_,_,bB.fam (iob:=⟨ity,wd,[]⟩) hwd rfl hg0 hg1 ?_,hK⟩;intro ρ C V w hE;obtain⟨i,zv,hi,hiz,hsz,hone,hzv⟩:=sT hz hz1;rw[hi0]at hi;cases hi;have hnil:zv.cells.toList=[.slice none 0 0] :=by have h3:ao ρ C (zv.cells.toList.map ib) zv.cells.toList:=qJ _;rw[show zv.cells.toList.map ib=[.nil]from hzv.symm]at h3;unfold ao at h3;obtain⟨v,r,h4,h5,h6⟩:=h3;unfold ao at h6;unfold aU at h5;rw[h4,h5,h6]
 have hsize:aj P e=zv.cells.size:=by simp[aj,hi0,hsz]
 have hs1:zv.cells.size=1:=by rw[<-rz,hnil];rfl
 have va:bF V a= .int k1 m:=by have:=hE a (by rw[ho];simp[cG]);rw[ha]at this;unfold aU at this;unfold a8 at this;exact this
 have vb:bF V b= .int k2 m:=by have:=hE b (by rw[ho];simp[cG]);rw[hb]at this;unfold aU at this;unfold a8 at this;exact this
 have hlist:(bS m zv.cells.toList).flatten=bS m (.slice none 0 0):=by rw[hnil,TP]
 refine⟨.slice (some ⟨w.heap.size,0,none⟩) m m,(bS m zv.cells.toList).flatten.toArray,m,?_,(by grind),λ_=> ?_,?_,λρ' C' h h'=>⟨?_,?_⟩⟩
 .unfold execOp;rw[ho];dsimp only;rw[va,vb];have:=F9 (k1:=k1) (k2:=k2) he hi0 hiz hsize (by omega) (by grind) h2 w;simp[this]
 .rw[hlist];refine⟨by simp,by simp,?_⟩;unfold maxLen;omega
 .intro u hu;simp only[List.mem_flatten,Rk]at hu;obtain⟨l',⟨_,rfl⟩,hu⟩:=hu;exact hone u hu
 .rw[hlist];refine ao.of _ _ (by simp) λj x hj=> ?_;rw[dw]at hj;by_cases hjm:j<m
  .rw[List.getElem?_range hjm]at hj;unfold aU;grind
  grind
 .unfold aU;grind
end
abbrev Sto:=Nat->Option Ob
def AOp(P:Program)(n:Nat)(o:Oper)(E:Operand->AV)(σ:Nat->Option Ob)(K:Res):Prop:=match o.op with
 | .move x=>K (E x) [] []
 | .assign x=>K (E x) [] []\/(E x= .nil/\K (.p (.sl 0 [])) [] [])
 | .pick c a b=>rJ (E c) (E a) (E b) λr=>K r [] []
 | .alloc t=>KB P n t K
 | .box t x=>RU n t (E x) K
 | .build t parts=>J0 P t (parts.toList.map λq=>(q.1,E q.2)) λr=>K r [] []
 | .buildSlice t len parts=>IY P n t len (parts.toList.map λq=>(q.1,E q.2)) K
 | .load t x=>(match E x with
   | .p (.pro cs off)=>CM P t cs off λr=>K (.p r) [] []
   | .ptr s off=>∃ob,σ s=some ob/\nq P t ob.cells off λr=>K r [s] []
   |_=>False)
 | .store t a x=>qq P t σ (E a) (E x) K
 | .nilCheck x=>xt (E x)=true/\K (E x) [] []
 | .binOp op t x y _=>rm P op t (E x) (E y) λr=>K r [] []
 | .unOp op _ x=>unA op (E x) λr=>K r [] []
 | .convert s d x=>xV P s d (E x) λr=>K r [] []
 | .makeFunc f first caps=>K (.fn f (first.toList.map E) (caps.toList.map E)) [] []
 | .slice t x lo hi none=>qr P t (E x) (loA E lo 0) (loA E hi (qv (E x))) λr=>K r [] []
 | .fieldAddr t x f=>Bd P t f (E x) λr=>K r [] []
 | .field t x f=>BZ P t f (E x) λr=>K r [] []
 | .indexAddr t x i=>wy P t (E x) (E i) λr=>K r [] []
 | .extract x i=>uS (E x) i λr=>K r [] []
 | .call {callee:= .value f,args, .. }=>xZ P σ (E f) (args.toList.map E) K\/xX P n (E f) (args.toList.map E) K
 | .call {callee:= .builtin .len,args:=⟨[x]⟩,argTypes:=⟨[t]⟩}=>xu P t (E x) λr=>K r [] []
 | .call {callee:= .builtin .append,args:=⟨[x,y]⟩,argTypes:=⟨[t,t']⟩}=>(bu P t').isSome=true/\um P n t σ (E x) (E y) K
 | .call {callee:= .builtin .min,args:=⟨[x,y]⟩, .. }=>mmA min (E x) (E y) λr=>K r [] []
 | .call {callee:= .builtin .max,args:=⟨[x,y]⟩, .. }=>mmA max (E x) (E y) λr=>K r [] []
 | .makeSlice t a b=>MU P n t (E a) (E b) K\/JX P n t (E a) (E b) K
 |_=>False
def zd{P:Program}{n:Nat}{o:Oper}{E:Operand->AV}{σ:Nat->Option Ob}{K:Res}(h:AOp P n o E σ K):∃r R W,bB P o E σ n r R W/\K r R W:=by
 have lift:∀{K':AV->Prop} {R:List Nat},(∃r,bB P o E σ n r R []/\K' r)->(∀r,K' r->K r R [])->∃r R W,bB P o E σ n r R W/\K r R W:=by grind
 unfold AOp at h;split at h
 .rename_i x ho;exact⟨_,_,_,z7 (.inl ho),h⟩
 .rename_i x ho;exact yP h (λh=>⟨_,_,_,z7 (.inr ho),h⟩) (λh=>⟨_,_,_,VL (.inr ho) h.1,h.2⟩)
 .rename_i ho;exact lift (WQ ho h) λ_ h=>h
 .rename_i ho;exact Vk ho h
 .rename_i ho;exact Yp ho h
 .rename_i ho;exact lift (Vd ho h) λ_ h=>h
 .rename_i ho;exact UE ho h
 .rename_i ho;split at h
  .rename_i e;obtain⟨r,h1,h2⟩:=U1 (o:=o) (σ:=σ) (n:=n) ho e h;grind
  .rename_i e;obtain⟨ob,h1,h2⟩:=h;obtain⟨r,h3,h4⟩:=U2 (o:=o) (n:=n) ho e h1 h2;grind
  grind
 .rename_i ho;exact E1 ho h
 .rename_i ho;exact⟨_,_,_,Hr ho h.1,h.2⟩
 .rename_i ho;exact lift (Yq ho h) λ_ h=>h
 .rename_i ho;exact lift (Yv ho h) λ_ h=>h
 .rename_i ho;exact lift (XA ho h) λ_ h=>h
 .rename_i ho;exact⟨_,_,_,We ho,h⟩
 .rename_i ho;exact lift (UU ho h) λ_ h=>h
 .rename_i ho;exact lift (FS ho h) λ_ h=>h
 .rename_i ho;exact lift (VG ho h) λ_ h=>h
 .rename_i ho;exact lift (VC ho h) λ_ h=>h
 .rename_i ho;exact lift (Wx ho h) λ_ h=>h
 .rename_i ho;exact yP h (XH ho rfl) (Va ho rfl)
 .rename_i ho;exact lift (YI ho h) λ_ h=>h
 .rename_i ho;exact td h.1 ho h.2
 .rename_i ho;exact lift (X7 ho h) λ_ h=>h
 .rename_i ho;exact lift (YF ho h) λ_ h=>h
 .rename_i ho;exact yP h (Wi ho) (Uz ho)
 grind
structure St(C0:bG)(B:Nat)(wI:World)(F:List AV)(σ:Nat->Option Ob)(N:Nat)(a:Act)(w:World):Prop where
 ex:∃ρ:Ren,StR C0 ρ σ w B/\(∀s,N<=cls s->ρ s=none)/\∀t,aU ρ (ak C0 B w ρ σ) (F.getD t .any) (a.tmps.getD t Go.undef)
 le:B<=w.heap.size
 defers:a.defers=[]
 size:a.tmps.size=F.length
 below:Below B wI w
def Jl(ops:List Oper)(j:Nat):((ops.map (·.dst))[j]?).join=(ops[j]?).bind (·.dst):=by grind
def gdA(ds:List (Option Nat))(F:List AV)(j:Nat):Option (Option Bool):=match(ds[j]?).join with
 |some d=>(match F.getD d .any with| .p (.bool b)=>some (some b)| .undef=>some none|_=>none)
 |none=>none
def cJ(F:List AV)(d:Option Nat)(r:AV):List AV:=match d with|some d=>F.set d r|none=>F
abbrev dX:=List (List Nat×List Nat)
def inC(R Rc:List Nat):Prop:=∀s∈R,cls s∈Rc
def cN(P:Program)(N:Nat)(ds:List (Option Nat)):List Oper->Nat->List AV->Sto->dX->(List AV->Sto->dX->Prop)->Prop
 |[],_,F,L,log,K=>K F L log
 |o::rest,i,F,L,log,K=>match o.guard with
  |none=>∃r R W Rc Wc,bB P o (dC F) L (N+i) r R W/\inC R Rc/\inC (W.map (·.1)) Wc/\cN P N ds rest (i+1) (cJ F o.dst r) (aX L W) (log++[(Rc,Wc)]) K
  |some (j,want)=>(match gdA ds F j with
   |some (some b)=>if b=want then∃r R W Rc Wc,bB P o (dC F) L (N+i) r R W/\inC R Rc/\inC (W.map (·.1)) Wc/\cN P N ds rest (i+1) (cJ F o.dst r) (aX L W) (log++[(Rc,Wc)]) K
    else cN P N ds rest (i+1) (cJ F o.dst .undef) L (log++[([],[])]) K
   |some none=>cN P N ds rest (i+1) (cJ F o.dst .undef) L (log++[([],[])]) K
   |none=>False)
structure Tr where
 r:AV
 R:List Nat
 W:List (Nat×Option Ob)
 Rc:List Nat
 Wc:List Nat
instance:Inhabited Tr:=⟨⟨.any,[],[],[],[]⟩⟩
def gQ(ops:List Oper)(tr:Nat->Tr)(F0:List AV):Nat->List AV
 |0=>F0
 |k+1=>cJ (gQ ops tr F0 k) ((ops[k]?).bind (·.dst)) (tr k).r
def sgD(tr:Nat->Tr)(σ0:Nat->Option Ob)(D:Nat->Bool):Nat->Nat->Option Ob
 |0=>σ0
 |k+1=>if D k=true then aX (sgD tr σ0 D k) (tr k).W else sgD tr σ0 D k
def mE(tr:Nat->Tr)(n:Nat):dX:=(bO n).map λk=>((tr k).Rc,(tr k).Wc)
def mH(P:Program)(N:Nat)(ops:List Oper)(F0:List AV)(σ0:Nat->Option Ob)(tr:Nat->Tr)(k:Nat):Prop:=
 ∀o,ops[k]? =some o->(((o.guard=none\/∃j b,o.guard=some (j,b)/\gdA (ops.map (·.dst)) (gQ ops tr F0 k) j=some (some b))/\
   bB P o (dC (gQ ops tr F0 k)) (sgD tr σ0 (λ_=>true) k) (N+k) (tr k).r (tr k).R (tr k).W/\inC (tr k).R (tr k).Rc/\inC ((tr k).W.map (·.1)) (tr k).Wc)\/
  (∃j want q,o.guard=some (j,want)/\gdA (ops.map (·.dst)) (gQ ops tr F0 k) j=some q/\q≠some want/\tr k=⟨.undef,[],[],[],[]⟩))
def sS(ops:List Oper)(F0:List AV){tr tr':Nat->Tr}:∀k,(∀j,j<k->tr j=tr' j)->gQ ops tr F0 k=gQ ops tr' F0 k
 |0,_=>rfl
 |k+1,h=>by simp only[gQ];rw[sS ops F0 k (λj hj=>h j (by omega)),h k (by omega)]
def qM(σ0:Nat->Option Ob){tr tr':Nat->Tr}{D D':Nat->Bool}:∀k,(∀j,j<k->tr j=tr' j)->(∀j,j<k->D j=D' j)->sgD tr σ0 D k=sgD tr' σ0 D' k
 |0,_,_=>rfl
 |k+1,h,h2=>by simp only[sgD];rw[qM σ0 k (λj hj=>h j (by omega)) (λj hj=>h2 j (by omega)),h k (by omega),h2 k (by omega)]
def S0{P:Program}{N:Nat}{ops:List Oper}{F0:List AV}{σ0:Nat->Option Ob}{tr tr':Nat->Tr}{k:Nat}(h:∀j,j<=k->tr j=tr' j)(hg:mH P N ops F0 σ0 tr k):mH P N ops F0 σ0 tr' k:=by unfold mH at*;rw[sS ops F0 k (λj hj=>(h j (by omega)).symm),qM (D':=λ_=>true) σ0 k (λj hj=>(h j (by omega)).symm) (λ_ _=>rfl),<-h k (az _)];exact hg
def kR(tr:Nat->Tr)(i:Nat)(x:Tr):Nat->Tr:=λk=>if k=i then x else tr k
def Fo{tr:Nat->Tr}{i:Nat}{x:Tr}{k:Nat}(h:k<i):tr k=kR tr i x k:=by unfold kR;grind
def Ev{P:Program}{N:Nat}{ops:List Oper}{F0:List AV}{L0:Sto}{K:List AV->Sto->dX->Prop}:
  ∀(rest:List Oper) (i:Nat) (F:List AV) (L:Sto) (log:dX) (tr:Nat->Tr),i<=ops.length->ops.drop i=rest->F=gQ ops tr F0 i->L=sgD tr L0 (λ_=>true) i->log=mE tr i->
   (∀k,k<i->mH P N ops F0 L0 tr k)->cN P N (ops.map (·.dst)) rest i F L log K->
   ∃(tr':Nat->Tr) (L':Sto),(∀k,k<ops.length->mH P N ops F0 L0 tr' k)/\L'=sgD tr' L0 (λ_=>true) ops.length/\K (gQ ops tr' F0 ops.length) L' (mE tr' ops.length)
 |[],i,F,L,log,tr,hil,hd,hF,hL,hlog,hg,h=>by
  have hi:i=ops.length:=by have:=congrArg fg hd;simp at this;omega
  subst hi;unfold cN at h;grind
 |o::rest,i,F,L,log,tr,hil,hd,hF,hL,hlog,hg,h=>by
  have hlt:i<ops.length:=by have:=congrArg fg hd;simp at this;omega
  have ho:ops[i]? =some o:=by have:=congrArg (λl=>l[0]?) hd;simpa using this
  have hd':ops.drop (i+1)=rest:=by have:=congrArg List.tail hd;simpa using this
  have step:∀(x:Tr),mH P N ops F0 L0 (kR tr i x) i->cN P N (ops.map (·.dst)) rest (i+1) (cJ F o.dst x.r) (aX L x.W) (log++[(x.Rc,x.Wc)]) K->
    ∃(tr':Nat->Tr) (L':Sto),(∀k,k<ops.length->mH P N ops F0 L0 tr' k)/\L'=sgD tr' L0 (λ_=>true) ops.length/\K (gQ ops tr' F0 ops.length) L' (mE tr' ops.length):=by
   intro x hgx hx;have hc:∀j,j<i->tr j=kR tr i x j:=λj hj=>Fo hj;have hxi:kR tr i x i=x:=by unfold kR;rw[if_pos rfl]
   refine Ev rest (i+1) _ _ _ (kR tr i x) hlt hd' ?_ ?_ ?_ ?_ hx
   .simp only[gQ,ho,kc,hxi];rw[hF,sS ops F0 i hc]
   .simp only[sgD,if_true,hxi];rw[hL,qM (D':=λ_=>true) L0 i hc (λ_ _=>rfl)]
   .unfold mE at hlog|-;rw[List.range_succ,List.map_append,List.map_singleton,hxi,hlog];simp_all
   .intro k hk;by_cases e:k=i
    .grind
    .exact S0 (by grind) (hg k (by omega))
  have hc:∀x:Tr,∀j,j<i->kR tr i x j=tr j:=λx j hj=>(Fo hj).symm;have hxi:∀x:Tr,kR tr i x i=x:=λx=>by unfold kR;grind
  have mkG:∀x:Tr,(o.guard=none\/∃j b,o.guard=some (j,b)/\gdA (ops.map (·.dst)) F j=some (some b))->bB P o (dC F) L (N+i) x.r x.R x.W->inC x.R x.Rc->inC (x.W.map (·.1)) x.Wc->mH P N ops F0 L0 (kR tr i x) i:=by intro x h1 h2 h3 h4 o' ho';rw[ho]at ho';cases ho';rw[sS ops F0 i (hc x),qM (D':=λ_=>true) L0 i (hc x) (λ_ _=>rfl),<-hF,<-hL,hxi];grind
  unfold cN at h;split at h
  .rename_i hgd;obtain⟨r,R,W,Rc,Wc,h1,i1,i2,h2⟩:=h;exact step ⟨r,R,W,Rc,Wc⟩ (by grind) h2
  .rename_i j want hgd;have skip:∀q,gdA (ops.map (·.dst)) F j=some q->q≠some want->cN P N (ops.map (·.dst)) rest (i+1) (cJ F o.dst .undef) L (log++[([],[])]) K->
     ∃(tr':Nat->Tr) (L':Sto),(∀k,k<ops.length->mH P N ops F0 L0 tr' k)/\L'=sgD tr' L0 (λ_=>true) ops.length/\K (gQ ops tr' F0 ops.length) L' (mE tr' ops.length):=by
    intro q hq hne hx;refine step ⟨.undef,[],[],[],[]⟩ ?_ hx;intro o' ho';rw[ho]at ho';cases ho';rw[sS ops F0 i (hc _),<-hF,hxi];grind
   split at h
   .rename_i b hb;split at h
    .rename_i e;subst e;obtain⟨r,R,W,Rc,Wc,h1,i1,i2,h2⟩:=h;exact step ⟨r,R,W,Rc,Wc⟩ (by grind) h2
    simp_all
   .grind
   grind
def pY(ops:List Oper):List (List Nat):=
 ops.foldl (λacc o=>acc++[(o.after.toList.filter (iS .any)).foldl (λs e=>s++(e.on::acc.getD e.on []).filter λx=> !s.contains x) []]) []
def BH(o:Oper):List Nat:=o.op.operands.toList.filterMap λx=>match x with| .tmp t=>some t|_=>none
def okE(l:List Oper)(anc:List (List Nat)):Bool:=
 (bO l.length).all λi=>
  (((l[i]?).map λo=>(o.after.toList.all λe=> !iS .any e||(decide (e.on<i)&&(ii anc i).contains e.on))&&o.dst !=some 1000000).getD false)&&
  ((ii anc i).all λj=>decide (j<i)&&(((l[i]?).map λo=>o.after.toList.any λe=>iS .any e&&(e.on==j||(ii anc e.on).contains j)).getD false))&&
  ((bO l.length).all λj=>j==i||jv l j !=jv l i||jv l i==1000000)
def rN(ops:List Oper)(anc:List (List Nat)):Bool:=
 okE ops anc&&
 ((bO ops.length).all λi=>((ops[i]?).map λo=>
   ((BH o).all λt=>(bO ops.length).all λj=>j==i||jv ops j !=t||(ii anc i).contains j||(ii anc j).contains i)&&
   (match o.guard with|none=>true|some (j,_)=>(ii anc i).contains j&&((ops[j]?).bind (·.dst)).isSome)).getD false)
def xW(a b:List Nat×List Nat):Bool:=a.2.any (λs=>b.1.contains s||b.2.contains s)||a.1.any (λs=>b.2.contains s)
def nf(anc:List (List Nat))(log:dX):Bool:=(bO log.length).all λi=>(bO i).all λj=> !xW (log.getD i ([],[])) (log.getD j ([],[]))||(ii anc i).contains j
def Uu{ops:List Oper}{anc:List (List Nat)}(h:okE ops anc=true):
  (∀(i:Nat) o,ops[i]? =some o->(∀e∈o.after.toList,iS .any e=true->e.on<i/\(ii anc i).contains e.on=true)/\
    (∀j,(ii anc i).contains j=true->j<i/\∃e∈o.after.toList,iS .any e=true/\(e.on=j\/(ii anc e.on).contains j=true))/\(∀d,o.dst=some d->jv ops i=d/\d≠1000000)/\(o.dst=none->jv ops i=1000000))/\
  ∀i j,i<ops.length->j<ops.length->j≠i->jv ops j=jv ops i->jv ops i=1000000:=by
 unfold okE at h;rw[dm]at h;have hget:∀(i:Nat) o,ops[i]? =some o->i<ops.length:=by grind
 refine⟨?_,?_⟩
 .intro i o ho;have h1:=h i (dY.2 (hget i o ho));simp only[cD]at h1;obtain⟨⟨h2,h3⟩,_⟩:=h1;rw[ho]at h2;refine⟨?_,?_,?_,?_⟩
  .grind
  .intro j hj;rw[dm]at h3;have:=h3 j (by grind);simp only[cD,decide_eq_true_eq]at this;obtain⟨h4,h5⟩:=this;refine⟨h4,?_⟩;rw[ho]at h5;simp only[dn,mZ,li,cD,jI,beq_iff_eq]at h5;exact h5
  .intro d hd;refine⟨by unfold jv;grind,?_⟩;grind
  .unfold jv;grind
 .intro i j hi hj hne he;have h1:=h i (dY.2 hi);grind
def Y9{tr:Nat->Tr}{σ0:Nat->Option Ob}{D:Nat->Bool}{s i n:Nat}(hin:i<=n)
  (hlo:∀k,k<i->(tr k).W.lookup s≠none->D k=true) (hhi:∀k,i<=k->k<n->(tr k).W.lookup s≠none->D k=false):
  sgD tr σ0 D n s=sgD tr σ0 (λ_=>true) i s:=by
 have h1:∀m,m<=i->sgD tr σ0 D m s=sgD tr σ0 (λ_=>true) m s:=by
  intro m;induction m with
  |zero=>intro _;rfl
  |succ m ih=>
   intro hm;simp only[sgD,if_true];cases hD:D m with
   |true=>unfold aX;grind
   |false=>
    unfold aX;grind
 have h2:∀m,i<=m->m<=n->sgD tr σ0 D m s=sgD tr σ0 D i s:=by
  intro m;induction m with
  |zero=>grind
  |succ m ih=>
   intro hi hm;by_cases e:i=m+1
   .rw[e]
   .simp only[sgD];cases hD:D m with
    |false=>grind
    |true=>
     unfold aX;grind
 grind
def Eg{W:List (Nat×Option Ob)}{s:Nat}(h:W.lookup s≠none):s∈W.map (·.1):=by grind
def AY{g:Nat->Option Ob}{W:List (Nat×Option Ob)}{s:Nat}(h:W.lookup s=none):aX g W s=g s:=by unfold aX;rw[h]
def kj(F:List AV)(d:Option Nat)(r:AV):(cJ F d r).length=F.length:=by cases d<;>simp[cJ]
def sN(ops:List Oper)(tr:Nat->Tr)(F0:List AV):∀k,(gQ ops tr F0 k).length=F0.length
 |0=>rfl
 |k+1=>by simp only[gQ];rw[kj,sN ops tr F0 k]
def yk{ops:List Oper}{tr:Nat->Tr}{F0:List AV}{t j:Nat}(hj:(ops[j]?).bind (·.dst)=some t)(ht:t<F0.length)(hu:∀k,k≠j->(ops[k]?).bind (·.dst)≠some t):∀m,j<m->(gQ ops tr F0 m).getD t .any=(tr j).r
 |0,h=>by omega
 |m+1,h=>by
  simp only[gQ];by_cases e:m=j
  .subst e;rw[hj];have:=sN ops tr F0 m;simp[cJ,bq,this,ht]
  .have ih:=yk (tr:=tr) hj ht hu m (by omega);cases hd:(ops[m]?).bind (·.dst)with
   |none=>simpa[cJ]using ih
   |some d=>
    have:d≠t:=by grind
    simp only[cJ,bq,Rn this]at ih|-;exact ih
def yg{ops:List Oper}{tr:Nat->Tr}{F0:List AV}{t:Nat}:∀m,(∀k,k<m->(ops[k]?).bind (·.dst)≠some t)->(gQ ops tr F0 m).getD t .any=F0.getD t .any
 |0,_=>rfl
 |m+1,h=>by
  simp only[gQ];have ih:=yg (tr:=tr) (F0:=F0) m λk hk=>h k (by omega);cases hd:(ops[m]?).bind (·.dst)with
  |none=>simpa[cJ]using ih
  |some d=>
   have:d≠t:=by grind
   simp only[cJ,bq,Rn this]at ih|-;exact ih
def nH{ρ:Ren}{C:bG}{F:List AV}{V:Nat->Value}{x:Operand}(h:∀t,x= .tmp t->aU ρ C (F.getD t .any) (V t)):aU ρ C (dC F x) (bF V x):=by
 cases x with
 |tmp t=>exact h t rfl
 |const v=>exact TE v
 |global g=>trivial
 |func f=>
  exact⟨[],[],rfl,by rfl,by rfl⟩
def nA{P:Program}{o:Oper}{V:Nat->Value}{w:World}{K K':Value->World->Prop}(h:cX P o V w K)(hk:∀v w,K v w->K' v w):cX P o V w K':=by
 unfold cX at h|-;split at h
 .grind
 .grind
 .exact h.mono (by grind)
 omega
def TU{o:Oper}{t:Nat}(h: .tmp t∈o.op.operands.toList):t∈BH o:=kF.2 (by grind)
def StR.drew{C0:bG}{ρ:Ren}{g:Nat->Option Ob}{w:World}{B:Nat}(h:StR C0 ρ g w B):StR C0 ρ g w.drew B:=by
 refine⟨λs o hg=> ?_,h.inj,h.mpi⟩;obtain⟨q,c,h1,h2|⟨b,arr,h2,h3,h4⟩⟩:=h.ob s o hg
 .exact⟨q,c,h1,.inl h2⟩
 .exact⟨q,c,h1,.inr ⟨b,arr,h2,h3,⟨h4.blk,h4.box,h4.row,h4.cells⟩⟩⟩
def Dv{P:Program}{id N:Nat}{ops:List Oper}{Q:Exit->Act->World->Prop}{a0:Act}{w0:World}{C0:bG}{B:Nat}{wI:World}{F0:List AV}{L0:Sto}{K:List AV->Sto->Prop}
  (hm:P.follows .mixedOrders=true) (anc:List (List Nat)) (hok:rN ops anc=true) (hds:((bO ops.length).all λi=>match(ops[i]?).bind (·.dst)with|some d=>decide (d<F0.length)|none=>true)=true)
  (hS:St C0 B wI F0 L0 N a0 w0) (h:cN P N (ops.map (·.dst)) ops 0 F0 L0 [] λF L log=>nf anc log=true/\K F L)
  (hK:∀F L a w,K F L->F.length=F0.length->St C0 B wI F L (N+ops.length) a w->Q .normal a w):(DC id ops.toArray true).wp P Q a0 w0:=by
 obtain⟨tr,L',hgood,hL',hfeet,hKK⟩:=Ev ops 0 F0 L0 [] default (cO _) rfl rfl rfl rfl (by grind) h;unfold rN at hok;rw[cD,dm]at hok;obtain⟨hokE,hokT⟩:=hok;obtain⟨hop,huq⟩:=Uu hokE;obtain⟨⟨ρ0,hs0,hn0,hf0⟩,hle0,hdf0,hsz0,hbl0⟩:=hS;have hget:∀(i:Nat) o,ops[i]? =some o->i<ops.length:=by grind
 have hat:∀(i:Nat),i<ops.length->∃o,ops[i]? =some o:=λi hi=>⟨_,dA hi⟩;have hdst:∀(j t:Nat),(ops[j]?).bind (·.dst)=some t->jv ops j=t/\t≠1000000/\j<ops.length/\t<F0.length:=by intro j t hj;obtain⟨o,ho,hd⟩:=kE.1 hj;have:=(hop j o ho).2.2.1 t hd;refine⟨this.1,this.2,hget j o ho,?_⟩;rw[dm]at hds;have h2:=hds j (dY.2 (hget j o ho));rw[hj]at h2;simpa using h2
 have huniq:∀(j t:Nat),(ops[j]?).bind (·.dst)=some t->∀(k:Nat),k≠j->(ops[k]?).bind (·.dst)≠some t:=by intro j t hj k hk e;obtain⟨h1,h2,h3,_⟩:=hdst j t hj;obtain⟨h4,_,h5,_⟩:=hdst k t e;exact h2 (h1▸huq j k h3 h5 hk (by grind))
 have hclash:∀i k,i<ops.length->k<ops.length->k≠i->∀s,s∈(tr i).R\/s∈(tr i).W.map (·.1)->(tr k).W.lookup s≠none->(k<i->(ii anc i).contains k=true)/\(i<k->(ii anc k).contains i=true):=by
  intro i k hi hk hne s hs hw;have hws:=Eg hw;have hin:∀j,j<ops.length->inC (tr j).R (tr j).Rc/\inC ((tr j).W.map (·.1)) (tr j).Wc:=λj hj=>by
   obtain⟨o,ho⟩:=hat j hj;rcases hgood j hj o ho with⟨_,_,h1,h2⟩|⟨_,_,_,_,_,_,h⟩
   .exact⟨h1,h2⟩
   .rw[h];exact⟨λs h=>(dg h).elim,λs h=>(dg h).elim⟩
  have hwc:=(hin k hk).2 s hws;have hsc:cls s∈(tr i).Rc\/cls s∈(tr i).Wc:=hs.imp ((hin i hi).1 s) ((hin i hi).2 s);have hfl:(mE tr ops.length).length=ops.length:=by simp[mE]
  have hfg:∀j,j<ops.length->(mE tr ops.length).getD j ([],[])=((tr j).Rc,(tr j).Wc):=by intro j hj;simp[mE,bq,hj]
  unfold nf at hfeet;rw[dm]at hfeet;have hsym:∀a b:List Nat×List Nat,cls s∈b.2->(cls s∈a.1\/cls s∈a.2)->xW a b=true/\xW b a=true:=by
   intro a b hb ha;unfold xW;refine⟨?_,?_⟩
   .rw[jI];rcases ha with ha|ha
    .exact .inr (li.2 ⟨cls s,ha,by simpa using hb⟩)
    .exact .inl (li.2 ⟨cls s,ha,by rw[jI];exact .inr (by simpa using hb)⟩)
   .rw[jI];refine .inl (li.2 ⟨cls s,hb,?_⟩);rw[jI];rcases ha with ha|ha
    .exact .inl (by simpa using ha)
    .exact .inr (by simpa using ha)
  obtain⟨c1,c2⟩:=hsym ((tr i).Rc,(tr i).Wc) ((tr k).Rc,(tr k).Wc) hwc hsc;refine⟨λhlt=> ?_,λhlt=> ?_⟩
  .have:=hfeet i (dY.2 (by rw[hfl];exact hi));rw[dm]at this;have:=this k (dY.2 hlt);rw[hfg i hi,hfg k hk,c1]at this;simpa using this
  .have:=hfeet k (dY.2 (by rw[hfl];exact hk));rw[dm]at this;have:=this i (dY.2 hlt);rw[hfg i hi,hfg k hk,c2]at this;simpa using this
 let dsts:List Nat:=(bO ops.length).filterMap λi=>(ops[i]?).bind (·.dst)
 have hdm:∀(t:Nat),t∈dsts↔∃(j:Nat),(ops[j]?).bind (·.dst)=some t:=by intro t;simp only[dsts,kF,dY];exact⟨λ⟨j,_,h⟩=>⟨j,h⟩,λ⟨j,h⟩=>⟨j,(hdst j t h).2.2.1,h⟩⟩
 let G:(Nat->Bool)->(Nat->Value)->World->Prop:=λD V w=>∃ρ:Ren,
  (∀i j,D i=true->(ii anc i).contains j=true->D j=true)/\(∀i,D i=true->i<ops.length)/\
  StR C0 ρ (sgD tr L0 D ops.length) w B/\B<=w.heap.size/\Below B wI w/\
  (∀(j t:Nat),D j=true->(ops[j]?).bind (·.dst)=some t->aU ρ (ak C0 B w ρ (sgD tr L0 D ops.length)) (tr j).r (V t))/\
  (∀(t:Nat),(∀(j:Nat),D j=true->(ops[j]?).bind (·.dst)≠some t)->V t=a0.tmps.getD t Go.undef)/\
  (∀t,aU ρ (ak C0 B w ρ (sgD tr L0 D ops.length)) (F0.getD t .any) (a0.tmps.getD t Go.undef))/\
  (∀k s,D k=false->cls s=N+k->ρ s=none)
 refine S1 hm dsts ?_ ?_ G ?_ ?_ ?_
 .rw[dm];intro i hi;have hi':=dY.1 hi;obtain⟨o,ho⟩:=hat i hi';obtain⟨q1,q3,q4,q5⟩:=hop i o ho;simp only[List.getElem?_toArray,ho,dn,mZ,cD];refine⟨?_,?_⟩
  .rw[dm];intro e he;cases hb:iS .any e with
   |false=>simp
   |true=>simpa using(q1 e he hb).1
  .cases hd:o.dst with
   |none=>rfl
   |some d=>simpa using(hdm d).2 ⟨i,by rw[ho];exact hd⟩
 .intro s hs;obtain⟨j,hj⟩:=(hdm s).1 hs;rw[hsz0];exact(hdst j s hj).2.2.2
 .have e0:sgD tr L0 (λ_=>false) ops.length=L0:=by
   have:∀m,sgD tr L0 (λ_=>false) m=L0:=by
    intro m;induction m with
    |zero=>rfl
    |succ m ih=>exact ih
   exact this _
  refine⟨ρ0,(by grind),(by grind),?_,hle0,hbl0.drew,(by grind),(λt _=>rfl),?_,λk s _ hs=>hn0 s (by omega)⟩
  .rw[e0];exact hs0.drew
  .rw[e0];exact hf0
 .intro i o D V w ho ⟨ρ,g1,g2,g3,g4,g5,g6,g7,g8,g9⟩ hD hpre _;have ho':ops[i]? =some o:=by simpa using ho
  have hi:=hget i o ho';obtain⟨q1,q3,q4,q5⟩:=hop i o ho';have hanc:∀j,(ii anc i).contains j=true->D j=true:=by
   intro j hj;obtain⟨_,e,he,hb,h⟩:=q3 j hj;have:=hpre e he hb;rcases h with rfl|h
   .exact this
   .exact g1 _ _ this h
  have hdesc:∀j,(ii anc j).contains i=true->D j=false:=by
   intro j hj;cases hx:D j with
   |false=>rfl
   |true=>rw[g1 _ _ hx hj]at hD;cases hD
  have hT:=hokT i (dY.2 hi);rw[ho']at hT;simp only[dn,mZ,cD]at hT;obtain⟨hT1,hT2⟩:=hT
  let Fi:=gQ ops tr F0 i
  have hslot:∀t,t∈BH o\/(∃(j:Nat) (b:Bool),o.guard=some (j,b)/\(ops[j]?).bind (·.dst)=some t)->aU ρ (ak C0 B w ρ (sgD tr L0 D ops.length)) (Fi.getD t .any) (V t):=by
   intro t ht;have hdone:∀(j:Nat),j<i->(ops[j]?).bind (·.dst)=some t->D j=true:=by
    intro j hji hj;rcases ht with ht|⟨j',b,hg,hj'⟩
    .rw[dm]at hT1;have:=hT1 t ht;rw[dm]at this;have:=this j (dY.2 (by omega));simp only[jI,beq_iff_eq,bne_iff_ne,ne_eq]at this;rcases this with((h|h)|h)|h
     .omega
     .exact absurd (hdst j t hj).1 h
     .exact hanc j h
     .have h1:=(hop j _ (dA (by omega))).2.1 i h;omega
    .have:j=j':=by
      rcases iq j j' with h|h
      .exact absurd hj (huniq j' t hj' j h)
      .exact h
     subst this;rw[hg]at hT2;simp only[cD]at hT2;exact hanc j hT2.1
   have hnot:∀(j:Nat),i<=j->(ops[j]?).bind (·.dst)=some t->D j=false:=by
    intro j hij hj;by_cases e:j=i
    .rw[e];exact hD
    rcases ht with ht|⟨j',b,hg,hj'⟩
    .rw[dm]at hT1;have:=hT1 t ht;rw[dm]at this;have:=this j (dY.2 (hdst j t hj).2.2.1);simp only[jI,beq_iff_eq,bne_iff_ne,ne_eq]at this;rcases this with((h|h)|h)|h
     .omega
     .exact absurd (hdst j t hj).1 h
     .have:=(q3 j h).1;omega
     .exact hdesc j h
    .have:j=j':=by
      rcases iq j j' with h|h
      .exact absurd hj (huniq j' t hj' j h)
      .exact h
     subst this;rw[hg]at hT2;simp only[cD]at hT2;have:=(q3 j hT2.1).1;omega
   by_cases hw:∃(j:Nat),j<i/\(ops[j]?).bind (·.dst)=some t
   .obtain⟨j,hji,hj⟩:=hw;have:=yk (tr:=tr) hj (hdst j t hj).2.2.2 (huniq j t hj) i hji;rw[this];exact g6 j t (hdone j hji hj) hj
   .have:=yg (ops:=ops) (tr:=tr) (F0:=F0) (t:=t) i λk hk e=>hw ⟨k,hk,e⟩;rw[this,g7 t λj hDj e=> ?_]
    .exact g8 t
    .rcases jc j i with h|h
     .exact hw ⟨j,h,e⟩
     .rw[hnot j h e]at hDj;cases hDj
  have hgi:=hgood i hi o ho';have hDset:∀s,sgD tr L0 (λj=>if j=i then true else D j) ops.length s=aX (sgD tr L0 D ops.length) (tr i).W s:=by
   intro s;have hlt:∀m,m<=i->sgD tr L0 (λj=>if j=i then true else D j) m=sgD tr L0 D m:=λm hm=>qM _ m (λ_ _=>rfl) (λj hj=>by rw[if_neg (by omega)]);cases hl:(tr i).W.lookup s with
   |none=>
    rw[AY hl];have:∀m,i<m->sgD tr L0 (λj=>if j=i then true else D j) m s=sgD tr L0 D m s:=by
     intro m;induction m with
     |zero=>omega
     |succ m ih=>
      intro hm;by_cases e:m=i
      .subst e;simp only[sgD,if_true,hD,oI,if_false];rw[AY hl,hlt m (az _)]
      .simp only[sgD,if_neg e];cases hDm:D m with
       |false=>exact ih (by omega)
       |true=>simp only[if_true];unfold aX;rw[ih (by omega)]
    exact this _ hi
   |some x=>
    have:∀m,i<m->m<=ops.length->sgD tr L0 (λj=>if j=i then true else D j) m s=x:=by
     intro m;induction m with
     |zero=>omega
     |succ m ih=>
      intro hm hmn;by_cases e:m=i
      .subst e;simp only[sgD,if_true];unfold aX;rw[hl]
      .simp only[sgD,if_neg e];have hlm:D m=true->(tr m).W.lookup s=none:=by
        intro hDm;cases hl2:(tr m).W.lookup s with
        |none=>rfl
        |some y=>
         have:=(hclash i m hi (by omega) e s (.inr (Eg (by rw[hl];simp))) (by rw[hl2];simp)).2 (by omega);rw[hdesc m this]at hDm;cases hDm
       cases hDm:D m with
       |false=>exact ih (by omega) (by omega)
       |true=>simp only[if_true];rw[AY (hlm hDm)];exact ih (by omega) (by omega)
    rw[this _ hi (az _)];unfold aX;rw[hl]
  have key:∀(ρ':Ren) (v:Value) (w':World),(∀s,cls s≠N+i->ρ' s=ρ s)->
    (∀b o' x,ak C0 B w ρ (sgD tr L0 D ops.length) b o' x->ak C0 B w' ρ' (aX (sgD tr L0 D ops.length) (tr i).W) b o' x)->
    StR C0 ρ' (aX (sgD tr L0 D ops.length) (tr i).W) w' B->aU ρ' (ak C0 B w' ρ' (aX (sgD tr L0 D ops.length) (tr i).W)) (tr i).r v->Below B w w'->
    G (λj=>if j=i then true else D j) (match o.dst with|some d=>λs=>if s=d then v else V s|none=>V) w':=by
   intro ρ' v w' k1 k2 k3 k4 k5;have hsg:sgD tr L0 (λj=>if j=i then true else D j) ops.length=aX (sgD tr L0 D ops.length) (tr i).W:=funext hDset;have hext:∀s q,ρ s=some q->ρ' s=some q:=by intro s q hq;rw[k1 s (λe=>by rw[g9 i s hD e]at hq;cases hq)];exact hq
   have hVd:∀(t:Nat),(ops[i]?).bind (·.dst)=some t->(match o.dst with|some d=>λs=>if s=d then v else V s|none=>V) t=v:=by intro t ht;rw[ho']at ht;have:o.dst=some t:=ht;rw[this];simp
   have hVn:∀(t:Nat),(ops[i]?).bind (·.dst)≠some t->(match o.dst with|some d=>λs=>if s=d then v else V s|none=>V) t=V t:=by
    intro t ht;rw[ho']at ht;cases hd:o.dst with
    |none=>rfl
    |some d=>
     have:t≠d:=λe=>ht (by rw[e];exact hd);simp[this]
   show G _ _ _;refine⟨ρ',?_,?_,by rw[hsg];exact k3,ci g4 k5.size,g5.trans k5,?_,?_,?_,?_⟩
   .intro i' j h1 h2;dsimp only at h1|-;by_cases e:j=i
    .rw[if_pos e]
    .rw[if_neg e];by_cases e':i'=i
     .subst e';exact hanc j h2
     .rw[if_neg e']at h1;exact g1 _ _ h1 h2
   .intro i' h1;dsimp only at h1;by_cases e':i'=i
    .rw[e'];exact hi
    .rw[if_neg e']at h1;exact g2 _ h1
   .intro j t h1 h2;dsimp only at h1;rw[hsg];by_cases e:j=i
    .subst e;rw[hVd t h2];exact k4
    .rw[if_neg e]at h1;rw[hVn t (huniq j t h2 i (λh=>e h.symm))];exact aU.mono hext k2 _ _ (g6 j t h1 h2)
   .intro t ht;rw[hVn t (ht i (by simp))];refine g7 t λj hj=>ht j ?_;dsimp only;by_cases e:j=i
    .rw[if_pos e]
    .rw[if_neg e];exact hj
   .intro t;rw[hsg];exact aU.mono hext k2 _ _ (g8 t)
   .intro k s hk hs;dsimp only at hk;by_cases e:k=i
    .rw[if_pos e]at hk;cases hk
    .rw[if_neg e]at hk;rw[k1 _ (by omega)];exact g9 k s hk hs
  have hgv:∀j b q,o.guard=some (j,b)->gdA (ops.map (·.dst)) Fi j=some q->gdV ops.toArray V j=q:=by
   intro j b q hg hq;unfold gdA at hq;rw[Jl]at hq;cases hd:(ops[j]?).bind (·.dst)with
   |none=>rw[hd]at hq;cases hq
   |some d=>
    rw[hd]at hq;have hrep:=hslot d (.inr ⟨j,b,hg,hd⟩);unfold gdV;rw[show(ops.toArray[j]?).bind (·.dst)=some d by simpa using hd];dsimp only at hq|-;split at hq
    .rename_i bb e;rw[e]at hrep;cases hq;rw[hrep]
    .rename_i e;rw[e]at hrep;cases hq;rw[hrep];rfl
    .cases hq
  rcases hgi with⟨hgd,hsim,_,_⟩|⟨j,want,q,hgd,hq,hne,htr⟩
  .have hwant:gv o (gdV ops.toArray V)=true:=by
    unfold gv;rcases hgd with h|⟨j,b,h,hq⟩
    .rw[h]
    .rw[h];dsimp only;rw[hgv j b _ h hq];simp
   rw[if_pos hwant];have hsg:∀s,s∈(tr i).R\/s∈(tr i).W.map (·.1)->sgD tr L0 D ops.length s=sgD tr L0 (λ_=>true) i s:=by
    intro s hs;refine Y9 (Nat.le_of_lt hi) ?_ ?_
    .intro k hk hw;exact hanc k ((hclash i k hi (by omega) (by omega) s hs hw).1 hk)
    .intro k hk1 hk2 hw;by_cases e:k=i
     .rw[e];exact hD
     .exact hdesc k ((hclash i k hi hk2 e s hs hw).2 (by omega))
   have hgn:∀s,cls s=N+i->sgD tr L0 D ops.length s=none:=by
    intro s hs;cases hx:sgD tr L0 D ops.length s with
    |none=>rfl
    |some ob=>obtain⟨q,c,h1,_⟩:=g3.ob _ _ hx;rw[g9 i s hD hs]at h1;cases h1
   refine nA (hsim C0 ρ _ V w B g3 g4 (λs hs=>hsg s (.inl hs)) (λs hs=>g9 i s hD hs) hgn ?_) ?_
   .intro x hx;refine nH λt e=> ?_;subst e;exact hslot t (.inl (TU hx))
   .rintro v w' ⟨ρ',k1,k2,k3,k4,k5⟩;exact key ρ' v w' k1 k2 k3 k4 k5
  .have hwant:gv o (gdV ops.toArray V)=false:=by unfold gv;rw[hgd];dsimp only;rw[hgv j want _ hgd hq];simpa using hne
   rw[hwant,if_neg (by simp)];have e1:(tr i).W=[] :=by rw[htr]
   have e2:(tr i).r= .undef:=by rw[htr]
   refine key ρ Go.undef w (λ_ _=>rfl) ?_ ?_ ?_ (Below.refl _ _)
   .rw[e1];exact λ_ _ _ h=>h
   .rw[e1];exact g3
   .rw[e2];rfl
 .intro D V w ⟨ρ,g1,g2,g3,g4,g5,g6,g7,g8,g9⟩ hall;simp only[List.size_toArray]at hall;have hsg:sgD tr L0 D ops.length=L':=by rw[hL'];exact qM _ _ (λ_ _=>rfl) (λj hj=>hall j hj)
  obtain⟨p1,p2,p3⟩:=yi V dsts a0 (λs hs=>by obtain⟨j,hj⟩:=(hdm s).1 hs;rw[hsz0];exact(hdst j s hj).2.2.2)
  refine hK _ L' _ w hKK (sN _ _ _ _) ⟨⟨ρ,by rw[<-hsg];exact g3,?_,?_⟩,g4,p1.trans hdf0,by rw[p2,hsz0,sN],g5⟩
  .intro s hs;have:D (cls s-N)=false:=by
    cases hx:D (cls s-N)with
    |false=>rfl
    |true=>have:=g2 _ hx;omega
   exact g9 _ s this (by omega)
  .intro t;rw[<-hsg];by_cases ht:t<a0.tmps.size
   .rw[p3 t ht];by_cases hm:t∈dsts
    .rw[if_pos hm];obtain⟨j,hj⟩:=(hdm t).1 hm;obtain⟨_,_,h3,h4⟩:=hdst j t hj;rw[yk hj h4 (huniq j t hj) _ h3];exact g6 j t (hall j h3) hj
    .rw[if_neg hm,yg _ λk _ e=>hm ((hdm t).2 ⟨k,e⟩)];exact g8 t
   .have:(gQ ops tr F0 ops.length).getD t .any= .any:=by rw[bq,eQ (by rw[sN];omega)];rfl
    rw[this];trivial
attribute [irreducible] cN
abbrev jw:=Exit->List AV->Sto->Nat->Prop
def Dq{P:Program}{ops:Array Oper}{Q:Exit->Act->World->Prop}{i:Nat}{o:Oper}{a:Act}{w:World}{next:Act->World->Prop}(ho:ops[i]? =some o)
  (h:if gv o (gdV ops λs=>a.tmps.getD s Go.undef)=true then cX P o (λs=>a.tmps.getD s Go.undef) w λv w'=>next (a.put o.dst v) w' else next (a.put o.dst Go.undef) w):wpOp P ops Q i next a w:=by
 unfold wpOp;rw[ho];simp only[];rw[D3];by_cases hw:gv o (gdV ops λs=>a.tmps.getD s undef)=true
 .rw[if_pos hw]at h|-;refine .inl ?_;unfold Oper.wp;rw[Act.eval_evalV];unfold cX at h;cases hr:(execOp (bF λs=>a.tmps.getD s undef) o).run P w with
  |halt x w'=>grind
  |ok n w'=>
   rw[hr]at h;cases n<;>simp only[]at h<;>first|exact h.elim|skip
   .exact h
   .exact h
   .rename_i f args;refine h.mono ?_;grind
 grind
def sm(a:Act)(d:Option Nat)(v:Value)(t:Nat):(a.put d v).tmps.getD t Go.undef=if d=some t/\t<a.tmps.size then v else a.tmps.getD t Go.undef:=by
 cases d with
 |none=>simp[kZ]
 |some d=>
  simp only[kZ,fW,p9,fO];grind
def nD(F:List AV)(d:Option Nat)(r:AV)(t:Nat):(cJ F d r).getD t .any=if d=some t/\t<F.length then r else F.getD t .any:=by
 cases d with
 |none=>simp[cJ]
 |some d=>
  simp only[cJ,bq,gZ,fO];grind
section
variable {P:Program} {C0:bG} {B:Nat} {wI:World}
def St.mono{F:List AV}{σ:Nat->Option Ob}{N N':Nat}{a:Act}{w:World}(h:St C0 B wI F σ N a w)(hN:N<=N'):St C0 B wI F σ N' a w:=by obtain⟨⟨ρ,h1,h2,h3⟩,h4,h5,h6,h7⟩:=h;exact⟨by grind,h4,h5,h6,h7⟩
def sX{ops tail:List Oper}{m N:Nat}{Q:Exit->Act->World->Prop}{K:List AV->Sto->dX->Prop}(hm:m+tail.length=ops.length)(hK:∀F L log a w,K F L log->St C0 B wI F L (N+m) a w->wpOps P ops.toArray Q (u6 m tail.length) a w):
  ∀(rest:List Oper) (i:Nat) (F:List AV) (L:Sto) (log:dX) (a:Act) (w:World),i<=ops.length->ops.drop i=rest++tail->cN P N (ops.map (·.dst)) rest i F L log K->St C0 B wI F L (N+i) a w->wpOps P ops.toArray Q (u6 i (rest.length+tail.length)) a w
 |[],i,F,L,log,a,w,hil,hd,h,hS=>by
  have hi:i=m:=by have:=congrArg fg hd;simp at this;omega
  subst hi;unfold cN at h;grind
 |o::rest,i,F,L,log,a,w,hil,hd,h,hS=>by
  have hlt:i<ops.length:=by have:=congrArg fg hd;simp at this;omega
  have ho:ops[i]? =some o:=by have:=congrArg (λl=>l[0]?) hd;simpa using this
  have hd':ops.drop (i+1)=rest++tail:=by have:=congrArg List.tail hd;simpa using this
  rw[iJ,show rest.length+1+tail.length=(rest.length+tail.length)+1 by omega];refine Dq (by simpa using ho) ?_;obtain⟨⟨ρ,s1,s2,s3⟩,s4,s5,s6,s7⟩:=hS;have fin:∀(ρ':Ren) (W:List (Nat×Option Ob)) (r:AV) (v:Value) (w':World) (K':Prop),(∀s,cls s≠N+i->ρ' s=ρ s)->(∀b o' x,ak C0 B w ρ L b o' x->ak C0 B w' ρ' (aX L W) b o' x)->StR C0 ρ' (aX L W) w' B->
    aU ρ' (ak C0 B w' ρ' (aX L W)) r v->Below B w w'->St C0 B wI (cJ F o.dst r) (aX L W) (N+(i+1)) (a.put o.dst v) w':=by
   intro ρ' W r v w' _ k1 k2 k3 k4 k5;have hext:∀s q,ρ s=some q->ρ' s=some q:=by intro s q hq;rw[k1 s (by grind)];exact hq
   refine⟨⟨ρ',k3,by grind,λt=> ?_⟩,ci s4 k5.size,by cases hd2:o.dst<;>exact s5,by rw[kj];cases hd2:o.dst<;>simpa[kZ]using s6,s7.trans k5⟩;rw[nD,sm,s6];by_cases e:o.dst=some t/\t<F.length
   .grind
   .rw[if_neg e,if_neg e];exact aU.mono hext k2 _ _ (s3 t)
  have run:(∃r R W Rc Wc,bB P o (dC F) L (N+i) r R W/\inC R Rc/\inC (W.map (·.1)) Wc/\cN P N (ops.map (·.dst)) rest (i+1) (cJ F o.dst r) (aX L W) (log++[(Rc,Wc)]) K)->
    cX P o (λs=>a.tmps.getD s Go.undef) w λv w'=>wpOps P ops.toArray Q (u6 (i+1) (rest.length+tail.length)) (a.put o.dst v) w':=by
   rintro⟨r,R,W,Rc,Wc,hsim,_,_,hk⟩;have hgn:∀s,cls s=N+i->L s=none:=by
    intro s hs;cases hx:L s with
    |none=>rfl
    |some ob=>obtain⟨q,c,h1,_⟩:=s1.ob _ _ hx;grind
   refine nA (hsim C0 ρ L _ w B s1 s4 (λ_ _=>rfl) (by grind) hgn (λx _=>nH λt _=>s3 t)) ?_;rintro v w' ⟨ρ',k1,k2,k3,k4,k5⟩;exact sX hm hK rest (i+1) _ _ _ _ w' hlt hd' hk (fin ρ' W r v w' True k1 k2 k3 k4 k5)
  have skip:cN P N (ops.map (·.dst)) rest (i+1) (cJ F o.dst .undef) L (log++[([],[])]) K->wpOps P ops.toArray Q (u6 (i+1) (rest.length+tail.length)) (a.put o.dst Go.undef) w:=by intro h;exact sX hm hK rest (i+1) _ _ _ _ w hlt hd' h (fin ρ [] .undef Go.undef w True (λ_ _=>rfl) (λ_ _ _ h=>h) s1 (by rfl) (Below.refl _ _))
  have hgv:∀j b q,o.guard=some (j,b)->gdA (ops.map (·.dst)) F j=some q->gdV ops.toArray (λs=>a.tmps.getD s Go.undef) j=q:=by
   intro j b q hgd hq;unfold gdA at hq;rw[Jl]at hq;cases hd:(ops[j]?).bind (·.dst)with
   |none=>grind
   |some d=>
    rw[hd]at hq;have hrep:=s3 d;unfold gdV;rw[show(ops.toArray[j]?).bind (·.dst)=some d by grind];dsimp only at hq|-;split at hq
    .rename_i bb e;unfold aU a8 at hrep;grind
    .rename_i e;rw[e]at hrep;cases hq;rw[hrep];rfl
    .cases hq
  unfold cN at h;split at h
  .rename_i hgd;have hw:gv o (gdV ops.toArray λs=>a.tmps.getD s Go.undef)=true:=by unfold gv;rw[hgd]
   grind
  .rename_i j want hgd;split at h
   .rename_i b hb;split at h
    .rename_i e;subst e;have hw:gv o (gdV ops.toArray λs=>a.tmps.getD s Go.undef)=true:=by unfold gv;rw[hgd];dsimp only;rw[hgv j b _ hgd hb];simp
     grind
    .rename_i e;have hw:gv o (gdV ops.toArray λs=>a.tmps.getD s Go.undef)=false:=by unfold gv;rw[hgd];dsimp only;rw[hgv j want _ hgd hb];simpa using e
     grind
   .rename_i hb;have hw:gv o (gdV ops.toArray λs=>a.tmps.getD s Go.undef)=false:=by unfold gv;rw[hgd];dsimp only;rw[hgv j want _ hgd hb];rfl
    grind
   grind
def Sp{id N:Nat}{ops:List Oper}{Q:Exit->Act->World->Prop}{a:Act}{w:World}{F:List AV}{L:Sto}{K:List AV->Sto->Prop}
  (hS:St C0 B wI F L N a w) (h:cN P N (ops.map (·.dst)) ops 0 F L [] λF L _=>K F L)
  (hK:∀F L a w,K F L->St C0 B wI F L (N+ops.length) a w->Q .normal a w):(DC id ops.toArray false).wp P Q a w:=by
 refine wp_region ?_;have:=sX (P:=P) (C0:=C0) (B:=B) (wI:=wI) (Q:=Q) (tail:=[]) (m:=ops.length) rfl (λF L _ a w h hS=>hK F L a w h hS) ops 0 F L [] a w (cO _) (by simp) h (by omega);rw[List.range_eq_range'];omega
def ce(P:Program)(o:Oper)(F:List AV)(L:Sto)(N:Nat)(K:List AV->Sto->Nat->Prop):Prop:=∀(C0:bG) (B:Nat) (wI:World) (a:Act) (w:World),St C0 B wI F L N a w->
 cX P o (λs=>a.tmps.getD s Go.undef) w λv w'=>∃F' L' N',K F' L' N'/\St C0 B wI F' L' N' (a.put o.dst v) w'
def kW(P:Program)(ds:List (Option Nat)):Nat->List Oper->Nat->List AV->Sto->Nat->(List AV->Sto->Nat->Prop)->Prop
 |0,l,i,F,L,N,K=>cN P N ds l i F L [] λF L _=>K F L N
 |k+1,l,i,F,L,N,K=>(cN P N ds l i F L [] λF L _=>K F L N)\/∃pre o post,l=pre++o::post/\o.guard=none/\cN P N ds pre i F L [] λF L _=>ce P o F L (N+(i+pre.length)) λF L N'=>kW P ds k post (i+(pre.length+1)) F L N' K
def CH{ops:List Oper}{Q:Exit->Act->World->Prop}{K:List AV->Sto->Nat->Prop}(hK:∀F L N a w,K F L N->St C0 B wI F L (N+ops.length) a w->Q .normal a w):
  ∀(k:Nat) (l:List Oper) (i:Nat) (F:List AV) (L:Sto) (N:Nat) (a:Act) (w:World),i+l.length=ops.length->ops.drop i=l->kW P (ops.map (·.dst)) k l i F L N K->St C0 B wI F L (N+i) a w->wpOps P ops.toArray Q (u6 i l.length) a w
 |0,l,i,F,L,N,a,w,hil,hd,h,hS=>by
  have:=sX (P:=P) (C0:=C0) (B:=B) (wI:=wI) (Q:=Q) (ops:=ops) (tail:=[]) (m:=ops.length) (K:=λF L _=>K F L N) rfl (λF L _ a w h hS=>hK F L N a w h hS) l i F L [] a w (by omega) (by simpa using hd) h hS;simpa using this
 |k+1,l,i,F,L,N,a,w,hil,hd,.inl h,hS=>CH hK 0 l i F L N a w hil hd h hS
 |k+1,l,i,F,L,N,a,w,hil,hd,.inr h,hS=>by
  obtain⟨pre,o,post,rfl,hgd,h⟩:=h;have hlen:i+pre.length+(post.length+1)=ops.length:=by simp at hil;omega
  have hdm:ops.drop (i+pre.length)=o::post:=by rw[<-List.drop_drop,hd];simp
  have ho:ops[i+pre.length]? =some o:=by have:=congrArg (λl=>l[0]?) hdm;simpa using this
  have hd':ops.drop (i+(pre.length+1))=post:=by have:=congrArg List.tail hdm;simpa[oO]using this
  have:=sX (P:=P) (C0:=C0) (B:=B) (wI:=wI) (Q:=Q) (ops:=ops) (tail:=o::post) (m:=i+pre.length) (N:=N) (K:=λF L _=>ce P o F L (N+(i+pre.length)) λF L N'=>kW P (ops.map (·.dst)) k post (i+(pre.length+1)) F L N' K) (by simpa using hlen) (λF L _ a w h hS=>by
   rw[iJ];refine Dq (o:=o) (by simpa using ho) ?_;have hw:gv o (gdV ops.toArray λs=>a.tmps.getD s Go.undef)=true:=by unfold gv;rw[hgd]
   rw[if_pos hw];refine nA (h C0 B wI a w hS) ?_;rintro v w' ⟨F',L',N',h1,h2⟩;exact CH hK k post _ F' L' N' _ w' (by omega) hd' h1 (h2.mono (by omega))) pre i F L [] a w (by omega) hd h hS
  simpa using this
def WM{id N:Nat}{ops:List Oper}{k:Nat}{Q:Exit->Act->World->Prop}{a:Act}{w:World}{F:List AV}{L:Sto}{K:List AV->Sto->Nat->Prop}
  (hS:St C0 B wI F L N a w) (h:kW P (ops.map (·.dst)) k ops 0 F L N K)
  (hK:∀F L N a w,K F L N->St C0 B wI F L (N+ops.length) a w->Q .normal a w):(DC id ops.toArray false).wp P Q a w:=by
 refine wp_region ?_;have:=CH (P:=P) (C0:=C0) (B:=B) (wI:=wI) (Q:=Q) hK k ops 0 F L N a w (by omega) (by simp) h hS;rw[List.range_eq_range'];simpa using this
end
def cZ(F:List AV)(L:Sto)(N:Nat)(F':List AV)(L':Sto)(N':Nat):Prop:=∀(C0:bG) (B:Nat) (wI:World) (a:Act) (w:World),St C0 B wI F L N a w->St C0 B wI F' L' N' a w
def cZ.rfl{F:List AV}{L:Sto}{N:Nat}:cZ F L N F L N:=λ_ _ _ _ _ h=>h
def yD(P:Program)(draw:Bool)(ops:List Oper)(F:List AV)(L:Sto)(N:Nat)(K:List AV->Sto->Prop):Prop:=match draw with
 |true=>∃anc:List (List Nat),P.follows .mixedOrders=true/\rN ops anc=true/\((bO ops.length).all λi=>match(ops[i]?).bind (·.dst)with|some d=>decide (d<F.length)|none=>true)=true/\cN P N (ops.map (·.dst)) ops 0 F L [] λF L log=>nf anc log=true/\K F L
 |false=>(ops.all (λo=>match o.guard with|none=>true|some (j,_)=>((ops[j]?).bind (·.dst)).isSome)=true)/\cN P N (ops.map (·.dst)) ops 0 F L [] λF L _=>K F L
def awp(P:Program):Code->jw->List AV->Sto->Nat->Prop
 | .skip,Q,F,L,N=>Q .normal F L N
 | .region _ ops draw,Q,F,L,N=>(yD P draw ops.toList F L N λF L=>Q .normal F L (N+ops.size))\/(draw=false/\∃k,kW P (ops.toList.map (·.dst)) k ops.toList 0 F L N λF L N=>∃F' L' N',cZ F L (N+ops.size) F' L' N'/\Q .normal F' L' N')\/(draw=true/\yD P true ops.toList F L N λF L=>∃F' L' N',cZ F L (N+ops.size) F' L' N'/\Q .normal F' L' N')
 | .seq a b,Q,F,L,N=>∃M:List AV->Sto->Nat->Prop,awp P a (λe F L N=>match e with| .normal=>M F L N|e=>Q e F L N) F L N/\∀F L N,M F L N->∃F' L' N',cZ F L N F' L' N'/\awp P b Q F' L' N'
 | .cond c t e,Q,F,L,N=>∃b,dC F c= .p (.bool b)/\(b=true->awp P t Q F L N)/\(b=false->awp P e Q F L N)
 | .block id c,Q,F,L,N=>awp P c (λe F L N=>match e with| .exit id'=>if id'=id then Q .normal F L N else Q (.exit id') F L N|e=>Q e F L N) F L N
 | .loop c,Q,F,L,N=>∃(Inv:List AV->Sto->Nat->Prop) (μ:List AV->Sto->Nat->Nat),(∃F' L' N',cZ F L N F' L' N'/\Inv F' L' N')/\
    ∀F L N,Inv F L N->awp P c (λe F1 L1 N1=>match e with| .normal=>∃F' L' N',cZ F1 L1 N1 F' L' N'/\Inv F' L' N'/\μ F' L' N'<μ F L N|e=>Q e F1 L1 N1) F L N
 | .exit id,Q,F,L,N=>Q (.exit id) F L N
 | .ret,Q,F,L,N=>Q .ret F L N
 | .scope c,Q,F,L,N=>awp P c (λe F L N=>match e with| .goto _=>False|e=>Q e F L N) F L N
 | .label _,Q,F,L,N=>Q .normal F L N
 |_,_,_,_,_=>False
def EA{P:Program}{c:Code}{Q:Exit->Act->World->Prop}:∀{n:Nat} {a:Act} {w:World},yQ P c Q n a w->yQ P c Q (n+1) a w
 |0,_,_,h=>h.elim
 |n+1,a,w,h=>by
  refine wp_mono h ?_;intro e a w h;cases e<;>first|exact h|exact EA h
def Uf{P:Program}{c:Code}{Q:Exit->Act->World->Prop}{n m:Nat}(h:n<=m){a:Act}{w:World}(hr:yQ P c Q n a w):yQ P c Q m a w:=by
 induction h with
 |refl=>exact hr
 |step _ ih=>exact EA ih
def UH{P:Program}{c:Code}{Q:Exit->Act->World->Prop}{a:Act}{w:World}(I:Nat->Act->World->Prop){n:Nat}(h0:I n a w)
  (hr:∀n a w,I n a w->c.wp P (Exit.then (λa' w'=>∃m,m<n/\I m a' w') Q) a w):(Code.loop c).wp P Q a w:=by
 have key:∀n a w,I n a w->yQ P c Q (n+1) a w:=by
  intro n;induction n using Nat.strongRecOn with
  |ind n ih=>
   intro a w h;refine wp_mono (hr n a w h) ?_;intro e a' w' h';cases e<;>first|exact h'|skip
   obtain⟨m,hm,hI⟩:=h';exact Uf (by grind) (ih m hm a' w' hI)
 exact wp_loop_rounds (n+1) (key n a w h0)
def vr{P:Program}{C0:bG}{B:Nat}{wI:World}:∀(c:Code) (Q:jw) (F:List AV) (L:Sto) (N:Nat) (a:Act) (w:World),awp P c Q F L N->St C0 B wI F L N a w->
  c.wp P (λe a' w'=>∃F' L' N',Q e F' L' N'/\St C0 B wI F' L' N' a' w') a w:=by
 intro c;induction c with
 |skip=>intro Q F L N a w h hS;exact wp_skip ⟨F,L,N,h,hS⟩
 |region id ops draw=>
  intro Q F L N a w h hS;rcases h with h|⟨rfl,k,h3⟩|⟨rfl,anc,h1,h2,h3,h4⟩
  rotate_left
  .refine WM (ops:=ops.toList) hS h3 ?_;rintro F1 L1 N1 a1 w1 ⟨F',L',N',hw,hq⟩ hs;exact⟨F',L',N',hq,hw C0 B wI a1 w1 (by simpa using hs)⟩
  .refine Dv (id:=id) (P:=P) (Q:=λe a' w'=>∃F' L' N',Q e F' L' N'/\St C0 B wI F' L' N' a' w') h1 anc h2 h3 hS h4 ?_;rintro F1 L1 a1 w1 ⟨F',L',N',hw,hq⟩ _ hs;exact⟨F',L',N',hq,hw C0 B wI a1 w1 (by simpa using hs)⟩
  cases draw with
  |true=>
   obtain⟨anc,h1,h2,h3,h4⟩:=h;have:=Dv (id:=id) (P:=P) (Q:=λe a' w'=>∃F' L' N',Q e F' L' N'/\St C0 B wI F' L' N' a' w') h1 anc h2 h3 hS h4 (by grind);omega
  |false=>
   obtain⟨h1,h4⟩:=h;have:=Sp (id:=id) (P:=P) (Q:=λe a' w'=>∃F' L' N',Q e F' L' N'/\St C0 B wI F' L' N' a' w') hS h4 (by grind);omega
 |seq x y ihx ihy=>
  intro Q F L N a w h hS;obtain⟨M,h1,h2⟩:=h;refine wp_seq (wp_mono (ihx _ F L N a w h1 hS) ?_);rintro e a' w' ⟨F',L',N',hq,hs⟩;cases e<;>first|exact⟨F',L',N',hq,hs⟩|(obtain⟨F2,L2,N2,hw,hy⟩:=h2 _ _ _ hq;exact ihy Q F2 L2 N2 a' w' hy (hw C0 B wI a' w' hs))
 |cond c t e iht ihe=>
  intro Q F L N a w h hS;obtain⟨b,hb,h1,h2⟩:=h;obtain⟨⟨ρ,s1,s2,s3⟩,_⟩:=id hS;have hc:a.eval c= .bool b:=by rw[Act.eval_evalV];have:=nH (x:=c) (F:=F) (V:=λs=>a.tmps.getD s undef) (ρ:=ρ) (C:=ak C0 B w ρ L) (λt _=>s3 t);rw[hb]at this;unfold aU a8 at this;exact this
  exact wp_cond_split hc (by grind) (by grind)
 |block id c ih=>
  intro Q F L N a w h hS;refine wp_block (wp_mono (ih _ F L N a w h hS) ?_);rintro e a' w' ⟨F',L',N',hq,hs⟩;cases e<;>first|exact⟨F',L',N',hq,hs⟩|skip
  rename_i id';unfold Exit.inBlock;grind
 |loop c ih=>
  intro Q F L N a w h hS;obtain⟨Inv,μ,⟨F0,L0,N0,hw0,hI0⟩,hround⟩:=h;refine UH (λn a w=>∃F L N,Inv F L N/\St C0 B wI F L N a w/\μ F L N=n) ⟨F0,L0,N0,hI0,hw0 C0 B wI a w hS,rfl⟩ ?_;rintro n a' w' ⟨F1,L1,N1,hI1,hS1,rfl⟩;refine wp_mono (ih _ F1 L1 N1 a' w' (hround F1 L1 N1 hI1) hS1) ?_;rintro e a2 w2 ⟨F2,L2,N2,hq,hs⟩;cases e<;>first|exact⟨F2,L2,N2,hq,hs⟩|skip
  obtain⟨F3,L3,N3,hw,hI3,hlt⟩:=hq;exact⟨_,hlt,F3,L3,N3,hI3,hw C0 B wI a2 w2 hs,rfl⟩
 |exit id=>intro Q F L N a w h hS;exact wp_exit ⟨F,L,N,h,hS⟩
 |ret=>intro Q F L N a w h hS;exact wp_ret ⟨F,L,N,h,hS⟩
 |rangeFunc f params x y _ _=>intro Q F L N a w h;exact h.elim
 |scope c ih=>
  intro Q F L N a w h hS;refine wp_scope_straight (wp_mono (ih _ F L N a w h hS) ?_);rintro e a' w' ⟨F',L',N',hq,hs⟩;cases e<;>first|exact hq.elim|exact⟨F',L',N',hq,hs⟩
 |label l=>intro Q F L N a w h hS;exact wp_label ⟨F,L,N,h,hS⟩
 |goto l=>intro Q F L N a w h;exact h.elim
 |refuse s=>intro Q F L N a w h;exact h.elim
section
variable {P:Program} {y:Code} {Q:jw} {F:List AV} {L:Sto} {N:Nat}
def gOk(l:List Oper):Bool:=l.all λo=>match o.guard with|none=>true|some (j,_)=>((l[j]?).bind (·.dst)).isSome
def dOk(l:List Oper)(n:Nat):Bool:=(bO l.length).all λi=>match(l[i]?).bind (·.dst)with|some d=>decide (d<n)|none=>true
def Sy{x:Code}(J:List AV->Sto->Nat->Prop)(h1:awp P x (λe F L N=>match e with| .normal=>∃F' L' N',cZ F L N F' L' N'/\J F' L' N'|e=>Q e F L N) F L N)(h2:∀F L N,J F L N->awp P y Q F L N):awp P (.seq x y) Q F L N:=
 ⟨λF L N=>∃F' L' N',cZ F L N F' L' N'/\J F' L' N',h1,by grind⟩
def XK{c:Code}(Inv:List AV->Sto->Nat->Prop)(μ:List AV->Sto->Nat)(h0:∃F' L' N',cZ F L N F' L' N'/\Inv F' L' N')
 (hr:∀F L N,Inv F L N->awp P c (λe F1 L1 N1=>match e with| .normal=>∃F' L' N',cZ F1 L1 N1 F' L' N'/\Inv F' L' N'/\μ F' L'<μ F L|e=>Q e F1 L1 N1) F L N):awp P (.loop c) Q F L N:=⟨Inv,λF L _=>μ F L,h0,hr⟩
def Fg{c:Code}(Inv:List AV->Sto->Nat->Prop)(μ:List AV->Sto->Nat->Nat)(h0:∃F' L' N',cZ F L N F' L' N'/\Inv F' L' N')
 (hr:∀F L N,Inv F L N->awp P c (λe F1 L1 N1=>match e with| .normal=>∃F' L' N',cZ F1 L1 N1 F' L' N'/\Inv F' L' N'/\μ F' L' N'<μ F L N|e=>Q e F1 L1 N1) F L N):awp P (.loop c) Q F L N:=⟨Inv,μ,h0,hr⟩
end
section
variable {P:Program} {N:Nat} {ds:List (Option Nat)} {K:List AV->Sto->dX->Prop}
def G4:∀(l1:List Oper) {l2:List Oper} {i:Nat} {F:List AV} {L:Sto} {log:dX},(∀K1:List AV->Sto->dX->Prop,(∀F L log,cN P N ds l2 (i+l1.length) F L log K->K1 F L log)->cN P N ds l1 i F L log K1)->cN P N ds (l1++l2) i F L log K:=by
 intro l1 l2 i F L log h;have key:∀(l1:List Oper) (i:Nat) (F:List AV) (L:Sto) (log:dX),cN P N ds l1 i F L log (λF L log=>cN P N ds l2 (i+l1.length) F L log K)=cN P N ds (l1++l2) i F L log K:=by
  intro l1;induction l1 with
  |nil=>intro i F L log;simp only[cN,iI,ux,List.nil_append]
  |cons o l1 ih=>
   intro i F L log;have e:∀(i:Nat),i+(o::l1).length=(i+1)+l1.length:=by grind
   simp only[ma,cN,e,ih]
 grind
def vu{i:Nat}{F:List AV}{L:Sto}{log:dX}(h:K F L log):cN P N ds [] i F L log K:=by unfold cN;exact h
end
def fV(P:Program):List ResultVar->List AV->(Nat->Option Ob)->(List AV->Prop)->Prop
 |[],_,_,K=>K []
 | .tmp t::rs,F,σ,K=>fV P rs F σ λl=>K (F.getD t .any::l)
 | .cell a t::rs,F,σ,K=>(match F.getD a .any with
   | .ptr s off=>∃ob,σ s=some ob/\nq P t ob.cells off λr=>fV P rs F σ λl=>K (r::l)
   |_=>False)
def jX:List PV->PV
 |[x] =>x
 |m=> .tup m
def xo(tmps:Array Value):ResultVar->Sem Value
 | .tmp t=>pure (tmps.getD t Go.undef)
 | .cell a t=>do loadVar t (<-asAddr (tmps.getD a Go.undef))
def vO(fn:Func)(tmps:Array Value):results fn tmps=(do let vs<-fn.results.mapM (xo tmps);pure (if h:vs.size=1 then vs[0]else .tuple vs)):=by
 congr 1
def ra(P:Program)(rs:List ResultVar)(r:PV):jw:=λe F L _=>match e with
 | .normal| .ret=>fV P rs F L λl=>∃m,cM (cq 3 L) l=some m/\jX m=r
 |_=>False
section
variable {P:Program} {C0:bG} {B:Nat} {wI:World}
def qR{ρ:Ren}{σ:Nat->Option Ob}{a:Act}{w:World}{F:List AV}(hs:StR C0 ρ σ w B)(hf:∀t,aU ρ (ak C0 B w ρ σ) (F.getD t .any) (a.tmps.getD t Go.undef)):
  ∀(rs:List ResultVar) (K:List AV->Prop),fV P rs F σ K->∃l vs,K l/\(rs.mapM (xo a.tmps)).run P w= .ok vs w/\ao ρ (ak C0 B w ρ σ) l vs
 |[],K,h=>⟨[],[],h,by simp,by rfl⟩
 | .tmp t::rs,K,h=>by
   obtain⟨l,vs,h1,h2,h3⟩:=qR hs hf rs _ h;refine⟨_,_::vs,h1,?_,by exact⟨_,vs,rfl,hf t,h3⟩⟩;simp[List.mapM_cons,h2,xo]
 | .cell x t::rs,K,h=>by
   unfold fV at h;split at h
   .rename_i s off e;obtain⟨ob,hob,hl⟩:=h;obtain⟨r,hr,hv⟩:=FK hl;obtain⟨l,vs,h1,h2,h3⟩:=qR hs hf rs _ hr;have hx:=hf x;rw[e]at hx;obtain⟨b,c,hq,hpt⟩:=hx;obtain⟨_,arr,hO⟩:=hs.at hob hq;obtain⟨v,hrun,hrep⟩:=hv _ _ w b c arr hO;have hrun':(loadVar t ⟨b,off,none⟩).run P w= .ok v w:=by simpa[yL,yM]using hrun
    refine⟨_,v::vs,h1,?_,by unfold ao;grind⟩;simp[List.mapM_cons,h2,xo,hpt,asAddr,hrun']
   grind
def uY:Sto:=λs=>if s=sit 0 0 then some ⟨0,0,[.undef]⟩else none
def mF(L:Sto)(N:Nat):Prop:=(L=(λ_=>none)/\N=0)\/(L=uY/\N=1)
def mF.st{L:Sto}{N:Nat}(h:mF L N){C:bG}{w:World}(hC:∀b o v,C b o v->w.cell? ⟨b,o,none⟩=some v):
  ∃ρ:Ren,StR C ρ L w w.heap.size/\(∀s,N<=cls s->ρ s=none)/\∀s b c,ρ s≠some (some b,c):=by
 rcases h with⟨rfl,rfl⟩|⟨rfl,rfl⟩
 .exact⟨λ_=>none,⟨by grind,by grind,by grind⟩,λ_ _=>rfl,by grind⟩
 .have hat:∀s o,uY s=some o->s=sit 0 0/\o=⟨0,0,[.undef]⟩:=by
   intro s o h;unfold uY at h;split at h
   .grind
   .cases h
  refine⟨λs=>if s=sit 0 0 then some (none,0)else none,⟨?_,?_,?_⟩,?_,?_⟩
  .intro s o h;obtain⟨rfl,rfl⟩:=hat s o h;have hno:∀i v,¬C w.heap.size i v:=λi v hv=>absurd (f0 w ⟨w.heap.size,i,none⟩ (hC _ _ _ hv)) (Nat.lt_irrefl _);exact⟨none,0,by simp,.inl ⟨rfl,.inr ⟨rfl,.inl (by grind)⟩⟩⟩
  .grind
  .grind
  .intro s hs;try dsimp only
   split
   .rename_i e;rw[e,fT]at hs;omega
   .rfl
  grind
def vT{f:FuncId}{fn:Func}{c:Code}{A:List PV}{r:PV}(hok:fy P f=true)(hf:P.funcs[f]? =some fn)(hb:fn.body=some c)
  {L0:Sto} {N0:Nat} (h0:mF L0 N0) (h:awp P c (ra P fn.results.toList r) (A.map .p++bS (fn.ntmps-A.length) .undef) L0 N0):Sat P false f A r:=by
 refine⟨hok,λC w vs hC hrep=> ?_⟩;obtain⟨ρ0,z1,z2,z3⟩:=h0.st hC;have hlen:=hrep.length;refine calls_of_wp hf hb (wp_mono (vr (C0:=C) (B:=w.heap.size) (wI:=w) c _ _ _ _ _ _ h ?_) ?_)
 .refine⟨⟨ρ0,z1,z2,λt=> ?_⟩,az _,rfl,by simp[hlen],Below.refl _ _⟩;by_cases ht:t<A.length
  .have e1:(A.map AV.p++bS (fn.ntmps-A.length) AV.undef).getD t .any= .p A[t] :=by rw[bq,iL (by grind)];simp[ht]
   obtain⟨v,h1,h2⟩:=hrep.get _ _ t A[t] (by grind);have e2:(vs.toArray++kY (fn.ntmps-vs.toArray.size) undef).getD t undef=v:=by rw[fW,yR (by simp;omega)];simp[h1]
   rw[e1];rw[e2];refine a8.mono (λb o x hx=>⟨hC b o x hx,by grind,.inr hx⟩) _ v h2
  .by_cases ht2:t<A.length+(fn.ntmps-A.length)
   .have e1:(A.map AV.p++bS (fn.ntmps-A.length) AV.undef).getD t .any= .undef:=by rw[bq,iU (by simp;omega),jf,if_pos (by simp;omega)];rfl
    have e2:(vs.toArray++kY (fn.ntmps-vs.toArray.size) undef).getD t undef=undef:=by rw[fW,DM (by simp;omega),yK];split<;>rfl
    rw[e1];rw[e2];rfl
   .have e1:(A.map AV.p++bS (fn.ntmps-A.length) AV.undef).getD t .any= .any:=by rw[bq,eQ (by simp;omega)];rfl
    rw[e1];trivial
 .rintro e a w' ⟨F,L,N,hq,⟨ρ,s1,s2,s3⟩,s4,s5,s6,s7⟩;have fin:fV P fn.results.toList F L (λl=>∃m,cM (cq 3 L) l=some m/\jX m=r)->a.defers=[]/\∃v,(results fn a.tmps).run P w'= .ok v w'/\∃v',Ending.returned v= .returned v'/\a8 (λb o x=>((false:Bool)=false/\C b o x)\/(w.heap.size<=b/\w'.cell? ⟨b,o,none⟩=some x)) r v'/\Below w.heap.size w w':=by
   intro h;refine⟨s5,?_⟩;obtain⟨l,us,⟨m,hm,hr⟩,h2,h3⟩:=qR s1 s3 _ _ h;have hres:(results fn a.tmps).run P w'= .ok (if h:us.toArray.size=1 then us.toArray[0]else .tuple us.toArray) w':=by rw[vO,DN];simp only[bo,DO,h2,b9,cK]
   refine⟨_,hres,_,rfl,?_,s7⟩;obtain⟨g1,g2⟩:=jM hm;have hrl:bK (λb o x=>((false:Bool)=false/\C b o x)\/(w.heap.size<=b/\w'.cell? ⟨b,o,none⟩=some x)) m us:=by
    refine bK.of _ _ (by rw[<-g1];exact h3.length) λi y hi=> ?_;have hlt:i<l.length:=by rw[g1];grind
    obtain⟨y',h5,h6⟩:=g2 i _ (dA hlt);rw[hi]at h5;cases h5;obtain⟨v,k1,k2⟩:=h3.get _ _ i _ (dA hlt);refine⟨v,k1,vw s1 _ (λ_=>True) ?_ ?_ 3 _ _ v h6 (by grind) k2⟩
    .rintro b o x ⟨e1,e2,e3⟩;grind
    .grind
   rw[<-hr];cases m with
   |nil=>
    subst hrl;exact⟨[],rfl,by rfl⟩
   |cons x m=>
    cases m with
    |nil=>
     obtain⟨v,r',rfl,h7,h8⟩:=hrl;subst h8;unfold jX;grind
    |cons y m=>
     have hl:¬us.toArray.size=1:=by have:=hrl.length;simp at this;simp;omega
     unfold jX a8;grind
  cases e<;>first|exact fin hq|exact hq.elim
end
def fR:∀{l:List AV} {A:List PV},bJ l=some A->l=A.map .p
 |[],A,h=>by simp[bJ]at h;subst h;rfl
 |x::l,A,h=>by
  unfold bJ at h;split at h
  .grind
  .rename_i y l' e;cases e;simp only[iT]at h;obtain⟨r,h1,rfl⟩:=h;rw[fR h1];rfl
  .cases h
section
variable {P:Program} {σ:Nat->Option Ob} {f:FuncId} {fr:Bool} {A:List PV} {r:PV} {avs:List AV} {K:Res}
def yv(hs:Sat P fr f A r)(hA:bJ avs=some A)(hK:K (.p r) [] []):mC P σ f avs K:=by have:=fR hA;subst this;refine .inl ⟨A,pU 3 σ A,fr,r,hs,.inl ⟨.inr hA,?_⟩⟩;rw[kN];exact hK
def Dx{R:List Nat}(hs:Sat P true f A r)(hA:cM (cq 3 σ) avs=some A)(hR:bD (bc 3 σ) avs=R)(hK:K (.p r) R []):mC P σ f avs K:=by subst hR;exact .inl ⟨A,hA,true,r,hs,by grind⟩
def TM{R:List Nat}(hs:Sat P fr f A r)(hA:cM (cq 3 σ) avs=some A)(hR:bD (bc 3 σ) avs=R)(hK:K (.p r) R (R.map (·,none))):mC P σ f avs K:=by subst hR;exact .inl ⟨A,hA,fr,r,hs,.inr hK⟩
def PV.flat:PV->Bool
 | .int .. | .bool _| .str _=>true
 | .agg l| .tup l=>l.all λx=>match x with| .int .. | .bool _| .str _=>true|_=>false
 |_=>false
def a8.flat1{C C':bG}{x:PV}{v:Value}(hf:(match x with| .int .. | .bool _| .str _=>true|_=>false)=true)(h:a8 C x v):a8 C' x v:=by cases x<;>first|(cases hf;done)|(unfold a8 at*;exact h)
def bK.flat{C C':bG}:∀{l:List PV} {vs:List Value},l.all (λx=>match x with| .int .. | .bool _| .str _=>true|_=>false)=true->bK C l vs->bK C' l vs
 |[],vs,_,h=>by exact h
 |x::l,vs,hf,h=>by
  obtain⟨v,r,rfl,h1,h2⟩:=h;simp only[List.all_cons,cD]at hf;exact⟨v,r,rfl,a8.flat1 hf.1 h1,bK.flat hf.2 h2⟩
def a8.flat{C C':bG}{x:PV}{v:Value}(hf:x.flat=true)(h:a8 C x v):a8 C' x v:=by
 cases x<;>first|(cases hf;done)|(unfold a8 at*;exact h)|skip
 .obtain⟨vs,h1,h2,h3⟩:=h;exact⟨vs,h1,bK.flat hf h2,h3⟩
 .obtain⟨vs,h1,h2⟩:=h;exact⟨vs,h1,bK.flat hf h2⟩
def Sat.fresh(hs:Sat P fr f A r)(hf:r.flat=true):Sat P true f A r:=
 ⟨hs.1,λC w vs hC hr=>(hs.2 C w vs hC hr).mono λ_e _w' ⟨v,h1,h2,h3⟩=>⟨v,h1,a8.flat hf h2,h3⟩⟩
end
def Ch(P:Program)(rs:List ResultVar)(ty esz:Nat)(cells:List PV)(m:Nat)(ys:List PV):jw:=λe F L _=>match e with
 | .normal| .ret=>fV P rs F L λl=>(∃s,l= .own s 0 m::ys.map .p/\L s=some ⟨ty,esz,cells.map .p⟩)\/(l= .nil::ys.map .p/\m=0/\cells=[])
 |_=>False
section
variable {P:Program} {C0:bG} {B:Nat} {wI:World}
def ao.wA{ρ:Ren}{C:bG}:∀{l:List PV} {vs:List Value},ao ρ C (l.map .p) vs->bK C l vs
 |[],vs,h=>by exact h
 |x::l,vs,h=>by
  obtain⟨v,r,rfl,h2,h3⟩:=h;exact⟨v,r,rfl,h2,ao.wA h3⟩
def E4{f:FuncId}{fn:Func}{c:Code}{A:List PV}{Q:jw}{C:bG}{w:World}{vs:List Value}{R:Ending->World->Prop}(hf:P.funcs[f]? =some fn)(hb:fn.body=some c)(hC:∀b o v,C b o v->w.cell? ⟨b,o,none⟩=some v)(hrep:bK C A vs)
  {L0:Sto} {N0:Nat} (h0:mF L0 N0) (h:awp P c Q (A.map .p++bS (fn.ntmps-A.length) .undef) L0 N0)
  (hR:∀e a w' F L N,Q e F L N->St C w.heap.size w F L N a w'->(match e with| .normal| .ret=>a.defers=[]/\∃v,(results fn a.tmps).run P w'= .ok v w'/\R (.returned v) w'|_=>False)):Calls P f vs.toArray w R:=by
 obtain⟨ρ0,z1,z2,z3⟩:=h0.st hC;have hlen:=hrep.length;refine calls_of_wp hf hb (wp_mono (vr (C0:=C) (B:=w.heap.size) (wI:=w) c _ _ _ _ _ _ h ?_) ?_)
 .refine⟨⟨ρ0,z1,z2,λt=> ?_⟩,az _,rfl,by simp[hlen],Below.refl _ _⟩;by_cases ht:t<A.length
  .have e1:(A.map AV.p++bS (fn.ntmps-A.length) AV.undef).getD t .any= .p A[t] :=by rw[bq,iL (by grind)];simp[ht]
   obtain⟨v,h1,h2⟩:=hrep.get _ _ t A[t] (by grind);have e2:(vs.toArray++kY (fn.ntmps-vs.toArray.size) undef).getD t undef=v:=by rw[fW,yR (by simp;omega)];simp[h1]
   rw[e1];rw[e2];refine a8.mono (λb o x hx=>⟨hC b o x hx,by grind,.inr hx⟩) _ v h2
  .by_cases ht2:t<A.length+(fn.ntmps-A.length)
   .have e1:(A.map AV.p++bS (fn.ntmps-A.length) AV.undef).getD t .any= .undef:=by rw[bq,iU (by simp;omega),jf,if_pos (by simp;omega)];rfl
    have e2:(vs.toArray++kY (fn.ntmps-vs.toArray.size) undef).getD t undef=undef:=by rw[fW,DM (by simp;omega),yK];split<;>rfl
    rw[e1];rw[e2];rfl
   .have e1:(A.map AV.p++bS (fn.ntmps-A.length) AV.undef).getD t .any= .any:=by rw[bq,eQ (by simp;omega)];rfl
    rw[e1];trivial
 .rintro e a w' ⟨F,L,N,hq,hS⟩;have:=hR e a w' F L N hq hS;cases e<;>first|exact this|exact this.elim
def TB{f:FuncId}{fn:Func}{c:Code}{A:List PV}{ty esz:Nat}{cells:List PV}{m:Nat}{ys:List PV}(hok:fy P f=true)(he:esz≠0)(hf:P.funcs[f]? =some fn)(hb:fn.body=some c)
  {L0:Sto} {N0:Nat} (h0:mF L0 N0) (h:awp P c (Ch P fn.results.toList ty esz cells m ys) (A.map .p++bS (fn.ntmps-A.length) .undef) L0 N0):uo P f A ty esz cells m ys:=by
 refine⟨hok,he,λC w vs hC hrep=>E4 hf hb hC hrep h0 h ?_⟩;rintro e a w' F L N hq ⟨⟨ρ,s1,s2,s3⟩,s4,s5,s6,s7⟩;have fin:fV P fn.results.toList F L (λl=>(∃s,l= .own s 0 m::ys.map .p/\L s=some ⟨ty,esz,cells.map .p⟩)\/(l= .nil::ys.map .p/\m=0/\cells=[]))->a.defers=[]/\∃v,(results fn a.tmps).run P w'= .ok v w'/\∃v' us q c,Ending.returned v= .returned (ue v' us)/\Below w.heap.size w w'/\bK (lM C w.heap.size q w') ys us/\
   ((q=none/\v'= .slice none 0 0/\m=0/\cells=[]/\c=0)\/∃b arr,q=some b/\v'= .slice (some ⟨b,0,none⟩) m c/\m<=c/\w.heap.size<=b/\w'.heap[b]? =some (.cells arr ty (0,0))/\
     arr.size=c*esz/\cells.length<=arr.size/\c<=maxLen/\∀(i:Nat) x,cells[i]? =some x->∃u,arr[i]? =some u/\u.oneCell'=true/\a8 (lM C w.heap.size q w') x u):=by
  intro h;refine⟨s5,?_⟩;obtain⟨l,us,hl,h2,h3⟩:=qR s1 s3 _ _ h;have hres:(results fn a.tmps).run P w'= .ok (if h:us.toArray.size=1 then us.toArray[0]else .tuple us.toArray) w':=by rw[vO,DN];simp only[bo,DO,h2,b9,cK]
  refine⟨_,hres,?_⟩;have hout:∀v us',us=v::us'->(if h:us.toArray.size=1 then us.toArray[0]else Value.tuple us.toArray)=ue v us':=by
   rintro v us' rfl;cases us' with
   |nil=>rfl
   |cons u us'=>rfl
  rcases hl with⟨s,rfl,hs⟩|⟨rfl,hm,hc⟩
  .obtain⟨v,us',rfl,hv,hys⟩:=h3;obtain⟨q,c,hρ,hcase⟩:=hv;have hkeep:∀b o x,ak C w.heap.size w' ρ L b o x->lM C w.heap.size q w' b o x:=by
    rintro b o x ⟨e1,e2,e3|e3⟩
    .refine .inr ⟨e3,λhq=> ?_,e1⟩;grind
    .exact .inl e3
   refine⟨v,us',q,c,by grind,s7,bK.mono hkeep _ _ (ao.wA hys),?_⟩;obtain⟨q2,c2,hρ2,hob⟩:=s1.ob s _ hs;rw[hρ]at hρ2;cases hρ2;rcases hcase with⟨h1,h4,h5,_⟩|⟨b,o',c',h1,h4,h5,h6,h7⟩
   .simp_all
   .obtain⟨rfl,rfl⟩:=h7 rfl;rcases hob with⟨h8,_⟩|⟨b2,arr,h8,h9,h10⟩
    .grind
    .rw[h1]at h8;cases h8;obtain⟨r1,r2,r3⟩:=h10.row he;refine .inr ⟨b,arr,h1,h4,h5,h9,h10.blk,r1,by grind,r3,λi x hi=> ?_⟩;obtain⟨u,k1,k2,k3⟩:=h10.cells i (.p x) (by grind);exact⟨u,k1,k2,a8.mono hkeep x u k3⟩
  .obtain⟨v,us',rfl,hv,hys⟩:=h3;refine⟨v,us',none,0,by grind,s7,bK.mono ?_ _ _ (ao.wA hys),.inl ⟨rfl,hv,hm,hc,rfl⟩⟩;rintro b o x ⟨e1,e2,e3|e3⟩
   .exact .inr (by grind)
   .exact .inl e3
 cases e<;>first|exact fin hq|exact hq.elim
end
section
def XV{ρ:Ren}{C:bG}{A:List AV}{vs:List Value}{n:Nat}(h:ao ρ C A vs)(t:Nat):aU ρ C ((A++bS (n-A.length) AV.undef).getD t .any) ((vs.toArray++kY (n-vs.toArray.size) Go.undef).getD t Go.undef):=by
 have hlen:=h.length;by_cases ht:t<A.length
 .obtain⟨v,h1,h2⟩:=h.get _ _ t A[t] (by grind);have e2:(vs.toArray++kY (n-vs.toArray.size) Go.undef).getD t Go.undef=v:=by rw[fW,yR (by simp;omega)];simp[h1]
  grind
 .by_cases ht2:t<A.length+(n-A.length)
  .have e1:(A++bS (n-A.length) AV.undef).getD t .any= .undef:=by rw[bq,iU (by omega),jf,if_pos (by omega)];rfl
   have e2:(vs.toArray++kY (n-vs.toArray.size) Go.undef).getD t Go.undef=Go.undef:=by rw[fW,DM (by simp;omega),yK];split<;>rfl
   rw[e1,e2];rfl
  .have e1:(A++bS (n-A.length) AV.undef).getD t .any= .any:=by rw[bq,eQ (by simp;omega)];rfl
   rw[e1];trivial
abbrev du:Nat:=sit 0 0
def zk{C0:bG}{B:Nat}{ρ:Ren}{w:World}{L:Sto}{S:List AV}(h:StR C0 ρ L w B)(hL:L du=some ⟨0,0,.undef::S⟩):
  ∃c,ρ du=some (none,c)/\(∀(i:Nat) x,(AV.undef::S)[i]? =some x->∀v,C0 B i v->aU ρ (ak C0 B w ρ L) x v)/\∀i v,C0 B i v->i<(AV.undef::S).length:=by
 obtain⟨q,c,h1,⟨rfl,h2|⟨_,h2⟩⟩|⟨b,arr,_,_,h2⟩⟩:=h.ob _ _ hL
 .grind
 .rcases h2 with⟨_,h3,h4⟩|⟨h3,_⟩|⟨h3,_⟩
  .grind
  .cases h3
  .cases h3
 .obtain⟨v,_,h3,h4⟩:=h2.cells 0 .undef rfl;subst h4;cases h3
def StR.stk{C0 C1:bG}{B:Nat}{ρ:Ren}{w:World}{L:Sto}{S T:List AV}(h:StR C0 ρ L w B)(hL:L du=some ⟨0,0,.undef::S⟩)(h1:∀b,b<B->C1 b=C0 b)
  (h2:∀(i:Nat) x,T[i]? =some x->∀v,C1 B i v->aU ρ (ak C0 B w ρ L) x v) (h3:∀i v,C1 B i v->i<T.length):
  (∀b o x,ak C1 B w ρ (aX L [(du,some ⟨0,0,T⟩)]) b o x↔ak C0 B w ρ L b o x)/\StR C1 ρ (aX L [(du,some ⟨0,0,T⟩)]) w B:=by
 obtain⟨c0,k1,_,_⟩:=zk h hL;have hup:∀s,s≠du->aX L [(du,some ⟨0,0,T⟩)] s=L s:=by intro s hs;unfold aX;simp[cL,beq_eq_false_iff_ne.2 hs]
 have hus:aX L [(du,some ⟨0,0,T⟩)] du=some ⟨0,0,T⟩:=by unfold aX;simp[cL]
 have hC:∀b o x,ak C1 B w ρ (aX L [(du,some ⟨0,0,T⟩)]) b o x↔ak C0 B w ρ L b o x:=by
  intro b o x;have e:(B<=b\/C1 b o x)↔(B<=b\/C0 b o x):=by
   rcases jc b B with hb|hb
   .rw[h1 b hb]
   .omega
  unfold ak;rw[e];refine and_congr_right λ_=>and_congr_left λ_=>forall_congr' λs=>forall_congr' λc=> ?_;by_cases hs:s=du
  .grind
  .rw[hup s hs]
 refine⟨hC,?_,?_,?_⟩
 .intro s o ho;by_cases hs:s=du
  .subst hs;cases ho;exact⟨none,c0,k1,.inl ⟨rfl,.inr ⟨rfl,.inl ⟨rfl,λi x hi v hv=>aU.mono (λ_ _ h=>h) (by grind) x v (h2 i x hi v hv),h3⟩⟩⟩⟩
  .rw[hup s hs]at ho;obtain⟨q,c,e1,⟨e2,e3|⟨e3,e4⟩⟩|⟨b,arr,e2,e3,e4⟩⟩:=h.ob s o ho
   .grind
   .refine⟨q,c,e1,.inl ⟨e2,.inr ⟨e3,?_⟩⟩⟩;rcases e4 with⟨f1,f2,f3⟩|⟨f1,f2,es,clock,f3,f5,f6,f4⟩|⟨f1,f2,vs,f3,f4⟩
    .subst e2;exact absurd (h.mpi s du o _ c c0 ho hL e3 rfl e1 k1 (.inr ⟨f1,rfl⟩)) hs
    .exact .inr (.inl ⟨f1,f2,es,clock,f3,f5,f6,ao.mono (λ_ _ h=>h) (by grind) _ _ f4⟩)
    .exact .inr (.inr ⟨f1,f2,vs,f3,ao.mono (λ_ _ h=>h) (by grind) _ _ f4⟩)
   .refine⟨q,c,e1,.inr ⟨b,arr,e2,e3,e4.blk,e4.box,e4.row,λi x hi=> ?_⟩⟩;obtain⟨v,g1,g2,g3⟩:=e4.cells i x hi;exact⟨v,g1,g2,aU.mono (λ_ _ h=>h) (by grind) x v g3⟩
 .intro s s' o o' b c c' e1 e2 e3 e4;have n1:s≠du:=λe=>by grind
  have n2:s'≠du:=λe=>by grind
  rw[hup s n1]at e1;rw[hup s' n2]at e2;exact h.inj s s' o o' b c c' e1 e2 e3 e4
 .intro s s' o o' c c' e1 e2 m1 m2 e3 e4 hT;have key:∀s o,aX L [(du,some ⟨0,0,T⟩)] s=some o->∃o2,L s=some o2/\o2.ty=o.ty/\o2.esz=o.esz:=by
   intro s o ho;by_cases hs:s=du
   .grind
   .grind
  obtain⟨p,f1,f2,f3⟩:=key s o e1;obtain⟨p',f1',f2',f3'⟩:=key s' o' e2;exact h.mpi s s' p p' c c' f1 f1' (by omega) (by omega) e3 e4 (by unfold mW at*;grind)
variable {P:Program}
def oE:List AV->AV
 |[] => .undef
 |[x] =>x
 |l=> .tup l
def HU{C0:bG}{B:Nat}{fn:Func}{ρ:Ren}{σ:Nat->Option Ob}{a:Act}{w:World}{F:List AV}{K:List AV->Prop}(hs:StR C0 ρ σ w B)(hf:∀t,aU ρ (ak C0 B w ρ σ) (F.getD t .any) (a.tmps.getD t Go.undef))(h:fV P fn.results.toList F σ K):
  ∃l v,K l/\(results fn a.tmps).run P w= .ok v w/\aU ρ (ak C0 B w ρ σ) (oE l) v:=by
 obtain⟨l,us,hl,h2,h3⟩:=qR hs hf _ _ h;have hres:(results fn a.tmps).run P w= .ok (if h:us.toArray.size=1 then us.toArray[0]else .tuple us.toArray) w:=by rw[vO,DN];simp only[bo,DO,h2,b9,cK]
 refine⟨l,_,hl,hres,?_⟩;match l,us,h3 with
 |[],us,h3=>subst h3;rfl
 |[x],us,h3=>
  obtain⟨v,r,rfl,h4,h5⟩:=h3;subst h5;exact h4
 |x::y::l,us,h3=>
  have hlen:=h3.length;show aU _ _ (.tup (x::y::l)) _;unfold aU;grind
def Pk(P:Program)(rs:List ResultVar)(d:Option Nat)(m n:Nat)(K:List AV->Sto->Nat->Prop):jw:=λe Fc Lc Nc=>match e with
 | .normal| .ret=>fV P rs Fc Lc λl=>∃S F2,Lc du=some ⟨0,0,.undef::(S++F2)⟩/\S.length=m/\F2.length=n/\K (cJ F2 d (oE l)) (aX Lc [(du,some ⟨0,0,.undef::S⟩)]) Nc
 |_=>False
def yF(v:AV)(f:Nat)(caps:List AV):Prop:=v= .fn (.func f) [] caps\/∃q:List PV,v= .p (.fn (.func f) [] q)/\caps=q.map .p
def yF.rep{x:AV}{f:Nat}{caps:List AV}(h:yF x f caps){ρ:Ren}{C:bG}{v:Value}(hr:aU ρ C x v):∃vs:List Value,v= .func (.func f) #[] vs.toArray/\ao ρ C caps vs:=by
 rcases h with rfl|⟨q,rfl,rfl⟩
 .obtain⟨v1,v2,h1,h2,h3⟩:=hr;unfold ao at h2;subst h2;exact⟨v2,h1,h3⟩
 .unfold aU a8 at hr;obtain⟨v1,v2,h1,h2,h3⟩:=hr;unfold bK at h2;subst h2;exact⟨v2,h1,bK.toA h3⟩
def Wp{o:Oper}{c:Call}{f:Operand}{fid:FuncId}{fn:Func}{body:Code}{A caps S F:List AV}{L:Sto}{N:Nat}{K:List AV->Sto->Nat->Prop}(ho:o.op= .call c)(hc:c.callee= .value f)(hfv:yF (dC F f) fid caps)
  (hA:c.args.toList.map (dC F)++caps=A) (hok:fy P fid=true) (hf:P.funcs[fid]? =some fn) (hb:fn.body=some body) (hL:L du=some ⟨0,0,.undef::S⟩)
  (h:awp P body (Pk P fn.results.toList o.dst S.length F.length K) (A++bS (fn.ntmps-A.length) .undef) (aX L [(du,some ⟨0,0,.undef::(S++F)⟩)]) N):ce P o F L N K:=by
 intro C0 B wI a w ⟨⟨ρ,s1,s2,s3⟩,s4,s5,s6,s7⟩;obtain⟨c0,k1,k2,k3⟩:=zk s1 hL
 let V:Nat->Value:=λs=>a.tmps.getD s Go.undef
 have hev:∀x:Operand,aU ρ (ak C0 B w ρ L) (dC F x) (bF V x):=λx=>nH λt _=>s3 t;obtain⟨cv,hvf,hcv⟩:=hfv.rep (hev f);have hrun:(execOp (bF V) o).run P w= .ok (.enter fid (c.args.toList.map (bF V)++cv).toArray) w:=by
  unfold execOp;rw[ho];have e2: #[] ++oQ (bF V) c.args++cv.toArray=(c.args.toList.map (bF V)++cv).toArray:=by apply kd.1;simp
  simp only[resolve,hc,hvf,oR,bo,cK,b9,invoke,kI hok,e2]
 have hargs:ao ρ (ak C0 B w ρ L) A (c.args.toList.map (bF V)++cv):=by
  rw[<-hA];generalize c.args.toList=l;induction l with
  |nil=>exact hcv
  |cons x l ih=>rw[cV,cV,ma,ma];unfold ao;grind
 let C1:bG:=λb i v=>if b=B then(if i<(AV.undef::S).length then C0 B i v else a.tmps[i-(AV.undef::S).length]? =some v)else C0 b i v
 have hC1:∀b,b<B->C1 b=C0 b:=by grind
 have hC1B:∀i v,C1 B i v->if i<(AV.undef::S).length then C0 B i v else a.tmps[i-(AV.undef::S).length]? =some v:=by grind
 obtain⟨hCC,hst⟩:=s1.stk (C1:=C1) (T:= .undef::(S++F)) hL hC1 (by
  intro i x hi v hv;have hv:=hC1B i v hv;rw[<-ma]at hi;split at hv
  .grind
  .rw[iU (by omega)]at hi;have:=s3 (i-(AV.undef::S).length);simp_all) (by
  grind)
 unfold cX;rw[hrun];have hlen:=hargs.length;have hfin:∀(e:Exit) (a':Act) (w':World),(∃F' L' N',Pk P fn.results.toList o.dst S.length F.length K e F' L' N'/\St C1 B w F' L' N' a' w')->
   match e with| .normal| .ret=>a'.defers=[]/\∃v,(results fn a'.tmps).run P w'= .ok v w'/\∃v',Ending.returned v= .returned v'/\∃F' L' N',K F' L' N'/\St C0 B wI F' L' N' (a.put o.dst v') w'|_=>False:=by
  rintro e a' w' ⟨Fc,Lc,Nc,hq,⟨⟨ρ1,t1,t2,t3⟩,t4,t5,t6,t7⟩⟩;have fin:fV P fn.results.toList Fc Lc (λl=>∃S2 F2,Lc du=some ⟨0,0,.undef::(S2++F2)⟩/\S2.length=S.length/\F2.length=F.length/\K (cJ F2 o.dst (oE l)) (aX Lc [(du,some ⟨0,0,.undef::S2⟩)]) Nc)->
    a'.defers=[]/\∃v,(results fn a'.tmps).run P w'= .ok v w'/\∃v',Ending.returned v= .returned v'/\∃F' L' N',K F' L' N'/\St C0 B wI F' L' N' (a.put o.dst v') w':=by
   intro hr;obtain⟨l,v,⟨S2,F2,hL2,hS2,hF2,hK⟩,hres,hrep⟩:=HU t1 t3 hr;refine⟨t5,v,hres,v,rfl,_,_,Nc,hK,?_⟩;obtain⟨c1,j1,j2,j3⟩:=zk t1 hL2;have hl2:(AV.undef::S2).length=(AV.undef::S).length:=by simp[hS2]
   obtain⟨hCC2,hst2⟩:=t1.stk (C1:=C0) (T:= .undef::S2) hL2 (by grind) (by
    grind) (by
    grind)
   have hfr:∀t,aU ρ1 (ak C0 B w' ρ1 (aX Lc [(du,some ⟨0,0,.undef::S2⟩)])) (F2.getD t .any) (a.tmps.getD t Go.undef):=by
    intro t;by_cases ht:t<F2.length
    .have htm:t<a.tmps.size:=by rw[s6];omega
     have e1:F2.getD t .any=F2[t] :=by rw[bq];simp[ht]
     have e2:a.tmps.getD t Go.undef=a.tmps[t] :=by rw[fW];simp[htm]
     rw[e1,e2];refine aU.mono (λ_ _ h=>h) (by grind) _ _ (j2 ((AV.undef::S).length+t) F2[t] (by grind) a.tmps[t] ?_);grind
    .rw[bq,eQ (by omega)];trivial
   refine⟨⟨ρ1,hst2,t2,λt=> ?_⟩,t4,by cases hd:o.dst<;>exact s5,by rw[kj,hF2];cases hd:o.dst<;>simpa[kZ]using s6,s7.trans t7⟩;rw[nD,sm,s6];by_cases e:o.dst=some t/\t<F.length
   .rw[if_pos (by grind),if_pos e];exact aU.mono (λ_ _ h=>h) (by grind) _ _ hrep
   .grind
  cases e<;>first|exact fin hq|exact hq.elim
 refine calls_of_wp hf hb (wp_mono (vr (C0:=C1) (B:=B) (wI:=w) body _ _ _ _ _ _ h ?_) ?_)
 .refine⟨⟨ρ,hst,s2,λt=> ?_⟩,s4,rfl,by simp[hlen],Below.refl _ _⟩;exact aU.mono (λ_ _ h=>h) (by grind) _ _ (XV hargs t)
 .intro e a' w' h;have:=hfin e a' w' h;cases e<;>first|exact this|exact this.elim
end
section
abbrev Rf:=Nat->Option (Option Nat)
mutual
def dW(m:Rf):AV->AV->Prop
 | .any,_=>True
 | .p x,y=>y= .p x
 | .nil,y=>y= .nil
 | .undef,y=>y= .undef
 | .ptr s off,y=>∃o,m s=some (some o)/\y= .ptr o off
 | .own s o n,y=>(∃s',m s=some (some s')/\y= .own s' o n)\/(m s=some none/\y= .nil/\o=0/\n=0)
 | .agg l,y=>∃r,(y= .agg r\/∃q:List PV,y= .p (.agg q)/\r=q.map .p)/\dM m l r
 | .tup l,y=>∃r,(y= .tup r\/∃q:List PV,y= .p (.tup q)/\r=q.map .p)/\dM m l r
 | .fn f a b,y=>∃a2 b2,y= .fn f a2 b2/\dM m a a2/\dM m b b2
 | .mp s,y=>∃o,m s=some (some o)/\y= .mp o
def dM(m:Rf):List AV->List AV->Prop
 |[],r=>r=[]
 |x::l,r=>∃y r',r=y::r'/\dW m x y/\dM m l r'
end
def gu(m:Rf)(ρ:Ren):Ren:=λs=>match m s with
 |some (some o)=>ρ o
 |some none=>some (none,0)
 |none=>none
mutual
theorem qS{m:Rf}{ρ:Ren}{C C':bG}(hC:∀b o v,C b o v->C' b o v):∀(x y:AV) (v:Value),dW m x y->aU ρ C y v->aU (gu m ρ) C' x v
 | .any,y,v,_,_=>by trivial
 | .p x,y,v,h,hv=>by subst h;exact a8.mono hC _ v hv
 | .nil,y,v,h,hv=>by subst h;exact hv
 | .undef,y,v,h,hv=>by subst h;exact hv
 | .ptr s off,y,v,h,hv=>by
   obtain⟨o,h1,rfl⟩:=h;obtain⟨b,c,h2,h3⟩:=hv;exact⟨b,c,by unfold gu;grind,h3⟩
 | .own s o n,y,v,h,hv=>by
   rcases h with⟨s',h1,rfl⟩|⟨h1,rfl,rfl,rfl⟩
   .obtain⟨q,c,h2,h3⟩:=hv;exact⟨q,c,by unfold gu;grind,h3⟩
   .exact⟨none,0,by unfold gu;rw[h1],.inl ⟨rfl,hv,rfl,rfl⟩⟩
 | .agg l,y,v,h,hv=>by
   obtain⟨r,hy,hr⟩:=h;have:∃vs:List Value,v= .agg vs.toArray/\ao ρ C r vs/\fF vs:=by
    rcases hy with rfl|⟨q,rfl,rfl⟩
    .exact hv
    .obtain⟨vs,h1,h2,h3⟩:=hv;exact⟨vs,h1,h2.toA,h3⟩
   obtain⟨vs,h1,h2,h3⟩:=this;exact⟨vs,h1,oi hC l r vs hr h2,h3⟩
 | .tup l,y,v,h,hv=>by
   obtain⟨r,hy,hr⟩:=h;have:∃vs:List Value,v= .tuple vs.toArray/\ao ρ C r vs:=by
    rcases hy with rfl|⟨q,rfl,rfl⟩
    .exact hv
    .obtain⟨vs,h1,h2⟩:=hv;exact⟨vs,h1,h2.toA⟩
   obtain⟨vs,h1,h2⟩:=this;exact⟨vs,h1,oi hC l r vs hr h2⟩
 | .fn f a b,y,v,h,hv=>by
   obtain⟨a2,b2,rfl,h1,h2⟩:=h;obtain⟨vs1,vs2,h3,h4,h5⟩:=hv;exact⟨vs1,vs2,h3,oi hC a a2 vs1 h1 h4,oi hC b b2 vs2 h2 h5⟩
 | .mp s,y,v,h,hv=>by
   obtain⟨o,h1,rfl⟩:=h;obtain⟨c,h2,h3⟩:=hv;exact⟨c,by unfold gu;grind,h3⟩
theorem oi{m:Rf}{ρ:Ren}{C C':bG}(hC:∀b o v,C b o v->C' b o v):∀(l r:List AV) (vs:List Value),dM m l r->ao ρ C r vs->ao (gu m ρ) C' l vs
 |[],r,vs,h,hv=>by subst h;exact hv
 |x::l,r,vs,h,hv=>by
  obtain⟨y,r',rfl,h1,h2⟩:=h;obtain⟨v,vs',rfl,h3,h4⟩:=hv;exact⟨v,vs',rfl,qS hC x y v h1 h3,oi hC l r' vs' h2 h4⟩
end
def FF{m:Rf}:∀{l r:List AV},dM m l r->l.length=r.length/\∀(i:Nat) x,l[i]? =some x->∃y,r[i]? =some y/\dW m x y
 |[],r,h=>by unfold dM at h;grind
 |x::l,r,h=>by
  obtain⟨y,r',rfl,h1,h2⟩:=h;obtain⟨h3,h4⟩:=FF h2;grind
def js(m:Rf)(ob' ob:Ob):Prop:=ob'.ty=ob.ty/\ob'.esz=ob.esz/\dM m ob'.cells ob.cells
def StR.rf{C0:bG}{B:Nat}{ρ:Ren}{w:World}{L L':Sto}(m:Rf)(hinj:∀s s' o,m s=some (some o)->m s'=some (some o)->s=s')
  (hL:∀s ob',L' s=some ob'->match m s with|some (some o)=>∃ob,L o=some ob/\js m ob' ob|some none=>ob'.esz≠0/\ob'.cells=[] |none=>False) (s1:StR C0 ρ L w B):
  (∀b o v,ak C0 B w ρ L b o v->ak C0 B w (gu m ρ) L' b o v)/\StR C0 (gu m ρ) L' w B:=by
 have hCC:∀b o v,ak C0 B w ρ L b o v->ak C0 B w (gu m ρ) L' b o v:=by
  intro b o v ⟨e1,e2,e3⟩;refine⟨e1,λs c hs=> ?_,e3⟩;cases hl:L' s with
  |none=>rfl
  |some ob'=>
   unfold gu at hs;grind
 refine⟨hCC,?_,?_,?_⟩
 .intro s ob' hl;have:=hL s ob' hl;split at this
  .rename_i o ho;obtain⟨ob,h1,h2,h3,h4⟩:=this;obtain⟨q,c,k1,k2⟩:=s1.ob o ob h1;refine⟨q,c,by unfold gu;grind,?_⟩;obtain⟨g1,g2⟩:=FF h4;rcases k2 with⟨k2,⟨k3,k4,k5⟩|⟨k3,k4⟩⟩|⟨b,arr,k2,k3,k4⟩
   .grind
   .refine .inl ⟨k2,.inr ⟨by omega,?_⟩⟩;rcases k4 with⟨e1,e2,e3⟩|⟨e1,e2,es,clock,e3,e5,e6,e4⟩|⟨e1,e2,vs,e3,e4⟩
    .refine .inl ⟨by grind,λi x' hi v hv=> ?_,by grind⟩;obtain⟨x,hx,hr⟩:=g2 i x' hi;exact qS hCC _ _ v hr (e2 i x hx v hv)
    .exact .inr (.inl ⟨h2.trans e1,e2,es,clock,e3,e5,e6,oi hCC _ _ _ h4 e4⟩)
    .exact .inr (.inr ⟨h2.trans e1,e2,vs,e3,oi hCC _ _ _ h4 e4⟩)
   .refine .inr ⟨b,arr,k2,k3,⟨by rw[h2];exact k4.blk,λhz=>by rw[g1];exact k4.box (by omega),λhz=>by rw[h3,g1];exact k4.row (by omega),?_⟩⟩;intro i x' hi;obtain⟨x,hx,hr⟩:=g2 i x' hi;obtain⟨v,g3,g4,g5⟩:=k4.cells i x hx;exact⟨v,g3,g4,qS hCC _ _ v hr g5⟩
  .rename_i ho;exact⟨none,0,by unfold gu;rw[ho],by grind⟩
  grind
 .intro s s' o o' b c c' h1 h2 h3 h4;have g1:=hL s o h1;have g2:=hL s' o' h2;unfold gu at h3 h4;split at h3
  .rename_i x hx;rw[hx]at g1;obtain⟨ob,k1,_⟩:=g1;split at h4
   .rename_i x' hx';rw[hx']at g2;obtain⟨ob',k2,_⟩:=g2;have:=s1.inj x x' ob ob' b c c' k1 k2 h3 h4;grind
   .cases h4
   .cases h4
  .cases h3
  .cases h3
 .intro s s' o o' c c' h1 h2 m1 m2 h3 h4 hT;have g1:=hL s o h1;have g2:=hL s' o' h2;unfold gu at h3 h4;split at h3
  .rename_i x hx;rw[hx]at g1;obtain⟨ob,k1,k2,k3,_⟩:=g1;split at h4
   .rename_i x' hx';rw[hx']at g2;obtain⟨ob',q1,q2,q3,_⟩:=g2;have:=s1.mpi x x' ob ob' c c' k1 q1 (by omega) (by omega) h3 h4 (by unfold mW at*;grind);grind
   .grind
   .cases h4
  .grind
  .cases h3
def tH{F F':List AV}{L L':Sto}{N N':Nat}(m:Rf)(hlt:∀s x,m s=some x->cls s<N')(hinj:∀s s' o,m s=some (some o)->m s'=some (some o)->s=s')
  (hlen:F'.length=F.length) (hF:∀t,t<F.length->dW m (F'.getD t .any) (F.getD t .any))
  (hL:∀s ob',L' s=some ob'->match m s with|some (some o)=>∃ob,L o=some ob/\js m ob' ob|some none=>ob'.esz≠0/\ob'.cells=[] |none=>False):cZ F L N F' L' N':=by
 intro C0 B wI a w ⟨⟨ρ,s1,s2,s3⟩,s4,s5,s6,s7⟩;obtain⟨hCC,hst⟩:=s1.rf m hinj hL;refine⟨⟨gu m ρ,hst,?_,?_⟩,s4,s5,by rw[s6,hlen],s7⟩
 .intro s hs;cases hr:m s with
  |none=>unfold gu;rw[hr]
  |some x=>grind
 .intro t;by_cases ht:t<F.length
  .exact qS hCC _ _ _ (hF t ht) (s3 t)
  .rw[bq,eQ (by omega)];trivial
variable {P:Program}
def C8(P:Program)(f:FuncId)(A:List PV)(r:AV)(σ1:Sto):Prop:=fy P f=true/\
 ∀(C:bG) (w:World) (vs:List Value),(∀b o v,C b o v->w.cell? ⟨b,o,none⟩=some v)->bK C A vs->
  Calls P f vs.toArray w λe w'=>∃v ρ1,e= .returned v/\StR C ρ1 σ1 w' w.heap.size/\aU ρ1 (ak C w.heap.size w' ρ1 σ1) r v/\Below w.heap.size w w'
def uW(m:Rf)(L' L:Sto):Prop:=(∀s s' o,m s=some (some o)->m s'=some (some o)->s=s')/\
 ∀s ob',L' s=some ob'->match m s with|some (some o)=>∃ob,L o=some ob/\js m ob' ob|some none=>ob'.esz≠0/\ob'.cells=[] |none=>False
def Cg(P:Program)(rs:List ResultVar)(r:AV)(σ1:Sto):jw:=λe F L _=>match e with
 | .normal| .ret=>fV P rs F L λl=>∃m:Rf,uW m σ1 L/\dW m r (oE l)
 |_=>False
def TA{f:FuncId}{fn:Func}{c:Code}{A:List PV}{r:AV}{σ1:Sto}(hok:fy P f=true)(hf:P.funcs[f]? =some fn)(hb:fn.body=some c)
  {L0:Sto} {N0:Nat} (h0:mF L0 N0) (h:awp P c (Cg P fn.results.toList r σ1) (A.map .p++bS (fn.ntmps-A.length) .undef) L0 N0):C8 P f A r σ1:=by
 refine⟨hok,λC w vs hC hrep=>E4 hf hb hC hrep h0 h ?_⟩;rintro e a w' F L N hq ⟨⟨ρ,s1,s2,s3⟩,s4,s5,s6,s7⟩;have fin:fV P fn.results.toList F L (λl=>∃m:Rf,uW m σ1 L/\dW m r (oE l))->a.defers=[]/\∃v,(results fn a.tmps).run P w'= .ok v w'/\∃v' ρ1,Ending.returned v= .returned v'/\StR C ρ1 σ1 w' w.heap.size/\aU ρ1 (ak C w.heap.size w' ρ1 σ1) r v'/\Below w.heap.size w w':=by intro h;obtain⟨l,v,⟨m,⟨h1,h2⟩,h3⟩,hres,hrep⟩:=HU s1 s3 h;obtain⟨k1,k2⟩:=s1.rf m h1 h2;exact⟨s5,v,hres,v,_,rfl,k2,qS k1 _ _ v h3 hrep,s7⟩
 cases e<;>first|exact fin hq|exact hq.elim
variable {o:Oper} {E:Operand->AV} {σ:Nat->Option Ob} {n:Nat}
def VZ{c:Call}{f:Operand}{fid:FuncId}{A:List PV}{r r':AV}{σ1:Sto}{m1:Rf}{W':List (Nat×Option Ob)}(ho:o.op= .call c)(hc:c.callee= .value f)(hfv:E f= .p (.fn (.func fid) [] []))
  (hA:bJ (c.args.toList.map E)=some A) (hS:C8 P fid A r σ1) (hcl:∀s x,m1 s=some x->cls s=n) (hWn:∀s,W'.lookup s≠none->cls s=n/\W'.lookup s≠some none) (hR:uW m1 (λs=>(W'.lookup s).join) σ1)
  (hty:∀s ob,W'.lookup s=some (some ob)->¬(ob.esz=0/\ob.ty=0)) (hr:dW m1 r' r):bB P o E σ n r' [] W':=by
 have hfm:f∈o.op.operands.toList:=by rw[ho];simp[cG,fz,hc]
 have ham:∀x∈c.args.toList,x∈o.op.operands.toList:=by intro x hx;rw[ho];simp[cG,fz];exact .inr (by grind)
 intro C0 ρ g V w B hs hB _ hn hgn hE;have hargs:∀l:List Operand,(∀x∈l,x∈o.op.operands.toList)->ao ρ (ak C0 B w ρ g) (l.map E) (l.map (bF V)):=by
  intro l;induction l with
  |nil=>intro _;rfl
  |cons x l ih=>
   unfold ao;grind
 have hall:=nQ hA (hargs _ ham);have hvf:bF V f= .func (.func fid) #[] #[] :=by have:=hE f hfm;rw[hfv]at this;unfold aU a8 at this;obtain⟨v1,v2,h1,h2,h3⟩:=this;unfold bK at h2 h3;rw[h1,h2,h3]
 obtain⟨hok,hcalls⟩:=hS;have hrun:(execOp (bF V) o).run P w= .ok (.enter fid (c.args.toList.map (bF V)).toArray) w:=by
  unfold execOp;rw[ho];have e2: #[] ++oQ (bF V) c.args++ #[] =(c.args.toList.map (bF V)).toArray:=by apply kd.1;simp
  simp only[resolve,hc,hvf,oR,bo,cK,b9,invoke,kI hok,e2]
 have hlive:∀s ob b c,g s=some ob->ρ s=some (some b,c)->b<w.heap.size:=by intro s ob b c e1 e2;obtain⟨_,arr,e3⟩:=hs.at e1 e2;exact e3.lt
 unfold cX;rw[hrun];dsimp only;refine(hcalls (ak C0 B w ρ g) w _ (λb o v h=>h.1) hall).mono ?_;rintro e w' ⟨v,ρ1,rfl,t1,t2,hbel⟩;obtain⟨j1,j2⟩:=t1.rf m1 hR.1 hR.2;have hold:∀b,b<w.heap.size->w'.heap[b]? =w.heap[b]? :=λb hb=>hbel.block b hb;generalize hρL:gu m1 ρ1=ρL at*;have hLn:∀s q,ρL s=some q->cls s=n:=by
  intro s q hq;rw[<-hρL]at hq;unfold gu at hq;cases hm:m1 s with
  |none=>grind
  |some x=>grind
 let ρ':Ren:=λs=>if cls s=n then ρL s else ρ s
 have hρn:∀s,cls s=n->ρ' s=ρL s:=by grind
 have hρs:∀s,cls s≠n->ρ' s=ρ s:=by grind
 have hL':∀s ob,W'.lookup s=some (some ob)->(λs=>(W'.lookup s).join) s=some ob:=by grind
 have hup:∀s,W'.lookup s=none->aX g W' s=g s:=λs h=>by unfold aX;rw[h]
 have hupn:∀s,cls s≠n->aX g W' s=g s:=by grind
 have hnew:∀s ob,aX g W' s=some ob->cls s=n->W'.lookup s=some (some ob):=by
  intro s ob h hs';unfold aX at h;cases hl:W'.lookup s with
  |none=>grind
  |some x=>grind
 have hext:∀s q,ρ s=some q->ρ' s=some q:=by grind
 have hextL:∀s q,ρL s=some q->ρ' s=some q:=by grind
 have hge:∀s ob b c,W'.lookup s=some (some ob)->ρL s=some (some b,c)->w.heap.size<=b:=λs ob b c h1 h2=>(j2.at (hL' s ob h1) h2).1;have hmono:∀b o' x,ak C0 B w ρ g b o' x->ak C0 B w' ρ' (aX g W') b o' x:=by
  intro b o' x ⟨e1,e2,e3⟩;have hb:b<w.heap.size:=f0 w ⟨b,o',none⟩ e1;refine⟨(gb (hold b hb)).trans e1,λs c' e4=> ?_,e3⟩;by_cases hsn:cls s=n
  .cases hu:aX g W' s with
   |none=>rfl
   |some ob=>grind
  .grind
 have hCL:∀b o' x,ak (ak C0 B w ρ g) w.heap.size w' ρL (λs=>(W'.lookup s).join) b o' x->ak C0 B w' ρ' (aX g W') b o' x:=by
  intro b o' x ⟨e1,e2,e3⟩;refine⟨e1,λs c' e4=> ?_,?_⟩
  .by_cases hsn:cls s=n
   .rw[hρn s hsn]at e4;cases hu:aX g W' s with
    |none=>rfl
    |some ob=>grind
   .rw[hρs s hsn]at e4;rw[hupn s hsn];rcases e3 with e3|e3
    .cases hg:g s with
     |none=>rfl
     |some ob=>grind
    .exact e3.2.1 s c' e4
  .rcases e3 with e3|e3
   .omega
   .exact e3.2.2
 refine⟨_,rfl,ρ',hρs,hmono,?_,aU.mono hextL hCL _ _ (by rw[<-hρL];exact qS (by grind) _ _ _ hr t2),hbel.mono hB⟩;refine hs.stepG (by grind) hext hmono (by grind) (by grind) ?_;intro s ob hso;obtain⟨q,c',h1,⟨h2,h3|⟨h3,h4⟩⟩|⟨b,arr,h2,h3,h4⟩⟩:=j2.ob s ob (hL' s ob hso)
 .grind
 .refine⟨q,c',by grind,.inr (.inl ⟨h2,h3,?_,?_⟩)⟩
  .rcases h4 with⟨h5,_⟩|⟨h5,h6,es,clock,h7,h9,h10,h8⟩|⟨h5,h6,vs,⟨r,since,seen,c0,es,clock,cur,h7,h9⟩,h8⟩
   .grind
   .exact .inr (.inl ⟨h5,by grind,es,clock,h7,h9,h10,ao.mono hextL hCL _ _ h8⟩)
   .exact .inr (.inr ⟨h5,by grind,vs,⟨r,since,seen,c0,es,clock,cur,by grind,h9⟩,ao.mono hextL hCL _ _ h8⟩)
  .intro s' ob' c2 hne hu he hρ2 hT;have hT1:ob.ty≠0/\ob'.ty≠0/\c'=c2:=by
    rcases hT with hT|hT
    .exact hT
    .grind
   by_cases hsn':cls s'=n
   .rw[hρn s' hsn']at hρ2;subst h2;exact hne (j2.mpi s s' ob ob' c' c2 (hL' s ob hso) (by grind) h3 he h1 hρ2 hT).symm
   .rw[hρs s' hsn']at hρ2;rw[hupn s' hsn']at hu;obtain⟨q2,c3,k1,⟨_,⟨k2,_⟩|⟨_,k2⟩⟩|⟨b,arr,k2,_⟩⟩:=hs.ob s' ob' hu
    .exact k2 he
    .rw[hρ2]at k1;cases k1;have hlt:c2<w.heap.size:=by
      rcases k2 with⟨k3,_⟩|⟨_,_,es,clock,k3,_⟩|⟨_,_,vs,⟨r,since,seen,c0,es,clock,cur,_,_,k3,_⟩,_⟩
      .exact absurd k3 hT1.2.1
      .exact i9 ⟨_,k3,by simp⟩
      .exact i9 ⟨_,k3,by simp⟩
     rcases h4 with⟨h5,_⟩|⟨_,h6,_⟩|⟨_,h6,_⟩
     .exact absurd h5 hT1.1
     .omega
     .omega
    grind
 .refine⟨q,c',by grind,.inr (.inr ⟨b,arr,h2,by grind,⟨h4.blk,h4.box,h4.row,λi x hi=> ?_⟩,?_⟩)⟩
  .obtain⟨u,g1,g2,g3⟩:=h4.cells i x hi;exact⟨u,g1,g2,aU.mono hextL hCL x u g3⟩
  .intro s' ob' c2 hne hu hρ2;subst h2;by_cases hsn':cls s'=n
   .rw[hρn s' hsn']at hρ2;exact hne (j2.inj s s' ob ob' b c' c2 (hL' s ob hso) (by grind) h1 hρ2).symm
   grind
end
end Go.Proofs.YtdnhebjljnfjaaaGreat
