/- Part 1 of what the statement stands on -/

set_option linter.all false
set_option maxRecDepth 100000
set_option maxHeartbeats 8000000
open Bool renaming true->aE,false->aK,and_eq_true->cD,true_and->jq,not_eq_true->LI,false_eq_true->mf,not_true->oR,eq_iff_iff->gR,or_eq_true->jd,false_and->qW,and_true->LM,false_bne->u7,bne_false->yx,true_bne->Be,bne_true->yy,not_false->u8,not_eq_true'->rP,eq_false_iff->pZ
open Int renaming lt_or_gt_of_ne->mc,mul_le_mul_left->LH,mul_zero->fP,lt_or_le->cH,mul_pos_of_neg_of_neg->yp,mul_nonneg->cF,mul_neg_of_neg_of_pos->mH,mul_eq_zero->dI,le_total->yt,mul_le_mul_of_nonneg_right->nJ,zero_mul->wX,mul_one->Bb,dvd_iff_tmod_eq_zero->Vy,add_zero->pU,mul_pos->bJ,mul_lt_mul_of_pos_right->V4,mul_le_mul_of_nonneg_left->dg,lt_trichotomy->pX,pos_of_mul_pos_right->V5,mul_neg_of_pos_of_neg->gr,lt_or_eq_of_le->wf,le_of_lt->fZ,mul_neg->oU,neg_mul->oV,zero_add->yz,mul_nonpos_of_nonpos_of_nonneg->Bf,not_le->nL,le_refl->kY,mul_comm->gu,sub_neg->LP,one_mul->LQ,eq_of_mul_eq_mul_left->pY,not_lt->FK,add_mul->rT,mul_lt_mul_of_pos_left->LU
open List renaming mem_cons->bO,not_mem_nil->cp,foldl_cons->Ba,pairwise_cons->jA,Pairwise.nil->wU,mem_filter->eY,length->aA,length_nil->nI,length_cons->iE,range->bT,all_eq_true->cC,mem_range->cP,not_any_eq_all_not->Vx,getElem_of_mem->jQ,perm_append_comm->yu,getD_eq_getElem?_getD->fY,getElem?_append_left->qU,getElem?_drop->yv,getElem?_append_right->mg,nodup_iff_pairwise_ne->oS,pairwise_iff_getElem->u5,getElem?_eq_getElem->fQ,flatten_cons->mI,mem_append->bz,flatMap_cons->fw,mem_flatMap->dL,mem_flatten->ml,nodup_append->nK,Perm.refl->FF,mem_map->bn,map_cons->dU,map_nil->qV,sum_cons->oT,map_append->dV,mem_singleton->cI,pairwise_append->Vz,mem_append_left->iS,any_eq_true->kX,range_succ->pW,mem_cons_self->cR,mem_cons_of_mem->cM,map_map->du,ext_getElem->wg,getElem_map->kz,getElem_range->u9,map_congr_left->lg,ne_nil_of_mem->LR,mem_append_right->iF,pairwise_map->kG,Pairwise.and_mem->y5,flatMap_def->LV,pairwise_flatten->LX,sum_append->nM
open Classical renaming byContradiction->dS
open Nat renaming mod_lt->cG,mod_eq_of_lt->dK,mod_self->io,gcd->bQ,lt_trichotomy->Bd,mod_add_mod->kW,add_mod_right->mh,add_assoc->u4,gcd_dvd_right->wY,le_of_dvd->LJ,lt_or_ge->pV,gcd_dvd_left->u6,dvd_trans->wZ,sub_add_cancel->LO
open Function renaming comp->FG
open Decidable renaming not_not->V3
namespace Go.Proofs.YthbofdolalagjaaGreat.Geo
end Go.Proofs.YthbofdolalagjaaGreat.Geo
open Go.Proofs.YthbofdolalagjaaGreat.Geo
namespace Go.Proofs.YthbofdolalagjaaGreat
@[reducible]def aO{α:Sort _}(a:α)(f:α->Prop):Prop:=f a
def aC{p:Prop}(h:p:=by omega):p:=h
def aH{p:Prop}(h:p:=by grind):p:=h
def bg{p:Prop}(h:p:=by decide):p:=h
def af{p:Prop}(h:p:=by simp):p:=h
def aJ{p:Prop}(h:p:=by assumption):p:=h
def eO{p:Prop}(h:p:=by simp;omega):p:=h
def jc{p:Prop}(h:p:=by simp_all):p:=h
namespace Geo
structure V where
 x:Int
 y:Int
deriving DecidableEq,Inhabited
structure S where
 a:V
 b:V
deriving DecidableEq,Inhabited
def sub(p q:V):V:=⟨p.x-q.x,p.y-q.y⟩
def cross(p q:V):Int:=p.x*q.y-p.y*q.x
def sgn(n:Int):Int:=if 0<n then 1 else if n<0 then-1 else 0
def turn(a b c:V):Int:=sgn (cross (sub b a) (sub c a))
def cB(p q:V):Bool:=decide (p.y<q.y)||(p.y==q.y&&decide (p.x<q.x))
def bF(p:V)(m:Int):Bool:=decide (-m<=p.x)&&decide (p.x<=m)&&decide (-m<=p.y)&&decide (p.y<=m)
def bX(s:S):Bool:=bF s.a 4000&&bF s.b 4000
def iO(s:S)(p:V):Bool:=decide (min s.a.x s.b.x<=p.x)&&decide (p.x<=max s.a.x s.b.x)&&decide (min s.a.y s.b.y<=p.y)&&decide (p.y<=max s.a.y s.b.y)
def onS(s:S)(p:V):Bool:=bX s&&iO s p&&turn s.a s.b p==0
def oj(n:Int):sgn n=0↔n=0:=by unfold sgn;grind
def sF(n:Int):0<sgn n↔0<n:=by unfold sgn;grind
def aDd(n:Int):sgn n<0↔n<0:=by unfold sgn;grind
def zT(m n:Int):sgn m*sgn n<0↔(0<m/\n<0)\/(m<0/\0<n):=by unfold sgn;grind
def gG(x y:Int):Int:=if x<y then-1 else if y<x then 1 else 0
def cQ(p q:V):Int:=if gG p.y q.y=0 then gG p.x q.x else gG p.y q.y
def qx(s t:S)(d:Int):Int:=
 let a0:=cross (sub t.a s.a) (sub t.b t.a)
 let b0:=cross (sub t.a s.a) (sub s.b s.a)
 let a:=if d<0 then-a0 else a0
 let b:=if d<0 then-b0 else b0
 let e:=if d<0 then-d else d
 if a<0\/e<a\/b<0\/e<b then 0 else if a=0\/a=e\/b=0\/b=e then 1 else 2
def loS(s:S):V:=if cB s.b s.a then s.b else s.a
def hiS(s:S):V:=if cB s.b s.a then s.a else s.b
def fy(s t:S):V:=if cB (loS s) (loS t)then loS t else loS s
def gk(s t:S):V:=if cB (hiS t) (hiS s)then hiS t else hiS s
def cX(s t:S):Int:=
 if !(bX s&&bX t)then 0
 else if cross (sub s.b s.a) (sub t.b t.a)≠0 then qx s t (cross (sub s.b s.a) (sub t.b t.a))
 else if s.a=s.b/\onS t s.a=aE then 1
 else if t.a=t.b/\onS s t.a=aE then 1
 else if s.a=s.b\/t.a=t.b\/turn s.a s.b t.a≠0 then 0
 else if cQ (fy s t) (gk s t)=0 then 1
 else if cQ (fy s t) (gk s t)= -1 then 3
 else 0
def cV(s t:S)(p:V):Prop:=onS s p=aE/\onS t p=aE
structure MeetIs(s t:S)(k:Int):Prop where
 none:(bX s&&bX t)=aK->k=0
 over:∀p q,p∈[s.a,s.b,t.a,t.b]->q∈[s.a,s.b,t.a,t.b]->p≠q->cV s t p->cV s t q->k=3
 touch:(bX s&&bX t)=aE->(∀p q,p∈[s.a,s.b,t.a,t.b]->q∈[s.a,s.b,t.a,t.b]->cV s t p->cV s t q->p=q)->(∃p,p∈[s.a,s.b,t.a,t.b]/\cV s t p)->k=1
 cross:(bX s&&bX t)=aE->(∀p,p∈[s.a,s.b,t.a,t.b]->¬cV s t p)->(turn s.a s.b t.a*turn s.a s.b t.b<0/\turn t.a t.b s.a*turn t.a t.b s.b<0)->k=2
 else_:(bX s&&bX t)=aE->(∀p,p∈[s.a,s.b,t.a,t.b]->¬cV s t p)->¬(turn s.a s.b t.a*turn s.a s.b t.b<0/\turn t.a t.b s.a*turn t.a t.b s.b<0)->k=0
def Dr(d b v w:Int)(hd:0<d)(h:d*w=b*v)(hv:v≠0):(min 0 v<=w/\w<=max 0 v)↔(0<=b/\b<=d):=by
 rcases mc hv with hv|hv
 .have e1:w<=0↔0<=b:=by
   rw[<-LH hd,fP,h];constructor
   .intro h1;rcases cH b 0 with h2|h2
    .have:=yp h2 hv;omega
    .exact h2
   .intro h1;have:=cF h1 (aC:(0:Int)<= -v);grind
  have e2:v<=w↔b<=d:=by
   rw[<-LH hd,h];constructor
   .simp_all
   .simp_all
  omega
 .have e1:0<=w↔0<=b:=by
   rw[<-LH hd,fP,h];constructor
   .intro h1;rcases cH b 0 with h2|h2
    .have:=mH h2 hv;omega
    .exact h2
   .intro h1;exact cF h1 aC
  have e2:w<=v↔b<=d:=by rw[<-LH hd,h];exact Int.mul_le_mul_right hv
  omega
def qu(s:S)(p:V)(d b:Int)(hd:0<d)(hx:d*(p.x-s.a.x)=b*(s.b.x-s.a.x))(hy:d*(p.y-s.a.y)=b*(s.b.y-s.a.y))(hv:s.a≠s.b):
  iO s p=aE↔(0<=b/\b<=d):=by
 obtain⟨⟨ax,ay⟩,⟨bx,b_y⟩⟩:=s;obtain⟨px,py⟩:=p;simp only[iO,cD,decide_eq_true_eq]at*;simp only[ne_eq,V.mk.injEq,not_and]at hv;by_cases h1:bx-ax=0
 .have h2:b_y-ay≠0:=by intro h2;grind
  rw[h1,fP]at hx;have h3:px-ax=0:=by
   rcases dI.1 hx with h|h
   .omega
   .exact h
  have:=Dr d b _ _ hd hy h2;omega
 .by_cases h2:b_y-ay=0
  .rw[h2,fP]at hy;have h3:py-ay=0:=by
    rcases dI.1 hy with h|h
    .omega
    .exact h
   have:=Dr d b _ _ hd hx h1;omega
  .have e1:=Dr d b _ _ hd hx h1;have e2:=Dr d b _ _ hd hy h2;omega
def ii{s:S}{p:V}(hv:bX s=aE):onS s p=aE↔(iO s p=aE/\cross (sub s.b s.a) (sub p s.a)=0):=by unfold onS turn;rw[hv];simp only[jq,cD,beq_iff_eq,oj]
def gn{s:S}(hv:bX s=aE):onS s s.a=aE:=by rw[ii hv];refine⟨?_,by simp[cross,sub]⟩;simp[iO];omega
def km{s:S}(hv:bX s=aE):onS s s.b=aE:=by rw[ii hv];refine⟨?_,by simp only[cross,sub];grind⟩;simp[iO];omega
def q1{d a b sa sb ta tb:Int}(h:d*(ta-sa)=a*(sb-sa)-b*(tb-ta))(e:a=0):d*(sa-ta)=b*(tb-ta):=aH
def q2{d a b sa sb ta tb:Int}(h:d*(ta-sa)=a*(sb-sa)-b*(tb-ta))(e:a=d):d*(sb-ta)=b*(tb-ta):=aH
def q3{d a b sa sb ta tb:Int}(h:d*(ta-sa)=a*(sb-sa)-b*(tb-ta))(e:b=0):d*(ta-sa)=a*(sb-sa):=aH
def q4{d a b sa sb ta tb:Int}(h:d*(ta-sa)=a*(sb-sa)-b*(tb-ta))(e:b=d):d*(tb-sa)=a*(sb-sa):=aH
def z13{d a b sa sb ta tb:Int}(h:d*(ta-sa)=a*(sb-sa)-b*(tb-ta))(e:a=0)(f:b=0):d*(ta-sa)=0:=aH
def z14{d a b sa sb ta tb:Int}(h:d*(ta-sa)=a*(sb-sa)-b*(tb-ta))(e:a=0)(f:b=d):d*(tb-sa)=0:=aH
def z23{d a b sa sb ta tb:Int}(h:d*(ta-sa)=a*(sb-sa)-b*(tb-ta))(e:a=d)(f:b=0):d*(ta-sb)=0:=aH
def z24{d a b sa sb ta tb:Int}(h:d*(ta-sa)=a*(sb-sa)-b*(tb-ta))(e:a=d)(f:b=d):d*(tb-sb)=0:=aH
def aB3(s t:S)(hs:bX s=aE)(ht:bX t=aE)(hd:cross (sub s.b s.a) (sub t.b t.a)≠0):
  MeetIs s t (qx s t (cross (sub s.b s.a) (sub t.b t.a))):=by
 have hsab:s.a≠s.b:=by intro h;apply hd;rw[h];simp[cross,sub]
 have htab:t.a≠t.b:=by intro h;apply hd;rw[h];simp[cross,sub]
 obtain⟨a0,ha0⟩:∃a,a=cross (sub t.a s.a) (sub t.b t.a):=⟨_,rfl⟩;obtain⟨b0,hb0⟩:∃a,a=cross (sub t.a s.a) (sub s.b s.a):=⟨_,rfl⟩;obtain⟨d0,hd0⟩:∃a,a=cross (sub s.b s.a) (sub t.b t.a):=⟨_,rfl⟩;have f1:cross (sub t.b t.a) (sub s.a t.a)=a0:=by rw[ha0];simp only[cross,sub];grind
 have f2:cross (sub t.b t.a) (sub s.b t.a)=a0-d0:=by rw[ha0,hd0];simp only[cross,sub];grind
 have f3:cross (sub s.b s.a) (sub t.a s.a)= -b0:=by rw[hb0];simp only[cross,sub];grind
 have f4:cross (sub s.b s.a) (sub t.b s.a)=d0-b0:=by rw[hb0,hd0];simp only[cross,sub];grind
 have gx:d0*(t.a.x-s.a.x)=a0*(s.b.x-s.a.x)-b0*(t.b.x-t.a.x):=by rw[ha0,hb0,hd0];simp only[cross,sub];grind
 have gy:d0*(t.a.y-s.a.y)=a0*(s.b.y-s.a.y)-b0*(t.b.y-t.a.y):=by rw[ha0,hb0,hd0];simp only[cross,sub];grind
 rw[<-hd0]at hd;obtain⟨a,b,d,hdp,hx,hy,hab⟩:∃a b d:Int,0<d/\d*(t.a.x-s.a.x)=a*(s.b.x-s.a.x)-b*(t.b.x-t.a.x)/\d*(t.a.y-s.a.y)=a*(s.b.y-s.a.y)-b*(t.b.y-t.a.y)/\((d0<0/\a= -a0/\b= -b0/\d= -d0)\/(¬d0<0/\a=a0/\b=b0/\d=d0)):=by
  by_cases h:d0<0
  .exact⟨-a0,-b0,-d0,aC,aH,aH,aH⟩
  .exact⟨a0,b0,d0,aC,gx,gy,aH⟩
 have hK:qx s t d0=if a<0\/d<a\/b<0\/d<b then 0 else if a=0\/a=d\/b=0\/b=d then 1 else 2:=by unfold qx;simp only[<-ha0,<-hb0];rcases hab with⟨h,rfl,rfl,rfl⟩|⟨h,rfl,rfl,rfl⟩<;>simp only[h,if_true,if_false]
 have c1:cV s t s.a↔(a=0/\0<=b/\b<=d):=by
  unfold cV;rw[ii ht,f1];have e:a0=0↔a=0:=by clear gx gy hx hy;omega
  rw[e];constructor
  .rintro⟨_,h1,h2⟩;exact⟨h2,(qu t s.a d b hdp (q1 hx h2) (q1 hy h2) htab).1 h1⟩
  .rintro⟨h2,h3⟩;exact⟨gn hs,(qu t s.a d b hdp (q1 hx h2) (q1 hy h2) htab).2 h3,h2⟩
 have c2:cV s t s.b↔(a=d/\0<=b/\b<=d):=by
  unfold cV;rw[ii ht,f2];have e:a0-d0=0↔a=d:=by clear gx gy hx hy;omega
  rw[e];constructor
  .rintro⟨_,h1,h2⟩;exact⟨h2,(qu t s.b d b hdp (q2 hx h2) (q2 hy h2) htab).1 h1⟩
  .rintro⟨h2,h3⟩;exact⟨km hs,(qu t s.b d b hdp (q2 hx h2) (q2 hy h2) htab).2 h3,h2⟩
 have c3:cV s t t.a↔(b=0/\0<=a/\a<=d):=by
  unfold cV;rw[ii hs,f3];have e: -b0=0↔b=0:=by clear gx gy hx hy;omega
  rw[e];constructor
  .rintro⟨⟨h1,h2⟩,_⟩;exact⟨h2,(qu s t.a d a hdp (q3 hx h2) (q3 hy h2) hsab).1 h1⟩
  .rintro⟨h2,h3⟩;exact⟨⟨(qu s t.a d a hdp (q3 hx h2) (q3 hy h2) hsab).2 h3,h2⟩,gn ht⟩
 have c4:cV s t t.b↔(b=d/\0<=a/\a<=d):=by
  unfold cV;rw[ii hs,f4];have e:d0-b0=0↔b=d:=by clear gx gy hx hy;omega
  rw[e];constructor
  .rintro⟨⟨h1,h2⟩,_⟩;exact⟨h2,(qu s t.b d a hdp (q4 hx h2) (q4 hy h2) hsab).1 h1⟩
  .rintro⟨h2,h3⟩;exact⟨⟨(qu s t.b d a hdp (q4 hx h2) (q4 hy h2) hsab).2 h3,h2⟩,km ht⟩
 have hT:(turn s.a s.b t.a*turn s.a s.b t.b<0/\turn t.a t.b s.a*turn t.a t.b s.b<0)↔(0<a/\a<d/\0<b/\b<d):=by
  unfold turn;rw[zT,zT,f1,f2,f3,f4];clear hx hy gx gy c1 c2 c3 c4 f1 f2 f3 f4 hK ha0 hb0 hd0;rcases hab with⟨h,rfl,rfl,rfl⟩|⟨h,rfl,rfl,rfl⟩
  .omega
  .omega
 rw[<-hd0,hK];clear hK f1 f2 f3 f4;have hone:∀p q,p∈[s.a,s.b,t.a,t.b]->q∈[s.a,s.b,t.a,t.b]->cV s t p->cV s t q->p=q:=by
  have zz:∀x:Int,d*x=0->x=0:=λx h=>by rcases dI.1 h with h|h<;>omega
  have e13:cV s t s.a->cV s t t.a->s.a=t.a:=by rw[c1,c3];rintro⟨h1,_⟩ ⟨h2,_⟩;have h3:=zz _ (z13 hx h1 h2);have h4:=zz _ (z13 hy h1 h2);cases hsa:s.a;cases hta:t.a;simp only[hsa,hta]at h3 h4;simp;omega
  have e14:cV s t s.a->cV s t t.b->s.a=t.b:=by rw[c1,c4];rintro⟨h1,_⟩ ⟨h2,_⟩;have h3:=zz _ (z14 hx h1 h2);have h4:=zz _ (z14 hy h1 h2);cases hsa:s.a;cases hta:t.b;simp only[hsa,hta]at h3 h4;simp;omega
  have e23:cV s t s.b->cV s t t.a->s.b=t.a:=by rw[c2,c3];rintro⟨h1,_⟩ ⟨h2,_⟩;have h3:=zz _ (z23 hx h1 h2);have h4:=zz _ (z23 hy h1 h2);cases hsa:s.b;cases hta:t.a;simp only[hsa,hta]at h3 h4;simp;omega
  have e24:cV s t s.b->cV s t t.b->s.b=t.b:=by rw[c2,c4];rintro⟨h1,_⟩ ⟨h2,_⟩;have h3:=zz _ (z24 hx h1 h2);have h4:=zz _ (z24 hy h1 h2);cases hsa:s.b;cases hta:t.b;simp only[hsa,hta]at h3 h4;simp;omega
  have e12:cV s t s.a->cV s t s.b->False:=by rw[c1,c2];clear hx hy;omega
  have e34:cV s t t.a->cV s t t.b->False:=by rw[c3,c4];clear hx hy;omega
  intro p q hp hq h1 h2;simp only[bO,cp,or_false]at hp hq;rcases hp with rfl|rfl|rfl|rfl<;>rcases hq with rfl|rfl|rfl|rfl
  .rfl
  .grind
  .grind
  .grind
  .grind
  .rfl
  .grind
  .grind
  .grind
  .grind
  .rfl
  .grind
  .grind
  .grind
  .grind
  .rfl
 clear hx hy hd0 hab hd;constructor
 .grind
 .grind
 .grind
 .omega
 grind
def leV(p q:V):Prop:=p.y<q.y\/(p.y=q.y/\p.x<=q.x)
instance(p q:V):Decidable (leV p q):=by unfold leV;infer_instance
def vY(p:V):leV p p:= .inr aH
def tk{p q r:V}(h1:leV p q)(h2:leV q r):leV p r:=by unfold leV at*;omega
def AG{p q:V}(h1:leV p q)(h2:leV q p):p=q:=by cases p;cases q;unfold leV at*;grind
def z6(p q:V):leV p q\/leV q p:=by unfold leV;omega
def oh(p q:V):cB p q=aE↔¬leV q p:=by unfold cB leV;simp;omega
def rm(p q:V):cB p q=aK↔leV q p:=by rw[<-LI,oh];grind
def z8(p q:V):cQ p q=0↔p=q:=by cases p;cases q;unfold cQ gG;grind
def Qa(p q:V):cQ p q= -1↔cB p q=aE:=by unfold cQ gG cB;grind
def Ag(p q:V):cQ p q<0↔cB p q=aE:=by unfold cQ gG cB;grind
def Rr(s:S):(loS s=s.a/\hiS s=s.b)\/(loS s=s.b/\hiS s=s.a):=by unfold loS hiS;grind
def Qe(s:S)(p:V)(hne:s.a≠s.b)(hc:cross (sub s.b s.a) (sub p s.a)=0):iO s p=aE↔(leV (loS s) p/\leV p (hiS s)):=by
 simp only[cross,sub]at hc;by_cases hy:s.b.y=s.a.y
 .have hx:s.b.x≠s.a.x:=by intro hx;apply hne;cases hsa:s.a;cases hsb:s.b;simp only[hsa,hsb]at hx hy;simp[hx,hy]
  unfold loS hiS;cases h:cB s.b s.a
  .have h1:=(rm _ _).1 h;simp only[iO,leV,cD,decide_eq_true_eq]at*;grind
  .have h1:=(oh _ _).1 h;simp only[iO,leV,cD,decide_eq_true_eq]at*;grind
 .have hxy:p.y=s.a.y->p.x=s.a.x:=by intro h;have h0:p.y-s.a.y=0:=aC;rw[h0]at hc;have:(s.b.y-s.a.y)*(p.x-s.a.x)=0:=aC;rcases dI.1 this with h|h<;>omega
  have hxz:p.y=s.b.y->p.x=s.b.x:=by intro h;rw[h]at hc;have:(s.b.y-s.a.y)*(p.x-s.b.x)=0:=aH;rcases dI.1 this with h|h<;>omega
  rcases mc hy with h|h
  .have hb:=qu s p (s.a.y-s.b.y) (s.a.y-p.y) aC aH aH hne;rw[hb];have h1:cB s.b s.a=aE:=by rw[oh];unfold leV;omega
   unfold loS hiS;rw[h1];simp only[if_true,leV];omega
  .have hb:=qu s p (s.b.y-s.a.y) (p.y-s.a.y) aC aH aH hne;rw[hb];have h1:cB s.b s.a=aK:=by rw[rm];unfold leV;omega
   unfold loS hiS;rw[h1];simp only[mf,if_false,leV];omega
def CI{s:S}(h:s.a=s.b){p:V}(hp:iO s p=aE):p=s.a:=by cases hsa:s.a;cases hsb:s.b;cases p;simp only[iO,hsa,hsb,V.mk.injEq,cD,decide_eq_true_eq]at*;omega
def Mt(u v w:V)(h1:cross u v=0)(h2:cross v w=0)(hv:v≠⟨0,0⟩):cross u w=0:=by
 simp only[cross]at*;by_cases hx:v.x=0
 .have hy:v.y≠0:=by intro hy;apply hv;cases v;simp at hx hy;simp[hx,hy]
  have:v.y*(u.x*w.y-u.y*w.x)=0:=aH;rcases dI.1 this with h|h
  .omega
  .exact h
 .have:v.x*(u.x*w.y-u.y*w.x)=0:=aH;rcases dI.1 this with h|h
  .omega
  .exact h
def JY{p q:V}(h:p≠q):sub q p≠⟨0,0⟩:=by intro h';apply h;cases p;cases q;simp only[sub,V.mk.injEq]at*;omega
def qp(s t:S):MeetIs s t (cX s t):=by
 unfold cX;by_cases hv:(bX s&&bX t)=aE
 .have hs:bX s=aE:=by simp at hv;exact hv.1
  have ht:bX t=aE:=by simp at hv;exact hv.2
  rw[if_neg (by rw[hv];simp)];by_cases hd:cross (sub s.b s.a) (sub t.b t.a)≠0
  .rw[if_pos hd];exact aB3 s t hs ht hd
  .rw[if_neg hd];have hd0:cross (sub s.b s.a) (sub t.b t.a)=0:=aC;have hnv:∀k,(bX s&&bX t)=aK->k=(0:Int):=by intro k h;rw[hv]at h;cases h
   have hside:¬(turn s.a s.b t.a*turn s.a s.b t.b<0/\turn t.a t.b s.a*turn t.a t.b s.b<0):=by
    rintro⟨h,_⟩;unfold turn at h;rw[zT]at h;have e:cross (sub s.b s.a) (sub t.b s.a)=cross (sub s.b s.a) (sub t.a s.a)+cross (sub s.b s.a) (sub t.b t.a):=by simp only[cross,sub];grind
    omega
   have allone:∀z,(∀p,p∈[s.a,s.b,t.a,t.b]->cV s t p->p=z)->cV s t z->z∈[s.a,s.b,t.a,t.b]->MeetIs s t 1:=by intro z hz hzo hzm;refine⟨hnv 1,aH,λ_ _ _=>rfl,aH,aH⟩
   have nothing:(∀p,p∈[s.a,s.b,t.a,t.b]->¬cV s t p)->MeetIs s t 0:=by intro h;exact⟨λ_=>rfl,aH,aH,aH,λ_ _ _=>rfl⟩
   by_cases h1:s.a=s.b/\onS t s.a=aE
   .rw[if_pos h1];exact allone s.a (λp _ h=>CI h1.1 ((ii hs).1 h.1).1) ⟨gn hs,h1.2⟩ af
   .rw[if_neg h1];by_cases h2:t.a=t.b/\onS s t.a=aE
    .rw[if_pos h2];exact allone t.a (λp _ h=>CI h2.1 ((ii ht).1 h.2).1) ⟨h2.2,gn ht⟩ af
    .rw[if_neg h2];by_cases h3:s.a=s.b\/t.a=t.b\/turn s.a s.b t.a≠0
     .rw[if_pos h3];apply nothing;rintro p hp ⟨hps,hpt⟩;by_cases hsd:s.a=s.b
      .have:=CI hsd ((ii hs).1 hps).1;grind
      .by_cases htd:t.a=t.b
       .have:=CI htd ((ii ht).1 hpt).1;grind
       .have h4:turn s.a s.b t.a≠0:=by
         rcases h3 with h|h|h
         .grind
         .grind
         .exact h
        have c1:=((ii hs).1 hps).2;have c2:=((ii ht).1 hpt).2;have hv0:=JY htd;have c3:=Mt _ _ _ hd0 c2 hv0;apply h4;unfold turn;rw[oj];have e:cross (sub s.b s.a) (sub t.a s.a)=cross (sub s.b s.a) (sub p s.a)-cross (sub s.b s.a) (sub p t.a):=by simp only[cross,sub];grind
        omega
     .rw[if_neg h3];have hsd:s.a≠s.b:=aH;have htd:t.a≠t.b:=aH;have hta:cross (sub s.b s.a) (sub t.a s.a)=0:=by have:turn s.a s.b t.a=0:=aH;unfold turn at this;rwa[oj]at this
      have hl1:∀p,p∈[s.a,s.b,t.a,t.b]->cross (sub s.b s.a) (sub p s.a)=0:=by
       intro p hp;simp only[bO,cp,or_false]at hp;rcases hp with rfl|rfl|rfl|rfl
       .simp[cross,sub]
       .simp only[cross];grind
       .exact hta
       .have e:cross (sub s.b s.a) (sub t.b s.a)=cross (sub s.b s.a) (sub t.a s.a)+cross (sub s.b s.a) (sub t.b t.a):=by simp only[cross,sub];grind
        omega
      have hl2:∀p,p∈[s.a,s.b,t.a,t.b]->cross (sub t.b t.a) (sub p t.a)=0:=by
       intro p hp;have h5:=hl1 p hp;have e:cross (sub s.b s.a) (sub p t.a)=cross (sub s.b s.a) (sub p s.a)-cross (sub s.b s.a) (sub t.a s.a):=by simp only[cross,sub];grind
       have h6:cross (sub s.b s.a) (sub p t.a)=0:=aC;have h7:cross (sub t.b t.a) (sub s.b s.a)=0:=by
        have:cross (sub t.b t.a) (sub s.b s.a)= -cross (sub s.b s.a) (sub t.b t.a):=by simp only[cross,sub];grind
        omega
       exact Mt _ _ _ h7 h6 (JY hsd)
      have hlo:leV (loS s) (fy s t)/\leV (loS t) (fy s t)/\(fy s t=loS s\/fy s t=loS t):=by
       unfold fy;cases h:cB (loS s) (loS t)
       .have:=(rm _ _).1 h;simp[this,vY]
       .have h':=(oh _ _).1 h;have:leV (loS s) (loS t):=(z6 _ _).elim id aH;simp[this,vY]
      have hhi:leV (gk s t) (hiS s)/\leV (gk s t) (hiS t)/\(gk s t=hiS s\/gk s t=hiS t):=by
       unfold gk;cases h:cB (hiS t) (hiS s)
       .have:=(rm _ _).1 h;simp[this,vY]
       .have h':=(oh _ _).1 h;have:leV (hiS t) (hiS s):=(z6 _ _).elim id aH;simp[this,vY]
      have hmem:∀p,(p=loS s\/p=hiS s\/p=loS t\/p=hiS t)->p∈[s.a,s.b,t.a,t.b] :=by intro p h;have h5:=Rr s;have h6:=Rr t;simp only[bO,cp,or_false];grind
      have hon:∀p,p∈[s.a,s.b,t.a,t.b]->(cV s t p↔leV (fy s t) p/\leV p (gk s t)):=by
       intro p hp;unfold cV;rw[ii hs,ii ht,Qe s p hsd (hl1 p hp),Qe t p htd (hl2 p hp)];constructor
       .grind
       .rintro⟨a1,a2⟩;exact⟨⟨⟨tk hlo.1 a1,tk a2 hhi.1⟩,hl1 p hp⟩,⟨tk hlo.2.1 a1,tk a2 hhi.2.1⟩,hl2 p hp⟩
      have mlo:fy s t∈[s.a,s.b,t.a,t.b] :=hmem _ aH;have mhi:gk s t∈[s.a,s.b,t.a,t.b] :=hmem _ aH;by_cases h5:cQ (fy s t) (gk s t)=0
      .rw[if_pos h5];have e:=(z8 _ _).1 h5;refine allone (fy s t) ?_ aH mlo;intro p hp h;have h6:=(hon p hp).1 h;rw[<-e]at h6;exact AG h6.2 h6.1
      .rw[if_neg h5];by_cases h6:cQ (fy s t) (gk s t)= -1
       .rw[if_pos h6];have h7:=(oh _ _).1 ((Qa _ _).1 h6);have h8:leV (fy s t) (gk s t):=(z6 _ _).elim id aH;have o1:=(hon _ mlo).2 ⟨vY _,h8⟩;have o2:=(hon _ mhi).2 ⟨h8,vY _⟩;have hne:fy s t≠gk s t:=aH;exact⟨aH,aH,aH,aH,aH⟩
       .rw[if_neg h6];apply nothing;intro p hp h;have h7:=(hon p hp).1 h;have h8:=tk h7.1 h7.2;have h9:¬cB (fy s t) (gk s t)=aE:=λh=>h6 ((Qa _ _).2 h);rw[oh]at h9;exact h5 ((z8 _ _).2 (AG h8 aH))
 .have hv':(bX s&&bX t)=aK:=by simpa using hv
  rw[if_pos (by rw[hv'];rfl)];have hv3:¬(bX s&&bX t)=aE:=by rw[hv'];simp
  refine⟨λ_=>rfl,λp q _ _ _ h1 _=> ?_,aH,aH,aH⟩;exfalso;obtain⟨h1,h2⟩:=h1;unfold onS at h1 h2;grind
def lV:List V->V->List V
 |[],p=>[p]
 |q::r,p=>if cB q p then q::lV r p else if q=p then q::r else p::q::r
def ny(l:List V):List V:=l.foldl lV []
def P4(l:List V)(p x:V):x∈lV l p↔x=p\/x∈l:=by
 induction l with
 |nil=>simp[lV]
 |cons q r ih=>
  unfold lV;grind
def Wj(l acc:List V)(x:V):x∈l.foldl lV acc↔x∈acc\/x∈l:=by
 induction l generalizing acc with
 |nil=>simp
 |cons q r ih=>rw[Ba,ih,P4];grind
def XZ(l:List V)(x:V):x∈ny l↔x∈l:=by unfold ny;rw[Wj];simp
def xC{p q r:V}(h1:cB p q=aE)(h2:cB q r=aE):cB p r=aE:=by unfold cB at*;grind
def zN(p:V):cB p p=aK:=by unfold cB;simp
def zy{p q:V}(h1:cB p q=aK)(h2:p≠q):cB q p=aE:=by rw[oh];intro h;exact h2 (AG h ((rm _ _).1 h1))
def Xe(l:List V)(p:V)(h:l.Pairwise (λa b=>cB a b=aE)):(lV l p).Pairwise (λa b=>cB a b=aE):=by
 induction l with
 |nil=>simp[lV]
 |cons q r ih=>
  rw[jA]at h;unfold lV;split
  .rename_i hq;rw[jA];refine⟨?_,ih h.2⟩;intro x hx;rcases(P4 _ _ _).1 hx with rfl|hx
   .exact hq
   grind
  .split
   .simp_all
   .rename_i hne;have hpq:=zy aH hne;rw[jA,jA];refine⟨?_,h⟩;intro x hx;rcases bO.1 hx with rfl|hx
    .exact hpq
    .exact xC hpq (h.1 x hx)
def WP(l acc:List V)(h:acc.Pairwise (λa b=>cB a b=aE)):(l.foldl lV acc).Pairwise (λa b=>cB a b=aE):=by
 induction l generalizing acc with
 |nil=>exact h
 |cons q r ih=>exact ih _ (Xe acc q h)
def L6(l:List V):(ny l).Pairwise (λa b=>cB a b=aE):=WP l [] wU
def ends(s t:S):List V:=[s.a,s.b,t.a,t.b]
def fR(s t:S):List V:=ny ((ends s t).filter (λp=>onS s p&&onS t p))
def GG(s t:S)(p:V):p∈fR s t↔p∈ends s t/\cV s t p:=by unfold fR cV;rw[XZ,eY];simp
def jk(s:S)(p:V):Int:=if !(bX s)|| !(bF p 4000)then 0 else turn s.a s.b p
def cK(s t:S):Int:=
 if !(bX s&&bX t)then 0
 else if 1<(aA (fR s t)) then 3
 else if(fR s t).length=1 then 1
 else if jk s t.a*jk s t.b<0/\jk t s.a*jk t s.b<0 then 2
 else 0
def qq(s t:S):cX s t=cK s t:=by
 have h:=qp s t;obtain⟨k,hk⟩:∃k,k=cX s t:=⟨_,rfl⟩;unfold cK;cases hv:(bX s&&bX t)with
 |false=>simp[h.none hv]
 |true=>
  have hs:bX s=aE:=by simp at hv;exact hv.1
  have ht:bX t=aE:=by simp at hv;exact hv.2
  have ws:=hs;have wt:=ht;unfold bX at ws wt;simp only[cD]at ws wt;simp only[oR,mf,if_false,jk,hs,ht,ws,wt,Bool.or_self];have hp:=L6 ((ends s t).filter (λp=>onS s p&&onS t p));have hm:=GG s t;rw[show ny ((ends s t).filter (λp=>onS s p&&onS t p))=fR s t from rfl]at hp;generalize fR s t=l at hp hm;match l,hp,hm with
  |[],_,hm=>
   have hno:∀p,p∈[s.a,s.b,t.a,t.b]->¬cV s t p:=λp hp ho=>by have:=(hm p).2 ⟨hp,ho⟩;cases this
   simp only[nI];by_cases hc:turn s.a s.b t.a*turn s.a s.b t.b<0/\turn t.a t.b s.a*turn t.a t.b s.b<0
   .rw[if_pos hc];exact h.cross hv hno hc
   .rw[if_neg hc];exact h.else_ hv hno hc
  |[z],_,hm=>
   simp only[List.length_singleton];have hz:=(hm z).1 af;refine h.touch hv ?_ ⟨z,hz⟩;intro p q hp hq h1 h2;have e1:=(hm p).2 ⟨hp,h1⟩;have e2:=(hm q).2 ⟨hq,h2⟩;grind
  |z::y::r,hp,hm=>
   simp only[iE];have hz:=(hm z).1 af;have hy:=(hm y).1 af;refine h.over z y hz.1 hy.1 ?_ hz.2 hy.2;intro e;rw[jA]at hp;have:=hp.1 y af;rw[e,zN]at this;cases this
abbrev aU:=List V
def nth(r:aU)(i:Nat):V:=r.getD i default
def nxt(r:aU)(i:Nat):V:=nth r ((i+1) % (aA r))
def prv(r:aU)(i:Nat):V:=nth r ((i+aA r-1) % (aA r))
def bh(r:aU)(i:Nat):S:=⟨nth r i,nxt r i⟩
def aW(r:aU):List S:=if (aA r)<2 then []else(bT (aA r)).map (bh r)
def area(r:aU):Int:=((bT (aA r)).map λi=>cross (nth r i) (nxt r i)).sum
def near(r:aU):Bool:=r.all λv=>bF v 2000
def dC(r:aU):Bool:=
 decide (3<=aA r)&&decide (aA r<=40)&&near r&&decide (0<area r)&&
 ((bT (aA r)).all λi=>turn (prv r i) (nth r i) (nxt r i) !=0)&&
 ((bT (aA r)).all λi=>(bT (aA r)).all λk=>decide (k<=i)||k==i+1||(i==0&&k==aA r-1)||cX (bh r i) (bh r k)==0)
def fJ(r:aU):Bool:=
 decide (3<=aA r)&&decide (aA r<=40)&&near r&&
 ((bT (aA r)).all λi=>turn (nth r i) (nth r ((i+1) % (aA r))) (nth r ((i+2) % (aA r))) !=0)&&
 ((bT (aA r)).all λi=>(bT (aA r)).all λk=>decide (k<=i)||
   (if k=i+1\/(i=0/\k=aA r-1)then cK (bh r i) (bh r k)==1 else cK (bh r i) (bh r k)==0))&&
 decide (0<area r)
def tz(a b c:V):turn a b c=turn b c a:=by unfold turn;simp only[cross,sub];grind
def Nv(a b c:V):cross (sub b a) (sub c a)= -cross (sub a b) (sub c b):=by simp only[cross,sub];grind
def P5(s t:S)(hs:bX s=aE)(ht:bX t=aE)(he:s.b=t.a)(hn:turn s.a s.b t.b≠0):cX s t=1:=by
 have h:=qp s t;have hb:cV s t s.b:=⟨km hs,by rw[he];exact gn ht⟩;refine h.touch aH ?_ aH;have key:∀p,p∈[s.a,s.b,t.a,t.b]->cV s t p->p=s.b:=by
  intro p hp ho;simp only[bO,cp,or_false]at hp;rcases hp with rfl|rfl|rfl|rfl
  .exfalso;apply hn;have:=((ii ht).1 ho.2).2;rw[tz];unfold turn;rw[oj,he];exact this
  .rfl
  .exact he.symm
  .exfalso;apply hn;have:=((ii hs).1 ho.1).2;unfold turn;rw[oj];exact this
 grind
def og(s t:S):cX s t=cX t s:=by
 have h1:=qp s t;have h2:=qp t s;have hmem:∀p,p∈[s.a,s.b,t.a,t.b] ↔p∈[t.a,t.b,s.a,s.b] :=by intro p;simp only[bO,cp,or_false];grind
 have hob:∀p,cV s t p↔cV t s p:=λp=>And.comm;cases hv:(bX s&&bX t)with
 |false=>rw[h1.none hv,h2.none aH]
 |true=>
  have hv':(bX t&&bX s)=aE:=by rw[Bool.and_comm];exact hv
  by_cases hx:∃p,p∈[s.a,s.b,t.a,t.b]/\cV s t p
  .by_cases hu:∀p q,p∈[s.a,s.b,t.a,t.b]->q∈[s.a,s.b,t.a,t.b]->cV s t p->cV s t q->p=q
   .rw[h1.touch hv hu hx,h2.touch hv' aH];grind
   .have:∃p q,p∈[s.a,s.b,t.a,t.b]/\q∈[s.a,s.b,t.a,t.b]/\p≠q/\cV s t p/\cV s t q:=by apply dS;intro hno;apply hu;intro p q hp hq a b;apply dS;intro hne;grind
    obtain⟨p,q,hp,hq,hne,a,b⟩:=this;rw[h1.over p q hp hq hne a b,h2.over p q ((hmem p).1 hp) ((hmem q).1 hq) hne ((hob p).1 a) ((hob q).1 b)]
  .have hno:∀p,p∈[s.a,s.b,t.a,t.b]->¬cV s t p:=aH;have hno':∀p,p∈[t.a,t.b,s.a,s.b]->¬cV t s p:=aH;by_cases hc:turn s.a s.b t.a*turn s.a s.b t.b<0/\turn t.a t.b s.a*turn t.a t.b s.b<0
   .rw[h1.cross hv hno hc,h2.cross hv' hno' ⟨hc.2,hc.1⟩]
   .rw[h1.else_ hv hno hc,h2.else_ hv' hno' aH]
def mM{v:V}{m n:Int}(h:bF v m=aE)(hmn:m<=n):bF v n=aE:=by unfold bF at*;simp only[cD,decide_eq_true_eq]at*;omega
def xg{r:aU}(h:near r=aE)(i:Nat)(hi:i<aA r):bF (nth r i) 2000=aE:=by unfold near at h;unfold nth;grind
def lH{r:aU}(h:near r=aE)(i:Nat)(hi:i<aA r):bX (bh r i)=aE:=by unfold bX bh nxt;have h2:(i+1) % (aA r)<aA r:=cG _ aC;simp only[cD];exact⟨mM (xg h i hi) aC,mM (xg h _ h2) aC⟩
def kM{i n:Nat}(h:i<n):i % n=i:=dK h
def sC{i n:Nat}(h1:n<=i)(h2:i<2*n):i % n=i-n:=by rw[Nat.mod_eq_sub_mod h1,dK aC]
def Gn(r:aU)(hn:3<=aA r):
  ((bT (aA r)).all λi=>turn (prv r i) (nth r i) (nxt r i) !=0)=((bT (aA r)).all λi=>turn (nth r i) (nth r ((i+1) % (aA r))) (nth r ((i+2) % (aA r))) !=0):=by
 rw[gR,cC,cC];constructor
 .intro h i hi;have hi:=cP.1 hi;have:=h ((i+1) % (aA r)) (cP.2 (cG _ aC));unfold prv nxt at this;by_cases h1:i+1<aA r
  .rw[kM h1]at this|-;have e1:(i+1+aA r-1) % (aA r)=i:=by rw[(aC:i+1+aA r-1=i+aA r),sC aC aC];omega
   grind
  .have e0:i+1=aA r:=aC;rw[e0,io]at this|-;have e1:(0+aA r-1) % (aA r)=i:=by rw[kM aC];omega
   have e2:(i+2) % (aA r)=(0+1) % (aA r):=by rw[sC aC aC,kM aC];omega
   grind
 .intro h i hi;have hi:=cP.1 hi;have:=h ((i+aA r-1) % (aA r)) (cP.2 (cG _ aC));unfold prv nxt;by_cases h1:i=0
  .subst h1;have e1:(0+aA r-1) % (aA r)=aA r-1:=by rw[kM aC];omega
   have e2:(aA r-1+1) % (aA r)=0:=by rw[(aC:aA r-1+1=aA r),io]
   have e3:(aA r-1+2) % (aA r)=(0+1) % (aA r):=by rw[sC aC aC,kM aC];omega
   grind
  .have e1:(i+aA r-1) % (aA r)=i-1:=by rw[sC aC aC];omega
   have e2:(i-1+1) % (aA r)=i:=by rw[(aC:i-1+1=i)];exact kM hi
   have e3:i-1+2=i+1:=aC;grind
def tw(r:aU):dC r=fJ r:=by
 unfold dC fJ;by_cases h3:3<=aA r
 case neg=>simp[h3]
 by_cases hn:near r=aE
 case neg=>simp[hn]
 rw[Gn r h3];cases ht:((bT (aA r)).all λi=>turn (nth r i) (nth r ((i+1) % (aA r))) (nth r ((i+2) % (aA r))) !=0)with
 |false=>simp
 |true=>
  have hpairs:((bT (aA r)).all λi=>(bT (aA r)).all λk=>decide (k<=i)||k==i+1||(i==0&&k==aA r-1)||cX (bh r i) (bh r k)==0)=
    ((bT (aA r)).all λi=>(bT (aA r)).all λk=>decide (k<=i)||
      (if k=i+1\/(i=0/\k=aA r-1)then cK (bh r i) (bh r k)==1 else cK (bh r i) (bh r k)==0)):=by
   have hturn:∀i,i<aA r->turn (nth r i) (nth r ((i+1) % (aA r))) (nth r ((i+2) % (aA r)))≠0:=by intro i hi;rw[cC]at ht;have:=ht i (cP.2 hi);simpa using this
   have hpt:∀i k,i<aA r->k<aA r->(decide (k<=i)||k==i+1||(i==0&&k==aA r-1)||cX (bh r i) (bh r k)==0)=(decide (k<=i)||
     (if k=i+1\/(i=0/\k=aA r-1)then cK (bh r i) (bh r k)==1 else cK (bh r i) (bh r k)==0)):=by
    intro i k hi hk;rw[<-qq];by_cases hki:k<=i
    .simp[hki]
    .by_cases h1:k=i+1
     .subst h1;have:=P5 (bh r i) (bh r (i+1)) (lH hn i hi) (lH hn _ hk) (by unfold bh nxt;simp[kM hk]) (by have:=hturn i hi;exact this)
      simp[this]
     .by_cases h2:i=0/\k=aA r-1
      .obtain⟨rfl,rfl⟩:=h2;have e1:(aA r-1+1) % (aA r)=0:=by rw[(aC:aA r-1+1=aA r),io]
       have:=P5 (bh r (aA r-1)) (bh r 0) (lH hn _ hk) (lH hn _ hi) (by unfold bh nxt;grind) (by
        have:=hturn (aA r-1) hk;have e3:(aA r-1+2) % (aA r)=(0+1) % (aA r):=by rw[sC aC aC,kM aC];omega
        unfold bh nxt;grind)
       rw[og]at this;simp[this]
      .have h3:(i==0&&k==aA r-1)=aK:=by rw[<-LI,cD,beq_iff_eq,beq_iff_eq];exact h2
       have h4:(k==i+1)=aK:=by rw[beq_eq_false_iff_ne];exact h1
       rw[if_neg aC,h3,h4];simp
   rw[gR];simp only[cC,cP];constructor
   .grind
   .grind
  grind
structure Pt where
 x:Int
 y:Int
 den:Int
deriving DecidableEq,Inhabited
def toV(p:Pt)(v:V):V:=⟨p.x-v.x*p.den,p.y-v.y*p.den⟩
def gi(s:S)(p:Pt):Int:=cross (sub s.b s.a) (toV p s.a)
def onP(s:S)(p:Pt):Bool:=
 gi s p==0&&(decide (min (toV p s.a).x (toV p s.b).x<=0)&&decide (0<=max (toV p s.a).x (toV p s.b).x))&&(decide (min (toV p s.a).y (toV p s.b).y<=0)&&decide (0<=max (toV p s.a).y (toV p s.b).y))
def fN(s:S)(p:Pt):Bool:=
 (decide (0<=(toV p s.a).y) !=decide (0<=(toV p s.b).y))&&(decide (0<=(toV p s.a).y)==decide (0<gi s p))
def onR(s:S)(p:Pt):Bool:=
 (decide (min s.a.x s.b.x*p.den<=p.x)&&decide (p.x<=max s.a.x s.b.x*p.den)&&decide (min s.a.y s.b.y*p.den<=p.y)&&decide (p.y<=max s.a.y s.b.y*p.den))&&sgn (gi s p)==0
def mD(s:S)(p:Pt):Bool:=
 ((decide (s.a.y*p.den<=p.y)&&decide (p.y<s.b.y*p.den))&&decide (0<sgn (gi s p)))||((decide (s.b.y*p.den<=p.y)&&decide (p.y<s.a.y*p.den))&&decide (sgn (gi s p)<0))
def Rj(a b d:Int)(h:0<=d):min a b*d=min (a*d) (b*d):=by
 rcases yt a b with h1|h1
 .rw[Int.min_eq_left h1,Int.min_eq_left (nJ h1 h)]
 .rw[Int.min_eq_right h1,Int.min_eq_right (nJ h1 h)]
def Ro(a b d:Int)(h:0<=d):max a b*d=max (a*d) (b*d):=by
 rcases yt a b with h1|h1
 .rw[Int.max_eq_right h1,Int.max_eq_right (nJ h1 h)]
 .rw[Int.max_eq_left h1,Int.max_eq_left (nJ h1 h)]
def KR(s:S)(p:Pt)(h:0<p.den):onP s p=onR s p:=by unfold onP onR toV;rw[Rj _ _ _ aC,Ro _ _ _ aC,Rj _ _ _ aC,Ro _ _ _ aC,gR];simp only[cD,decide_eq_true_eq,beq_iff_eq,oj];omega
def YV(s:S)(p:Pt)(h0:gi s p=0)(ha:(toV p s.a).y<0)(hb:0<=(toV p s.b).y)(_hd:0<p.den):onP s p=aE:=by
 have e:gi s p*p.den=(toV p s.a).x*(toV p s.b).y-(toV p s.a).y*(toV p s.b).x:=by unfold gi toV cross sub;grind
 rw[h0,wX]at e;unfold onP;rw[h0];generalize (toV p s.a).x=ax at*;generalize (toV p s.b).x=bx at*;simp only[BEq.rfl,jq,cD,decide_eq_true_eq];have hx:(min ax bx<=0/\0<=max ax bx):=by
  rcases cH 0 ax with h1|h1
  .have h2:bx<=0:=by
    rcases cH 0 bx with h2|h2
    .have p1:=mH ha h2;have p2:=cF (aC:0<=ax) hb;omega
    .exact h2
   omega
  .rcases cH ax 0 with h1|h1
   .have h2:0<=bx:=by
     rcases cH bx 0 with h2|h2
     .have p1:=yp ha h2;have p2:=cF (aC:0<= -ax) hb;grind
     .exact h2
    omega
   .omega
 omega
def aE8(s:S)(p:Pt)(h:0<p.den)(ho:onP s p=aK):fN s p=mD s p:=by
 have key:(toV p s.a).y<0->0<=(toV p s.b).y->gi s p≠0:=by intro h1 h2 h3;rw[YV s p h3 h1 h2 h]at ho;cases ho
 unfold fN mD;rw[gR];simp only[cD,jd,decide_eq_true_eq,bne_iff_ne,ne_eq,beq_iff_eq,sF,aDd,decide_eq_decide];have ey1:(toV p s.a).y=p.y-s.a.y*p.den:=rfl;have ey2:(toV p s.b).y=p.y-s.b.y*p.den:=rfl;omega
def jg(p:Pt)(m:Int):Bool:=decide (1<=p.den)&&decide (p.den<=134217728)&&bF ⟨p.x,p.y⟩ (m*p.den)
def dP(p:Pt):Bool:=jg p 4000&&(bQ (bQ p.x.natAbs p.y.natAbs) p.den.natAbs==1)
def fV(p:Pt):List S->Bool->Int
 |[],ins=>if ins then 2 else 0
 |s::l,ins=>if onP s p then 1 else fV p l (ins !=fN s p)
def pB(p:Pt):List S->Bool->Int
 |[],ins=>if ins then 2 else 0
 |s::l,ins=>if onR s p then 1 else pB p l (ins !=mD s p)
def aDe(p:Pt)(h:0<p.den)(l:List S)(ins:Bool):fV p l ins=pB p l ins:=by
 induction l generalizing ins with
 |nil=>rfl
 |cons s l ih=>
  unfold fV pB;rw[<-KR s p h];cases ho:onP s p with
  |true=>rfl
  |false=>rw[ih,aE8 s p h ho]
def cE(r:aU)(p:Pt):Int:=if !(dC r)|| !(dP p)then 0 else fV p (aW r) aK
def fO(r:aU)(p:Pt):Int:=if !(fJ r)|| !(dP p)then 0 else pB p (aW r) aK
def Hk(r:aU)(p:Pt):cE r p=fO r p:=by
 unfold cE fO;rw[tw];cases hp:dP p with
 |false=>simp
 |true=>
  have:0<p.den:=by unfold dP jg at hp;simp only[cD,decide_eq_true_eq]at hp;omega
  rw[aDe p this]
def fL(v:V):Pt:=⟨v.x,v.y,1⟩
def dB(r:aU)(v:V):Int:=if !(bF v 4000)then 0 else cE r (fL v)
def ki(r:aU)(v:V):Int:=if !(bF v 8000)then 0 else fO r (fL v)
def B9(v:V):dP (fL v)=bF v 4000:=by unfold dP jg fL bF;simp
def xN(r:aU)(v:V):dB r v=ki r v:=by
 unfold dB ki;rw[Hk];cases h:bF v 4000 with
 |true=>rw[mM h aC]
 |false=>
  unfold fO;rw[B9,h];simp
structure Shape where
 outer:aU
 holes:List aU
deriving DecidableEq,Inhabited
def aR(s:Shape):List aU:=s.outer::s.holes
def aP(l:List aU)(i:Nat):aU:=l.getD i []
def gQ(a b:aU):Bool:=(aW a).all λx=>(aW b).all λy=>cX x y==0
def bm(r q:aU)(place:Int):Bool:=r.all λv=>dB q v==place
def jy(s:Shape):Nat:=((aR s).map aA).sum
def bL(s:Shape):Bool:=
 decide (aA s.holes<=6)&&(aR s).all dC&&decide (jy s<=80)&&
 ((bT (aA s.holes)).all λi=>bm (aP s.holes i) s.outer 2&&gQ (aP s.holes i) s.outer&&
   ((bT i).all λk=>gQ (aP s.holes i) (aP s.holes k)&&bm (aP s.holes i) (aP s.holes k) 0&&bm (aP s.holes k) (aP s.holes i) 0))
def kS(a b:aU):Bool:=(aW a).any λx=>(aW b).any λy=>cK x y !=0
def rn(a b:aU):Bool:=a.all λv=>ki b v==2
def nT(a b:aU):Bool:=a.any λv=>ki b v==2
def aj(s:Shape):Bool:=
 decide (aA s.holes<=6)&&fJ s.outer&&
 ((bT (aA s.holes)).all λi=>fJ (aP s.holes i)&& !kS (aP s.holes i) s.outer&&rn (aP s.holes i) s.outer&&
   ((bT i).all λk=> !kS (aP s.holes i) (aP s.holes k)&& !nT (aP s.holes i) (aP s.holes k)&& !nT (aP s.holes k) (aP s.holes i)))&&
 decide (jy s<=80)
def X0(a b:aU):gQ a b= !kS a b:=by
 unfold gQ kS;rw[Vx]
 congr 1;funext x
 rw[Vx]
 congr 1;funext y
 rw[qq];grind
def CB{s t:S}{p:V}(hp:p∈[s.a,s.b,t.a,t.b])(ho:cV s t p):cX s t≠0:=by
 have h:=qp s t;have hv:(bX s&&bX t)=aE:=by obtain⟨h1,h2⟩:=ho;unfold onS at h1 h2;simp only[cD]at h1 h2|-;grind
 by_cases hu:∀p q,p∈[s.a,s.b,t.a,t.b]->q∈[s.a,s.b,t.a,t.b]->cV s t p->cV s t q->p=q
 .rw[h.touch hv hu ⟨p,hp,ho⟩];decide
 .have:∃p q,p∈[s.a,s.b,t.a,t.b]/\q∈[s.a,s.b,t.a,t.b]/\p≠q/\cV s t p/\cV s t q:=by apply dS;intro hno;apply hu;intro p q hp hq a b;apply dS;intro hne;grind
  obtain⟨p,q,hp,hq,hne,a,b⟩:=this;rw[h.over p q hp hq hne a b];decide
variable{r:aU}
def iq{s:S}:s∈aW r↔2<=(aA r)/\∃i,i<(aA r)/\s=bh r i:=by unfold aW;grind
def fC{v:V}:v∈r↔∃i,i<(aA r)/\v=nth r i:=by
 unfold nth;constructor
 .intro h;obtain⟨i,hi,e⟩:=jQ h;exact⟨i,hi,aH⟩
 grind
structure VR(r:aU):Prop where
 three:3<=aA r
 most:aA r<=40
 near:near r=aE
 area:0<area r
 turn:∀i,i<aA r->turn (prv r i) (nth r i) (nxt r i)≠0
 turn':∀i,i<aA r->Geo.turn (nth r i) (nth r ((i+1) % (aA r))) (nth r ((i+2) % (aA r)))≠0
 apart:∀i k,i<k->k<aA r->k≠i+1->¬(i=0/\k=aA r-1)->cX (bh r i) (bh r k)=0
def ig(r:aU):dC r=aE↔VR r:=by
 constructor
 .intro h;unfold dC at h;simp only[cD,decide_eq_true_eq,cC,cP]at h;obtain⟨⟨⟨⟨⟨h1,h2⟩,h3⟩,h4⟩,h5⟩,h6⟩:=h;refine⟨h1,h2,h3,h4,aH,λi hi=> ?_,λi k hik hk h7 h8=> ?_⟩
  .have:=Gn r h1;grind
  grind
 .rintro⟨h1,h2,h3,h4,h5,_,h6⟩;unfold dC;simp only[cD,decide_eq_true_eq,cC,cP];grind
def aBy{p:Pt}{l:List S}{ins:Bool}(h:fV p l ins=1):∃s∈l,onP s p=aE:=by
 induction l generalizing ins with
 |nil=>unfold fV at h;omega
 |cons s l ih=>
  unfold fV at h;grind
def NB(p:Pt)(l:List S)(ins:Bool):fV p l ins=0\/fV p l ins=1\/fV p l ins=2:=by
 induction l generalizing ins with
 |nil=>unfold fV;omega
 |cons s l ih=>unfold fV;grind
def MD(r:aU)(v:V):dB r v=0\/dB r v=1\/dB r v=2:=by
 unfold dB cE;split
 .simp
 .split
  .simp
  .exact NB _ _ _
def IA(s:S)(v:V):onP s (fL v)=aE↔(iO s v=aE/\cross (sub s.b s.a) (sub v s.a)=0):=by unfold onP gi toV fL iO;simp only[Bb,cD,beq_iff_eq,decide_eq_true_eq];rw[show(⟨v.x-s.a.x,v.y-s.a.y⟩:V)=sub v s.a from rfl];omega
def MY{v:V}(h:dB r v=1):∃s∈aW r,onS s v=aE:=by
 unfold dB cE at h;split at h
 .omega
 .split at h
  .omega
  .rename_i h2;obtain⟨s,hs,ho⟩:=aBy h;refine⟨s,hs,?_⟩;have hv:VR r:=by rw[<-ig];simp at h2;exact h2.1
   obtain⟨_,i,hi,rfl⟩:=iq.1 hs;rw[ii (lH hv.near i hi)];exact(IA _ _).1 ho
def zM{a b:aU}(ha:VR a)(h:gQ a b=aE){v:V}(hv:v∈a){s:S}(hs:s∈aW b)(ho:onS s v=aE):False:=by obtain⟨i,hi,rfl⟩:=fC.1 hv;have hm:bh a i∈aW a:=iq.2 ⟨by have:=ha.three;omega,i,hi,rfl⟩;unfold gQ at h;rw[cC]at h;have h1:=h _ hm;rw[cC]at h1;refine CB (s:=bh a i) (t:=s) (p:=nth a i) (by simp[bh]) ⟨?_,ho⟩ aH;exact gn (s:=bh a i) (lH ha.near i hi)
def xF(a b:aU):gQ a b=gQ b a:=by
 unfold gQ;rw[gR];simp only[cC,beq_iff_eq];constructor
 .intro h y hy x hx;rw[og];grind
 .intro h x hx y hy;rw[og];grind
def qB{a b:aU}(ha:VR a)(h:gQ a b=aE):bm a b 0= !nT a b:=by
 unfold bm nT;rw[Vx,gR];simp only[cC];constructor
 .intro h1 v hv;rw[<-xN];grind
 .intro h1 v hv;have:=h1 v hv;rw[<-xN]at this;rcases MD b v with e|e|e
  .rw[e];rfl
  .exfalso;obtain⟨s,hs,ho⟩:=MY e;exact zM ha h hv hs ho
  grind
def iU{l:List aU}{i:Nat}(h:i<aA l):aP l i∈l:=by unfold aP;grind
def uA{l:List aU}(h:r∈l):∃i,i<(aA l)/\r=aP l i:=by obtain⟨i,hi,e⟩:=jQ h;exact⟨i,hi,by unfold aP;grind⟩
structure VS(s:Shape):Prop where
 few:aA s.holes<=6
 outer:VR s.outer
 hole:∀i,i<aA s.holes->VR (aP s.holes i)
 corners:jy s<=80
 ins:∀i,i<aA s.holes->bm (aP s.holes i) s.outer 2=aE
 apo:∀i,i<aA s.holes->gQ (aP s.holes i) s.outer=aE
 aph:∀i k,k<i->i<aA s.holes->gQ (aP s.holes i) (aP s.holes k)=aE
 out1:∀i k,k<i->i<aA s.holes->bm (aP s.holes i) (aP s.holes k) 0=aE
 out2:∀i k,k<i->i<aA s.holes->bm (aP s.holes k) (aP s.holes i) 0=aE
def rj(s:Shape):bL s=aE↔VS s:=by
 unfold bL;simp only[cD,decide_eq_true_eq,cC,cP];constructor
 .rintro⟨⟨⟨h1,h2⟩,h3⟩,h4⟩;exact⟨h1,(ig _).1 (h2 _ (by simp[aR])),λi hi=>(ig _).1 (h2 _ (by simp[aR];exact .inr (iU hi))),h3,aH,aH,aH,aH,aH⟩
 .rintro⟨h1,h2,h3,h4,h5,h6,h7,h8,h9⟩;refine⟨⟨⟨h1,?_⟩,h4⟩,aH⟩;intro r hr;rcases bO.1 hr with rfl|hr
  .exact(ig _).2 h2
  .obtain⟨i,hi,rfl⟩:=uA hr;exact(ig _).2 (h3 i hi)
def jv(s:Shape):bL s=aj s:=by
 rw[gR,rj];unfold aj;simp only[cD,decide_eq_true_eq,cC,cP,<-X0];constructor
 .rintro⟨h1,h2,h3,h4,h5,h6,h7,h8,h9⟩;refine⟨⟨⟨h1,by rw[<-tw];exact(ig _).2 h2⟩,λi hi=>⟨⟨⟨by rw[<-tw];exact(ig _).2 (h3 i hi),h6 i hi⟩,?_⟩,λk hk=>⟨⟨h7 i k hk hi,?_⟩,?_⟩⟩⟩,h4⟩
  .have:=h5 i hi;unfold bm at this;unfold rn;rw[cC]at this|-;intro v hv;rw[<-xN];grind
  .rw[<-qB (h3 i hi) (h7 i k hk hi)];grind
  .rw[<-qB (h3 k aC) (by rw[xF];grind)];grind
 .rintro⟨⟨⟨h1,h2⟩,h3⟩,h4⟩;have hr:∀i,i<aA s.holes->VR (aP s.holes i):=λi hi=>by have:=(h3 i hi).1.1.1;rw[<-tw]at this;exact(ig _).1 this
  refine⟨h1,by rw[<-tw]at h2;exact(ig _).1 h2,hr,h4,λi hi=> ?_,aH,aH,λi k hk hi=> ?_,λi k hk hi=> ?_⟩
  .have:=(h3 i hi).1.2;unfold rn at this;unfold bm;rw[cC]at this|-;intro v hv;rw[xN];grind
  .rw[qB (hr i hi) aH];grind
  .rw[qB (hr k aC) (by rw[xF];grind)];grind
end Geo
namespace Geo
def dw(r:aU):Nat->Nat
 |0=>0
 |n+1=>if cB (nth r n) (nth r (dw r n))then n else dw r n
def dt(r:aU):Nat:=dw r (aA r)
def bo(r:aU):aU:=r.drop (dt r)++r.take (dt r)
def GY(r:aU)(n:Nat)(h:0<n):dw r n<n:=by
 induction n with
 |zero=>omega
 |succ n ih=>
  unfold dw;split
  .omega
  .rcases Nat.eq_zero_or_pos n with rfl|h0
   .simp[dw]
   omega
def tf(r:aU)(n i:Nat)(hi:i<n):leV (nth r (dw r n)) (nth r i):=by
 induction n with
 |zero=>omega
 |succ n ih=>
  unfold dw;split
  .rename_i h;have h:=(oh _ _).1 h;have h':leV (nth r n) (nth r (dw r n)):=(z6 _ _).elim id aH;by_cases e:i=n
   .subst e;exact vY _
   .exact tk h' (ih aC)
  .rename_i h;have h:=(rm _ _).1 (by simpa using h);grind
def Fv(r:aU)(n i:Nat)(hi:i<dw r n):cB (nth r (dw r n)) (nth r i)=aE:=by
 induction n with
 |zero=>simp[dw]at hi
 |succ n ih=>
  unfold dw at hi|-;split
  .rename_i h;rw[if_pos h]at hi;rw[oh];have h1:=(oh _ _).1 h;intro h2;exact h1 (tk (tf r n i hi) h2)
  grind
variable{r:aU}
def nR(h:0<aA r):dt r<aA r:=GY r _ h
def Wk{k:Nat}(hk:k<aA r)(h1:∀i,i<aA r->leV (nth r k) (nth r i))(h2:∀i,i<k->nth r i≠nth r k):k=dt r:=by
 have a:=nR (r:=r) aC;have b:=tf r (aA r) k hk;have e:nth r k=nth r (dt r):=AG (h1 _ a) b;rcases Bd k (dt r)with h|h|h
 .have:=Fv r (aA r) k h;rw[show dw r (aA r)=dt r from rfl,<-e,zN]at this;cases this
 .exact h
 grind
def oe(r:aU):(bo r).Perm r:=by refine yu.trans ?_;simp_all
def je(r:aU):aA (bo r)=aA r:=(oe r).length_eq
def xR{i:Nat}(hi:i<aA r):nth (bo r) i=nth r ((i+dt r) % (aA r)):=by
 have hk:=nR (r:=r) aC;unfold bo nth;rw[fY,fY];by_cases h:i<aA r-dt r
 .rw[qU eO,yv,kM aC];grind
 .rw[mg eO,List.getElem?_take_of_lt eO,sC aC aC];grind
def L9(h:0<aA r):nth (bo r) 0=nth r (dt r):=by rw[xR h,Nat.zero_add,kM (nR h)]
def po(r:aU)(s:S):s∈aW (bo r)↔s∈aW r:=by
 rw[iq,iq,je];constructor
 .rintro⟨h2,i,hi,rfl⟩;refine⟨h2,(i+dt r) % (aA r),cG _ aC,?_⟩;unfold bh nxt;rw[je,xR hi,xR (cG _ aC),kW,kW];grind
 .rintro⟨h2,i,hi,rfl⟩;have hk:=nR (r:=r) aC;refine⟨h2,(i+(aA r-dt r)) % (aA r),cG _ aC,?_⟩;unfold bh nxt;rw[je,xR (cG _ aC),xR (cG _ aC),kW,kW];have e1:(i+(aA r-dt r)+dt r) % (aA r)=i:=by rw[(aC:i+(aA r-dt r)+dt r=i+aA r),mh,kM hi]
  have e2:(i+(aA r-dt r)+1+dt r) % (aA r)=(i+1) % (aA r):=by rw[(aC:i+(aA r-dt r)+1+dt r=i+1+aA r),mh]
  rw[e1,u4 _ 1 (dt r),kW,<-u4 _ 1 (dt r),e2]
def VR.touch(h:VR r){i k:Nat}(hi:i<aA r)(hk:k<aA r)(ho:onS (bh r k) (nth r i)=aE):i=k\/i=(k+1) % (aA r):=by
 have h3:=h.three;have hb:onS (bh r i) (nth r i)=aE:=gn (s:=bh r i) (lH h.near i hi);have hj:(i+aA r-1) % (aA r)<aA r:=cG _ aC;have hje:((i+aA r-1) % (aA r)+1) % (aA r)=i:=by rw[kW,(aC:i+aA r-1+1=i+aA r),mh,kM hi]
 have hb2:onS (bh r ((i+aA r-1) % (aA r))) (nth r i)=aE:=by have:=km (s:=bh r ((i+aA r-1) % (aA r))) (lH h.near _ hj);unfold bh nxt at this;simp only[hje]at this;unfold bh nxt;rw[hje];exact this
 have meetsE:∀j,j<aA r->onS (bh r j) (nth r i)=aE->(nth r i=nth r j\/nth r i=nxt r j)->j=k\/(j+1) % (aA r)=k\/(k+1) % (aA r)=j:=by
  intro j hj hoj hend;rcases Bd j k with hlt|he|hgt
  .by_cases h1:k=j+1
   .right;left;rw[kM aC];exact h1.symm
   .by_cases h2:j=0/\k=aA r-1
    .right;right;rw[h2.2,h2.1,(aC:aA r-1+1=aA r),io]
    .exfalso;have:=h.apart j k hlt hk h1 h2;exact CB (s:=bh r j) (t:=bh r k) (p:=nth r i) (by rcases hend with e|e<;>simp[bh,e]) ⟨hoj,ho⟩ this
  .exact .inl he
  .by_cases h1:j=k+1
   .right;right;rw[kM aC];exact h1.symm
   .by_cases h2:k=0/\j=aA r-1
    .right;left;rw[h2.2,h2.1,(aC:aA r-1+1=aA r),io]
    .exfalso;have:=h.apart k j hgt hj h1 h2;exact CB (s:=bh r k) (t:=bh r j) (p:=nth r i) (by rcases hend with e|e<;>simp[bh,e]) ⟨ho,hoj⟩ this
 have c1:=meetsE i hi hb (.inl rfl);rcases c1 with e|e|e
 .exact .inl e
 ·
  have c2:=meetsE _ hj hb2 (.inr (by unfold nxt;rw[hje]));rcases c2 with e2|e2|e2
  .grind
  .omega
  ·
   exfalso;have hk1:(k+1) % (aA r)=(i+2) % (aA r):=by rw[<-e,kW]
   apply h.turn' i hi;have:=((ii (lH h.near k hk)).1 ho).2;rw[tz];unfold Geo.turn;rw[oj];unfold bh nxt at this;grind
 omega
def VR.inj(h:VR r){i k:Nat}(hi:i<aA r)(hk:k<aA r)(he:nth r i=nth r k):i=k:=by
 have ho:onS (bh r k) (nth r i)=aE:=by rw[he];exact gn (s:=bh r k) (lH h.near k hk)
 rcases h.touch hi hk ho with e|e
 .exact e
 ·
  exfalso;have ht:=h.turn' k hk;apply ht;rw[<-e,he];unfold Geo.turn;rw[oj];simp[cross,sub]
def VR.nodup(h:VR r):r.Nodup:=by rw[oS,u5];intro i j hi hj hij e;have:=h.inj hi hj (by unfold nth;grind);omega
def VR.Nx(h:VR r){v:V}(hv:v∈r){s:S}(hs:s∈aW r)(ho:onS s v=aE):v=s.a\/v=s.b:=by
 obtain⟨i,hi,rfl⟩:=fC.1 hv;obtain⟨_,k,hk,rfl⟩:=iq.1 hs;rcases h.touch hi hk ho with e|e
 .left;rw[e];rfl
 .right;rw[e];rfl
def bW(s:Shape):List V:=(aR s).flatten
def ao(s:Shape):List S:=(aR s).flatMap aW
variable{s:Shape}
def VS.ring(h:VS s)(hr:r∈aR s):VR r:=by
 rcases bO.1 hr with rfl|hr
 .exact h.outer
 .obtain⟨i,hi,rfl⟩:=uA hr;exact h.hole i hi
def VS.pair(h:VS s):(aR s).Pairwise (λa b=>gQ a b=aE):=by
 unfold aR;rw[jA];refine⟨λr hr=> ?_,?_⟩
 .obtain⟨i,hi,rfl⟩:=uA hr;rw[xF];exact h.apo i hi
 .rw[u5];intro i k hi hk hik;have:=h.aph k i hik hk;unfold aP at this;rw[fY,fY,fQ hi,fQ hk]at this;rw[xF];exact this
def NJ:∀(l:List aU),(∀r∈l,VR r)->l.Pairwise (λa b=>gQ a b=aE)->∀v∈l.flatten,∀e∈l.flatMap aW,onS e v=aE->v=e.a\/v=e.b
 |[],_,_,v,hv,_,_,_=>by simp at hv
 |r::l,hr,hp,v,hv,e,he,ho=>by
  rw[jA]at hp;rw[mI,bz]at hv;rw[fw,bz]at he;rcases hv with hv|hv<;>rcases he with he|he
  .exact(hr r af).Nx hv he ho
  .rw[dL]at he;obtain⟨q,hq,he⟩:=he;exact(zM (hr r af) (hp.1 q hq) hv he ho).elim
  .rw[ml]at hv;obtain⟨q,hq,hv⟩:=hv;exact(zM aH (by rw[xF];grind) hv he ho).elim
  .exact NJ l aH hp.2 v hv e he ho
def NK:∀(l:List aU),(∀r∈l,VR r)->l.Pairwise (λa b=>gQ a b=aE)->l.flatten.Nodup
 |[],_,_=>af
 |r::l,hr,hp=>by
  rw[jA]at hp;rw[mI,nK];refine⟨(hr r af).nodup,NK l aH hp.2,?_⟩;rintro a ha b hb rfl;rw[ml]at hb;obtain⟨q,hq,hb⟩:=hb;have hvq:=hr q (by simp[hq]);obtain⟨i,hi,rfl⟩:=fC.1 hb;exact zM (hr r af) (hp.1 q hq) ha (iq.2 ⟨by have:=hvq.three;omega,i,hi,rfl⟩) (gn (s:=bh q i) (lH hvq.near i hi))
def VS.touch(h:VS s){v:V}(hv:v∈bW s){e:S}(he:e∈ao s)(ho:onS e v=aE):v=e.a\/v=e.b:=
 NJ _ (λ_ hr=>h.ring hr) h.pair v hv e he ho
def VS.nodup(h:VS s):(bW s).Nodup:=NK _ (λ_ hr=>h.ring hr) h.pair
end Geo
namespace Geo
def nH:List aU->aU->List aU
 |[],h=>[h]
 |q::l,h=>if cB (nth q 0) (nth h 0)then q::nH l h else h::q::l
def sf(l:List aU):List aU:=l.foldl nH []
def cn(s:Shape):Shape:=⟨bo s.outer,sf (s.holes.map bo)⟩
def Of(l:List aU)(h:aU):(nH l h).Perm (h::l):=by
 induction l with
 |nil=>exact FF _
 |cons q l ih=>
  unfold nH;grind
def WZ(l acc:List aU):(l.foldl nH acc).Perm (acc++l):=by
 induction l generalizing acc with
 |nil=>simp
 |cons q l ih=>
  refine(ih _).trans ?_;refine((Of acc q).append_right l).trans ?_;grind
def nQ(l:List aU):(sf l).Perm l:=by unfold sf;have:=WZ l [];grind
def leH(a b:aU):Prop:=leV (nth a 0) (nth b 0)
def Xg(l:List aU)(h:aU)(hl:l.Pairwise leH):(nH l h).Pairwise leH:=by
 induction l with
 |nil=>simp[nH]
 |cons q l ih=>
  rw[jA]at hl;unfold nH;split
  .rename_i hq;rw[jA];refine⟨λx hx=> ?_,ih hl.2⟩;have hx:=(Of l h).subset hx;rcases bO.1 hx with rfl|hx
   .exact(z6 _ _).elim id (λe=>absurd e ((oh _ _).1 hq))
   grind
  .rename_i hq;have hq:=(rm _ _).1 (by simpa using hq);rw[jA,jA];refine⟨λx hx=> ?_,hl⟩;rcases bO.1 hx with rfl|hx
   .exact hq
   .exact tk hq (hl.1 x hx)
def WQ(l acc:List aU)(h:acc.Pairwise leH):(l.foldl nH acc).Pairwise leH:=by
 induction l generalizing acc with
 |nil=>exact h
 |cons q l ih=>exact ih _ (Xg acc q h)
def W5(l:List aU):(sf l).Pairwise leH:=WQ l [] wU
def zL:∀(l:List aU),l.flatten.Nodup->∀a∈l,∀b∈l,∀x,x∈a->x∈b->a=b
 |[],_,a,ha,_,_,_,_,_=>by cases ha
 |r::l,h,a,ha,b,hb,x,hxa,hxb=>by
  rw[mI,nK]at h;obtain⟨h1,h2,h3⟩:=h;rcases bO.1 ha with ea|ha'<;>rcases bO.1 hb with eb|hb'
  .rw[ea,eb]
  .rw[ea]at hxa;exact(h3 x hxa x (ml.2 ⟨_,hb',hxb⟩) rfl).elim
  .rw[eb]at hxb;exact(h3 x hxb x (ml.2 ⟨_,ha',hxa⟩) rfl).elim
  .exact zL l h2 a ha' b hb' x hxa hxb
def Ly(l:List aU):((l.map bo).flatten).Perm l.flatten:=by
 induction l with
 |nil=>grind
 |cons r l ih=>
  exact(oe r).append ih
def qY(s:Shape):(bW (cn s)).Perm (bW s):=by unfold bW aR cn;refine(oe _).append ?_;exact((nQ _).flatten).trans (Ly _)
def zK(s:Shape)(e:S):e∈ao (cn s)↔e∈ao s:=by
 unfold ao aR cn;simp only[fw,bz,dL,po];constructor
 .rintro(h|⟨r,hr,he⟩)
  .exact .inl h
  .have hr:=(nQ _).subset hr;obtain⟨q,hq,rfl⟩:=bn.1 hr;exact .inr ⟨q,hq,(po q e).1 he⟩
 .rintro(h|⟨r,hr,he⟩)
  .exact .inl h
  .refine .inr ⟨bo r,(nQ _).symm.subset aH,(po r e).2 he⟩
def lO(p:Pt):List aU->Int->Int
 |[],w=>w
 |h::l,w=>if cE h p=2 then 0 else if cE h p=1 then 1 else lO p l w
def fm(s:Shape)(p:Pt):Int:=
 if !(bL s)then 0 else if cE s.outer p≠2 then cE s.outer p else lO p s.holes 2
def oC(p:Pt):List aU->Int->Int
 |[],w=>w
 |h::l,w=>if fO h p=2 then 0 else if fO h p=1 then 1 else oC p l w
def ir(s:Shape)(p:Pt):Int:=if !(aj s)then 0 else oC p s.holes (fO s.outer p)
def aCd(p:Pt)(l:List aU)(w:Int):lO p l w=oC p l w:=by
 induction l with
 |nil=>rfl
 |cons h l ih=>unfold lO oC;rw[Hk,ih]
def Yj(p:Pt)(l:List aU)(w:Int):oC p l w=2->w=2:=by
 induction l with
 |nil=>exact id
 |cons h l ih=>unfold oC;omega
def GS(s:Shape)(p:Pt):(fm s p==2)=(ir s p==2):=by
 unfold fm ir;rw[jv,Hk];cases aj s with
 |false=>rfl
 |true=>
  simp only[oR,mf,if_false];by_cases h:fO s.outer p=2
  .rw[if_neg aC,h,aCd]
  .rw[if_pos h,gR,beq_iff_eq,beq_iff_eq];exact⟨aH,λe=>absurd (Yj _ _ _ e) h⟩
def iW(c:S):Pt:=
 if(c.a.x+c.b.x).tmod 2=0/\(c.a.y+c.b.y).tmod 2=0 then⟨(c.a.x+c.b.x).tdiv 2,(c.a.y+c.b.y).tdiv 2,1⟩else⟨c.a.x+c.b.x,c.a.y+c.b.y,2⟩
def ib(l:List V):Int:=(l.map V.x).sum
def ia(l:List V):Int:=(l.map V.y).sum
def kO(l:List V):Pt:=
 let g:Int:=bQ (bQ (ib l).natAbs (ia l).natAbs) (aA l)
 ⟨(ib l).tdiv g,(ia l).tdiv g,(aA l:Int).tdiv g⟩
def xU(x:Int)(k:Nat):x.tmod k=0↔k∣x.natAbs:=by rw[<-Vy,Int.ofNat_dvd_left]
def YX(a b:V):kO [a,b] =iW ⟨a,b⟩:=by
 unfold kO iW ib ia;simp only[dU,qV,oT,List.sum_nil,pU,iE,nI];generalize a.x+b.x=x;generalize a.y+b.y=y;have hd:bQ (bQ x.natAbs y.natAbs) 2∣2:=wY _ _;have hle:=LJ aC hd;have hpos:0<bQ (bQ x.natAbs y.natAbs) 2:=aH;by_cases h:x.tmod 2=0/\y.tmod 2=0
 .have e:bQ (bQ x.natAbs y.natAbs) 2=2:=Nat.gcd_eq_right (Nat.dvd_gcd aH aH);grind
 .have e:bQ (bQ x.natAbs y.natAbs) 2=1:=by
   rcases pV (bQ (bQ x.natAbs y.natAbs) 2) 2 with h1|h1
   .omega
   .exfalso;have e2:bQ (bQ x.natAbs y.natAbs) 2=2:=aC;have d1:2∣bQ x.natAbs y.natAbs:=by have:=u6 (bQ x.natAbs y.natAbs) 2;rwa[e2]at this
    exact h ⟨(xU x 2).2 (wZ d1 (u6 _ _)),(xU y 2).2 (wZ d1 (wY _ _))⟩
  simp_all
def gg(a b c:V):Pt:=
 if(a.x+b.x+c.x).tmod 3=0/\(a.y+b.y+c.y).tmod 3=0 then⟨(a.x+b.x+c.x).tdiv 3,(a.y+b.y+c.y).tdiv 3,1⟩else⟨a.x+b.x+c.x,a.y+b.y+c.y,3⟩
def CY(a b c:V):kO [a,b,c] =gg a b c:=by
 unfold kO gg ib ia;simp only[dU,qV,oT,List.sum_nil,pU,iE,nI];rw[<-Int.add_assoc,<-Int.add_assoc];generalize a.x+b.x+c.x=x;generalize a.y+b.y+c.y=y;have hd:bQ (bQ x.natAbs y.natAbs) 3∣3:=wY _ _;have hle:=LJ aC hd;have hpos:0<bQ (bQ x.natAbs y.natAbs) 3:=aH;have h13:bQ (bQ x.natAbs y.natAbs) 3=1\/bQ (bQ x.natAbs y.natAbs) 3=3:=by
  generalize bQ (bQ x.natAbs y.natAbs) 3=g at*;obtain⟨q,hq⟩:=hd;match g,hle,hpos with
  |1,_,_=>omega
  |2,_,_=>omega
  |3,_,_=>omega
 by_cases h:x.tmod 3=0/\y.tmod 3=0
 .have e:bQ (bQ x.natAbs y.natAbs) 3=3:=Nat.gcd_eq_right (Nat.dvd_gcd aH aH);grind
 .have e:bQ (bQ x.natAbs y.natAbs) 3=1:=by
   rcases h13 with h1|e2
   .exact h1
   .exfalso;have d1:3∣bQ x.natAbs y.natAbs:=by have:=u6 (bQ x.natAbs y.natAbs) 3;rwa[e2]at this
    exact h ⟨(xU x 3).2 (wZ d1 (u6 _ _)),(xU y 3).2 (wZ d1 (wY _ _))⟩
  simp_all
def x6(s t:S):Bool:=s.a==t.a||s.a==t.b||s.b==t.a||s.b==t.b
def dD(s t:S):Bool:=cX s t==0||(cX s t==1&&x6 s t)
def jY(s:Shape)(c:S):Bool:=(ao s).all (λe=>dD e c)&&fm s (iW c)==2
def iA(d e:S):Bool:=
 if cK d e=2\/cK d e=3 then aK
 else if cK d e=1 then(nth (fR d e) 0==d.a||nth (fR d e) 0==d.b)else aE
def jH(s:Shape)(c:S):Bool:=(ao s).all (λe=>iA c e)&&(c.a !=c.b&&ir s (kO [c.a,c.b])==2)
def Mj(s t:S):cX s t=0\/cX s t=1\/cX s t=2\/cX s t=3:=by unfold cX qx;grind
def Cg{s t:S}(h:cX s t=1):(bX s=aE/\bX t=aE)/\∃z,z∈ends s t/\cV s t z/\(∀p,p∈ends s t->cV s t p->p=z)/\fR s t=[z] :=by
 rw[qq]at h;have hm:=GG s t;unfold cK at h;split at h
 .omega
 .split at h
  .omega
  .split at h
   .rename_i h1;match hc:fR s t,h1 with
    |[z],_=>
     grind
   omega
def aBP{s t:S}(h:cX s t=3):∃p q,p≠q/\p∈ends s t/\q∈ends s t/\cV s t p/\cV s t q:=by
 rw[qq]at h;have hm:=GG s t;have hs:=L6 ((ends s t).filter (λp=>onS s p&&onS t p));rw[show ny ((ends s t).filter (λp=>onS s p&&onS t p))=fR s t from rfl]at hs;unfold cK at h;split at h
 .omega
 .split at h
  .rename_i h1;match hc:fR s t,h1 with
   |z::y::r,_=>
    rw[hc]at hm hs;have hz:=(hm z).1 af;have hy:=(hm y).1 af;refine⟨z,y,?_,hz.1,hy.1,hz.2,hy.2⟩;rintro rfl;rw[jA]at hs;have:=hs.1 z af;rw[zN]at this;cases this
  omega
def lv(s t:S)(p:V):p∈ends s t↔p=s.a\/p=s.b\/p=t.a\/p=t.b:=by unfold ends;simp
def CT(s t:S):x6 s t=aE↔(s.a=t.a\/s.a=t.b\/s.b=t.a\/s.b=t.b):=by unfold x6;grind
variable{s:Shape}
def Oz(h:VS s){c e:S}(ha:c.a∈bW s)(hb:c.b∈bW s)(he:e∈ao s):dD e c=iA c e:=by
 unfold dD iA;rw[og e c,<-qq];rcases Mj c e with hk|hk|hk|hk
 .rw[hk];simp
 .rw[if_neg aC,if_pos hk,hk];obtain⟨⟨vc,ve⟩,z,hz,ho,hu,hcom⟩:=Cg hk;rw[hcom];rw[gR];simp only[jd,beq_iff_eq,cD,CT];constructor
  .rintro(h1|⟨_,h1⟩)
   .omega
   .rcases h1 with h1|h1|h1|h1
    .left;exact(hu c.a (by rw[lv];simp) ⟨gn vc,by rw[<-h1];exact gn ve⟩).symm
    .right;exact(hu c.b (by rw[lv];simp) ⟨km vc,by rw[<-h1];exact gn ve⟩).symm
    .left;exact(hu c.a (by rw[lv];simp) ⟨gn vc,by rw[<-h1];exact km ve⟩).symm
    .right;exact(hu c.b (by rw[lv];simp) ⟨km vc,by rw[<-h1];exact km ve⟩).symm
  .rintro(h1|h1)
   .right;have:=h.touch ha he (by rw[<-h1];exact ho.2);grind
   .right;have:=h.touch hb he (by rw[<-h1];exact ho.2);grind
 .rw[hk];simp
 grind
def IW(h:VS s){c:S}(ha:c.a∈bW s)(hb:c.b∈bW s)(hne:c.a≠c.b):jY s c=jH s c:=by
 unfold jY jH;rw[YX,GS];have e1:((ao s).all λe=>dD e c)=((ao s).all λe=>iA c e):=by
  rw[gR,cC,cC];constructor
  .intro h1 e he;rw[<-Oz h ha hb he];exact h1 e he
  .intro h1 e he;rw[Oz h ha hb he];exact h1 e he
 rw[e1];have e2:(c.a !=c.b)=aE:=by simpa using hne
 rw[e2,jq]
def GP(h:VS s){c:S}(hc:jY s c=aE){p:V}(hp:p∈bW s)(ho:onS c p=aE):p=c.a\/p=c.b:=by
 unfold bW at hp;rw[ml]at hp;obtain⟨r,hr,hpr⟩:=hp;have hvr:=h.ring hr;obtain⟨i,hi,rfl⟩:=fC.1 hpr;have he:bh r i∈ao s:=dL.2 ⟨r,hr,iq.2 ⟨by have:=hvr.three;omega,i,hi,rfl⟩⟩;have ve:=lH hvr.near i hi;unfold jY at hc;rw[cD,cC]at hc;have ht:=hc.1 _ he;have hob:cV (bh r i) c (nth r i):=⟨gn (s:=bh r i) ve,ho⟩;have hnz:=CB (s:=bh r i) (t:=c) (p:=nth r i) (by simp[bh]) hob;unfold dD at ht;simp only[jd,beq_iff_eq,cD,CT]at ht;rcases ht with ht|⟨ht,hsh⟩
 .omega
 .obtain⟨⟨_,vc⟩,z,_,_,hu,_⟩:=Cg ht;have e1:=hu (nth r i) (by rw[lv];simp[bh]) hob;rw[e1];rcases hsh with h1|h1|h1|h1
  .left;exact(hu c.a (by rw[lv];simp) ⟨by rw[<-h1];exact gn ve,gn vc⟩).symm
  .right;exact(hu c.b (by rw[lv];simp) ⟨by rw[<-h1];exact gn ve,km vc⟩).symm
  .left;exact(hu c.a (by rw[lv];simp) ⟨by rw[<-h1];exact km ve,gn vc⟩).symm
  .right;exact(hu c.b (by rw[lv];simp) ⟨by rw[<-h1];exact km ve,km vc⟩).symm
def Xv(h:VS s){c d:S}(hc:jY s c=aE)(hd:jY s d=aE)(c1:c.a∈bW s)(c2:c.b∈bW s)(d1:d.a∈bW s)(d2:d.b∈bW s)
  (hne:¬((c.a=d.a/\c.b=d.b)\/(c.a=d.b/\c.b=d.a))):dD c d=(cK d c !=2):=by
 rw[<-qq,og d c];unfold dD;have hends:∀p,p∈ends c d->cV c d p->(p=c.a\/p=c.b)/\(p=d.a\/p=d.b):=by
  intro p hp ho;have hpv:p∈bW s:=by rcases(lv _ _ _).1 hp with rfl|rfl|rfl|rfl<;>assumption
  exact⟨GP h hc hpv ho.1,GP h hd hpv ho.2⟩
 rcases Mj c d with hk|hk|hk|hk
 .rw[hk];rfl
 .have:x6 c d=aE:=by obtain⟨_,z,hz,ho,_,_⟩:=Cg hk;obtain⟨h1,h2⟩:=hends z hz ho;rw[CT];grind
  grind
 .rw[hk];rfl
 .obtain⟨p,q,hpq,hp,hq,op,oq⟩:=aBP hk;grind
end Geo
namespace Geo
def dH(v:List V)(p:Nat×Nat):S:=⟨nth v p.1,nth v p.2⟩
def sZ(s:Shape)(v:List V)(acc:List (Nat×Nat))(i k:Nat):List (Nat×Nat):=
 if !(acc.any λd=> !(dD ⟨nth v i,nth v k⟩ (dH v d)))&&jY s ⟨nth v i,nth v k⟩then acc++[(i,k)]else acc
def rowP(s:Shape)(v:List V)(acc:List (Nat×Nat))(i:Nat):Nat->List (Nat×Nat)
 |0=>acc
 |m+1=>sZ s v (rowP s v acc i m) i (i+1+m)
def fo(s:Shape)(v:List V):Nat->List (Nat×Nat)
 |0=>[]
 |i+1=>rowP s v (fo s v i) i (aA v-(i+1))
def eM(s:Shape)(v:List V):List (Nat×Nat):=fo s v (aA v)
def q9(s:Shape)(v:List V)(acc:List S)(i k:Nat):List S:=
 if jH s ⟨nth v i,nth v k⟩&&(acc.all λd=>cK d ⟨nth v i,nth v k⟩ !=2)then acc++[⟨nth v i,nth v k⟩]else acc
def tH(s:Shape)(v:List V)(acc:List S)(i:Nat):Nat->List S
 |0=>acc
 |m+1=>q9 s v (tH s v acc i m) i (i+1+m)
def jG(s:Shape)(v:List V):Nat->List S
 |0=>[]
 |i+1=>tH s v (jG s v i) i (aA v-(i+1))
def oL(s:Shape)(v:List V):List S:=jG s v (aA v)
variable{v:List V}
def dh{i:Nat}(h:i<aA v):nth v i∈v:=fC.2 ⟨i,h,rfl⟩
def gU(hn:v.Nodup){i k:Nat}(hi:i<aA v)(hk:k<aA v)(e:nth v i=nth v k):i=k:=by unfold nth at e;rw[fY,fY,fQ hi,fQ hk]at e;rw[oS,u5]at hn;grind
structure Found(s:Shape)(v:List V)(acc:List (Nat×Nat))(i k:Nat):Prop where
 lt:∀p∈acc,p.1<p.2/\p.2<aA v
 ahead:∀p∈acc,p.1<i\/(p.1=i/\p.2<k)
 chord:∀p∈acc,jY s (dH v p)=aE
 apart:acc.Pairwise λp q=>cK (dH v p) (dH v q)≠2
variable{s:Shape}{acc:List (Nat×Nat)}
def Y4(h:VS s)(hv:∀x∈v,x∈bW s)(hn:v.Nodup){i k:Nat}(hF:Found s v acc i k)(hik:i<k)(hk:k<aA v)(hc:jY s ⟨nth v i,nth v k⟩=aE):
  (!(acc.any λd=> !(dD ⟨nth v i,nth v k⟩ (dH v d))))=((acc.map (dH v)).all λd=>cK d ⟨nth v i,nth v k⟩ !=2):=by
 have key:∀d∈acc,dD ⟨nth v i,nth v k⟩ (dH v d)=(cK (dH v d) ⟨nth v i,nth v k⟩ !=2):=by
  intro d hd;obtain⟨h1,h2⟩:=hF.lt d hd;refine Xv h hc (hF.chord d hd) (hv _ (dh aC)) (hv _ (dh hk)) (hv _ (dh aC)) (hv _ (dh aC)) ?_;rintro(⟨e1,e2⟩|⟨e1,e2⟩)
  .have a1:=gU hn aC aC e1;have a2:=gU hn aC aC e2;rcases hF.ahead d hd with h3|h3<;>omega
  .have a1:=gU hn aC aC e1;have a2:=gU hn aC aC e2;omega
 grind
def aC6(h:VS s)(hv:∀x∈v,x∈bW s)(hn:v.Nodup){i k:Nat}(hF:Found s v acc i k)(hik:i<k)(hk:k<aA v):
  (sZ s v acc i k).map (dH v)=q9 s v (acc.map (dH v)) i k/\Found s v (sZ s v acc i k) i (k+1):=by
 have hne:nth v i≠nth v k:=λe=>by have:=gU hn aC hk e;omega
 have hce:=IW h (c:=⟨nth v i,nth v k⟩) (hv _ (dh aC)) (hv _ (dh hk)) hne;unfold sZ q9;cases hc:jY s ⟨nth v i,nth v k⟩with
 |false=>
  rw[hc]at hce;rw[<-hce];simp only[Bool.and_false,qW,mf,if_false];exact⟨by trivial,hF.lt,λp hp=>by have:=hF.ahead p hp;omega,hF.chord,hF.apart⟩
 |true=>
  rw[hc]at hce;rw[<-hce,Y4 h hv hn hF hik hk hc,LM,jq];by_cases hx:((acc.map (dH v)).all λd=>cK d ⟨nth v i,nth v k⟩ !=2)=aE
  .rw[if_pos hx,if_pos hx];refine⟨by rw[dV];rfl,?_,?_,?_,?_⟩
   .intro p hp;rcases bz.1 hp with hp|hp
    .exact hF.lt p hp
    grind
   .intro p hp;rcases bz.1 hp with hp|hp
    .have:=hF.ahead p hp;omega
    grind
   .intro p hp;rcases bz.1 hp with hp|hp
    .exact hF.chord p hp
    .obtain rfl:=cI.1 hp;exact hc
   .rw[Vz];refine⟨hF.apart,aH,?_⟩;intro p hp q hq;obtain rfl:=cI.1 hq;rw[List.all_map,cC]at hx;have:=hx p hp;simp only[FG,bne_iff_ne]at this;exact this
  .rw[if_neg hx,if_neg hx];exact⟨rfl,hF.lt,λp hp=>by have:=hF.ahead p hp;omega,hF.chord,hF.apart⟩
def aEQ(h:VS s)(hv:∀x∈v,x∈bW s)(hn:v.Nodup){i:Nat}(hF:Found s v acc i (i+1))(m:Nat)(hm:i+1+m<=aA v):
  (rowP s v acc i m).map (dH v)=tH s v (acc.map (dH v)) i m/\Found s v (rowP s v acc i m) i (i+1+m):=by
 induction m with
 |zero=>exact⟨rfl,hF⟩
 |succ m ih=>
  obtain⟨h1,h2⟩:=ih aC;unfold rowP tH;rw[<-h1];exact aC6 h hv hn h2 aC aC
def aFr(h:VS s)(hv:∀x∈v,x∈bW s)(hn:v.Nodup)(i:Nat)(hi:i<=aA v):
  (fo s v i).map (dH v)=jG s v i/\Found s v (fo s v i) i (i+1):=by
 induction i with
 |zero=>exact⟨rfl,⟨by simp[fo],by simp[fo],by simp[fo],by simp[fo]⟩⟩
 |succ i ih=>
  obtain⟨h1,h2⟩:=ih aC;unfold fo jG;rw[<-h1];obtain⟨h3,h4⟩:=aEQ h hv hn h2 (aA v-(i+1)) aC;exact⟨h3,h4.lt,λp hp=>by have:=h4.ahead p hp;omega,h4.chord,h4.apart⟩
def Dj(h:VS s)(hv:∀x∈v,x∈bW s)(hn:v.Nodup):(eM s v).map (dH v)=oL s v/\Found s v (eM s v) (aA v) (aA v+1):=
 aFr h hv hn _ (Nat.le_refl _)
end Geo
namespace Geo
abbrev Tab:=Nat->Nat->Bool
def BJ(t:Tab)(i k:Nat):Tab:=λa b=>if(a=i/\b=k)\/(a=k/\b=i)then aE else t a b
def yL(t:Tab)(n at_:Nat):Nat->Tab
 |0=>t
 |m+1=>BJ (yL t n at_ m) (at_+m) (at_+(m+1) % n)
def Ao(t:Tab)(at_:Nat):List aU->Tab
 |[] =>t
 |r::l=>Ao (yL t (aA r) at_ (aA r)) (at_+aA r) l
def Jj(l:List (Nat×Nat)):Tab:=l.foldl (λt p=>BJ t p.1 p.2) (λ_ _=>aK)
def JC(s:Shape)(v:List V):Tab:=Ao (Jj (eM s v)) 0 (aR (cn s))
def YS(l:List (Nat×Nat))(t:Tab)(a b:Nat):l.foldl (λt p=>BJ t p.1 p.2) t a b=aE↔(t a b=aE\/(a,b)∈l\/(b,a)∈l):=by
 induction l generalizing t with
 |nil=>simp
 |cons p l ih=>
  rw[Ba,ih];unfold BJ;grind
def Zp(t:Tab)(n at_ m a b:Nat):yL t n at_ m a b=aE↔(t a b=aE\/∃q,q<m/\((a=at_+q/\b=at_+(q+1) % n)\/(b=at_+q/\a=at_+(q+1) % n))):=by
 induction m with
 |zero=>simp[yL]
 |succ m ih=>
  unfold yL BJ;by_cases h:(a=at_+m/\b=at_+(m+1) % n)\/(a=at_+(m+1) % n/\b=at_+m)
  .rw[if_pos h];refine⟨λ_=> .inr ⟨m,aC,?_⟩,λ_=>rfl⟩;omega
  .rw[if_neg h,ih];constructor
   .rintro(h1|⟨q,hq,h1⟩)
    .exact .inl h1
    .exact .inr ⟨q,aC,h1⟩
   .rintro(h1|⟨q,hq,h1⟩)
    .exact .inl h1
    .by_cases e:q=m
     .grind
     .exact .inr ⟨q,aC,h1⟩
def WX{l m:List V}{i:Nat}(h:i<aA l):nth (l++m) i=nth l i:=by unfold nth;grind
def WS{l m:List V}{i:Nat}:nth (l++m) (aA l+i)=nth m i:=by unfold nth;grind
def NC:∀(L:List aU) (pre:List V) (t:Tab),(pre++L.flatten).Nodup->(∀r∈L,2<=aA r)->∀a b,a<aA (pre++L.flatten)->b<aA (pre++L.flatten)->
  (Ao t (aA pre) L a b=aE↔(t a b=aE\/∃e∈L.flatMap aW,(e.a=nth (pre++L.flatten) a/\e.b=nth (pre++L.flatten) b)\/(e.a=nth (pre++L.flatten) b/\e.b=nth (pre++L.flatten) a)))
 |[],pre,t,_,_,a,b,_,_=>by simp[Ao]
 |r::L,pre,t,hn,h2,a,b,ha,hb=>by
  have hr2:=h2 r af;have e0:pre++(r::L).flatten=(pre++r)++L.flatten:=by rw[mI,List.append_assoc]
  rw[e0]at hn ha hb|-;unfold Ao;have ih:=NC L (pre++r) (yL t (aA r) (aA pre) (aA r)) hn aH a b ha hb;rw[List.length_append]at ih;rw[ih,Zp,fw];have hin:∀q,q<aA r->nth ((pre++r)++L.flatten) (aA pre+q)=nth r q:=by intro q hq;rw[WX eO,WS]
  have hlt:∀q,q<aA r->aA pre+q<aA ((pre++r)++L.flatten):=by intro q hq;simp;omega
  have hmod:∀q,(q+1) % (aA r)<aA r:=λq=>cG _ aC;constructor
  .rintro((h|⟨q,hq,h⟩)|⟨e,he,h⟩)
   .exact .inl h
   .refine .inr ⟨bh r q,iS _ (iq.2 aH),?_⟩;rcases h with⟨rfl,rfl⟩|⟨rfl,rfl⟩
    .left;rw[hin q hq,hin _ (hmod q)];exact⟨rfl,rfl⟩
    .right;rw[hin q hq,hin _ (hmod q)];exact⟨rfl,rfl⟩
   grind
  .rintro(h|⟨e,he,h⟩)
   .grind
   .rcases bz.1 he with he|he
    .obtain⟨_,q,hq,rfl⟩:=iq.1 he;left;right;refine⟨q,hq,?_⟩;have e1:(bh r q).a=nth ((pre++r)++L.flatten) (aA pre+q):=(hin q hq).symm;have e2:(bh r q).b=nth ((pre++r)++L.flatten) (aA pre+(q+1) % (aA r)):=(hin _ (hmod q)).symm;rw[e1,e2]at h;rcases h with⟨h1,h2⟩|⟨h1,h2⟩
     .left;exact⟨(gU hn (hlt q hq) ha h1).symm,(gU hn (hlt _ (hmod q)) hb h2).symm⟩
     .right;exact⟨(gU hn (hlt q hq) hb h1).symm,(gU hn (hlt _ (hmod q)) ha h2).symm⟩
    grind
def jh(l:List S)(a b:V):Bool:=l.any λe=>(e.a==a&&e.b==b)||(e.a==b&&e.b==a)
def aAj{s:Shape}(h:VS s){i k:Nat}(hi:i<aA (bW (cn s)))(hk:k<aA (bW (cn s))):
  JC s (bW (cn s)) i k=jh (oL s (bW (cn s))++ao s) (nth (bW (cn s)) i) (nth (bW (cn s)) k):=by
 have hn:(bW (cn s)).Nodup:=(qY s).nodup_iff.2 h.nodup;have hv:∀x∈bW (cn s),x∈bW s:=λx hx=>(qY s).subset hx;obtain⟨hd,hF⟩:=Dj h hv hn;have h2:∀r∈aR (cn s),2<=aA r:=by
  intro r hr;unfold aR cn at hr;rcases bO.1 hr with rfl|hr
  .rw[je];have:=h.outer.three;omega
  .obtain⟨q,hq,rfl⟩:=bn.1 ((nQ _).subset hr);rw[je];have:=(h.ring (show q∈aR s by simp[aR,hq])).three;omega
 have hr:=NC (aR (cn s)) [] (Jj (eM s (bW (cn s)))) (by exact hn) h2 i k (by exact hi) (by exact hk);rw[List.nil_append,nI]at hr;rw[gR];unfold JC;rw[hr];unfold jh;rw[kX,<-hd];unfold Jj;rw[YS];simp only[mf,false_or,bz,jd,cD,beq_iff_eq];have hm:∀e,e∈(aR (cn s)).flatMap aW↔e∈ao s:=λe=>zK s e;constructor
 .rintro((hp|hp)|⟨e,he,hx⟩)
  .exact⟨dH _ (i,k),aH,.inl ⟨rfl,rfl⟩⟩
  .exact⟨dH _ (k,i),aH,.inr ⟨rfl,rfl⟩⟩
  .exact⟨e,aH,hx⟩
 .rintro⟨e,he|he,hx⟩
  .obtain⟨p,hp,rfl⟩:=bn.1 he;obtain⟨l1,l2⟩:=hF.lt p hp;left;rcases hx with⟨x1,x2⟩|⟨x1,x2⟩
   .have a1:=gU hn aC hi x1;have a2:=gU hn aC hk x2;grind
   .have a1:=gU hn aC hk x1;have a2:=gU hn aC hi x2;grind
  .exact .inr ⟨e,(hm e).2 he,hx⟩
def cg:aU->aU->Int
 |[],[] =>0
 |[],_::_=> -1
 |_::_,[] =>1
 |a::l,b::m=>if cQ a b≠0 then cQ a b else cg l m
def O3(x y:Int):gG x y= -gG y x:=by unfold gG;grind
def aAO(p q:V):cQ p q= -cQ q p:=by unfold cQ;rw[O3 p.y,O3 p.x];grind
def tZ:∀(l m:aU),cg l m= -cg m l
 |[],[] =>rfl
 |[],_::_=>rfl
 |_::_,[] =>rfl
 |a::l,b::m=>by
  unfold cg;have:=aAO a b;by_cases h:cQ a b=0
  .rw[if_neg aC,if_neg aC];exact tZ l m
  omega
def zQ:∀(l m:aU),cg l m=0->l=m
 |[],[],_=>rfl
 |[],_::_,h=>by unfold cg at h;omega
 |_::_,[],h=>by unfold cg at h;omega
 |a::l,b::m,h=>by
  unfold cg at h;by_cases h0:cQ a b=0
  .rw[if_neg aC]at h;rw[(z8 a b).1 h0,zQ l m h]
  omega
def MU(l:aU):cg l l=0:=by have:=tZ l l;omega
def Y6{p q r:V}(h1:cQ p q<0)(h2:cQ q r<0):cQ p r<0:=by rw[Ag]at*;exact xC h1 h2
def Fx:∀(l m n:aU),cg l m<0->cg m n<0->cg l n<0
 |[],[],_,h,_=>aC
 |[],_::_,[],_,h=>by unfold cg at h;omega
 |[],_::_,_::_,_,_=>by unfold cg;omega
 |_::_,[],_,h,_=>by unfold cg at h;omega
 |_::_,_::_,[],_,h=>by unfold cg at h;omega
 |a::l,b::m,c::n,h1,h2=>by
  unfold cg at*;by_cases e1:cQ a b=0
  .rw[if_neg aC]at h1;have:=(z8 a b).1 e1;subst this;by_cases e2:cQ a c=0
   .rw[if_neg aC]at h2|-;exact Fx l m n h1 h2
   omega
  .rw[if_pos e1]at h1;by_cases e2:cQ b c=0
   .have:=(z8 b c).1 e2;grind
   .rw[if_pos e2]at h2;have:=Y6 h1 h2;omega
def j4(a b:aU):Prop:=cg a b<=0
def Xb{a b:aU}(h1:j4 a b)(h2:j4 b a):a=b:=by unfold j4 at*;apply zQ;have:=tZ a b;omega
def MP{a b c:aU}(h1:j4 a b)(h2:j4 b c):j4 a c:=by
 unfold j4 at*;by_cases e1:cg a b=0
 .rw[zQ _ _ e1];exact h2
 .by_cases e2:cg b c=0
  .rw[<-zQ _ _ e2];exact h1
  .have:=Fx a b c aC aC;omega
def il:List aU->aU->List aU
 |[],r=>[r]
 |q::l,r=>if cg q r<0 then q::il l r else r::q::l
def Oe(l:List aU)(r:aU):(il l r).Perm (r::l):=by
 induction l with
 |nil=>exact FF _
 |cons q l ih=>
  unfold il;grind
def Xf(l:List aU)(r:aU)(hl:l.Pairwise j4):(il l r).Pairwise j4:=by
 induction l with
 |nil=>simp[il]
 |cons q l ih=>
  rw[jA]at hl;unfold il;split
  .rw[jA];refine⟨λx hx=> ?_,ih hl.2⟩;have hx:=(Oe l r).subset hx;rcases bO.1 hx with rfl|hx
   .unfold j4;omega
   grind
  .have hq':j4 r q:=by unfold j4;have:=tZ r q;omega
   rw[jA,jA];refine⟨λx hx=> ?_,hl⟩;rcases bO.1 hx with rfl|hx
   .exact hq'
   .exact MP hq' (hl.1 x hx)
def WY(l acc:List aU):(l.foldl il acc).Perm (acc++l):=by
 induction l generalizing acc with
 |nil=>simp
 |cons q l ih=>
  refine(ih _).trans ?_;refine((Oe acc q).append_right l).trans ?_;grind
def Lx(l acc:List aU)(h:acc.Pairwise j4):(l.foldl il acc).Pairwise j4:=by
 induction l generalizing acc with
 |nil=>exact h
 |cons q l ih=>exact ih _ (Xf acc q h)
def dG(l:List aU):List aU:=l.foldl il []
def vJ(l:List aU):(dG l).Perm l:=by unfold dG;have:=WY l [];grind
def W2{l m:List aU}(hp:m.Perm l)(hs:m.Pairwise j4):m=dG l:=
 List.Perm.eq_of_pairwise (λ_ _ _ _ h1 h2=>Xb h1 h2) hs (Lx l [] wU) (hp.trans (vJ l).symm)
def dX(r:aU):aU:=if dC r then bo r else []
def db(a b c:V):aU:=if turn a b c<0 then dX [a,c,b]else dX [a,b,c]
def m7(s:Shape)(v:List V)(i j k:Nat):Bool:=
 turn (nth v i) (nth v j) (nth v k) !=0&&
 ((bT (aA v)).all λn=> !(n !=i&&n !=j&&n !=k&&dB (db (nth v i) (nth v j) (nth v k)) (nth v n) !=0))&&
 fm s (gg (nth v i) (nth v j) (nth v k))==2
def o9(r:aU)(v:List V):Bool:=v.all λp=> !(p !=nth r 0&&p !=nth r 1&&p !=nth r 2&&ki r p !=0)
def l6(s:Shape)(v:List V)(r:aU):Bool:=aA r==3&&o9 r v&&ir s (kO r)==2
def uc{a b c:V}(ha:bF a 2000=aE)(hb:bF b 2000=aE)(hc:bF c 2000=aE):near [a,b,c] =aE:=by unfold near;grind
def Tt(a b c:V):area [a,b,c] =cross (sub b a) (sub c a):=by
 have e:area [a,b,c] =cross a b+(cross b c+(cross c a+0)):=by unfold area;simp[pW,nth,nxt]
 rw[e];simp only[cross,sub];grind
def uR{a b c:V}(hn:near [a,b,c] =aE):dC [a,b,c] =aE↔0<turn a b c:=by
 rw[ig];constructor
 .intro h;have:=h.area;rw[Tt]at this;unfold turn;rw[sF];exact this
 .intro h;have hp:0<cross (sub b a) (sub c a):=by unfold turn at h;rwa[sF]at h
  have t1:turn b c a≠0:=by rw[<-tz];omega
  have t2:turn c a b≠0:=by rw[tz];omega
  refine⟨af,af,hn,by rw[Tt];exact hp,?_,?_,?_⟩
  .intro i hi;match i,hi with
   |0,_=>simpa[prv,nth,nxt]using t2
   |1,_=>
    have:turn a b c≠0:=aC;simpa[prv,nth,nxt]using this
   |2,_=>simpa[prv,nth,nxt]using t1
  .intro i hi;match i,hi with
   |0,_=>
    have:turn a b c≠0:=aC;simpa[prv,nth,nxt]using this
   |1,_=>simpa[prv,nth,nxt]using t1
   |2,_=>simpa[prv,nth,nxt]using t2
  grind
def Zx{l m:List V}(h:l.Perm m):ib l=ib m:=by
 unfold ib;induction h with
 |nil=>rfl
 |cons x _ ih=>simp[ih]
 |swap x y l=>grind
 |trans _ _ h1 h2=>omega
def Zw{l m:List V}(h:l.Perm m):ia l=ia m:=by
 unfold ia;induction h with
 |nil=>rfl
 |cons x _ ih=>simp[ih]
 |swap x y l=>grind
 |trans _ _ h1 h2=>omega
def MO{l m:List V}(h:l.Perm m):kO l=kO m:=by unfold kO;rw[Zx h,Zw h,h.length_eq]
def th(a b c:V):turn a c b= -turn a b c:=by
 unfold turn;have:cross (sub c a) (sub b a)= -cross (sub b a) (sub c a):=by simp only[cross,sub];grind
 unfold sgn;grind
def YA{a b c:V}(ha:bF a 2000=aE)(hb:bF b 2000=aE)(hc:bF c 2000=aE):
  (turn a b c=0/\db a b c=[])\/(turn a b c≠0/\(db a b c).Perm [a,b,c]):=by
 unfold db dX;by_cases h:turn a b c<0
 .right;refine⟨aC,?_⟩;have:dC [a,c,b] =aE:=(uR (uc ha hc hb)).2 (by rw[th];omega);rw[if_pos h,if_pos this];exact(oe _).trans aH
 .rw[if_neg h];by_cases h0:turn a b c=0
  .left;have:¬dC [a,b,c] =aE:=λe=>by have:=(uR (uc ha hb hc)).1 e;omega
   grind
  .right;refine⟨h0,?_⟩;have:dC [a,b,c] =aE:=(uR (uc ha hb hc)).2 aC;rw[if_pos this];exact oe _
def aCy{s:Shape}{v:List V}(hw:∀x∈v,bF x 2000=aE)(hn:v.Nodup){i j k:Nat}(hi:i<aA v)(hj:j<aA v)(hk:k<aA v):
  m7 s v i j k=l6 s v (db (nth v i) (nth v j) (nth v k)):=by
 unfold m7 l6;rcases YA (hw _ (dh hi)) (hw _ (dh hj)) (hw _ (dh hk))with⟨h0,h1⟩|⟨h0,h1⟩
 .grind
 .have hl:aA (db (nth v i) (nth v j) (nth v k))=3:=by rw[h1.length_eq];rfl
  have e1:(turn (nth v i) (nth v j) (nth v k) !=0)=aE:=by simpa using h0
  have e2:(aA (db (nth v i) (nth v j) (nth v k))==3)=aE:=by rw[hl];rfl
  rw[e1,e2,jq,jq,GS,MO h1,CY];have hme:∀x,(x=nth (db (nth v i) (nth v j) (nth v k)) 0\/x=nth (db (nth v i) (nth v j) (nth v k)) 1\/x=nth (db (nth v i) (nth v j) (nth v k)) 2)↔(x=nth v i\/x=nth v j\/x=nth v k):=by
   intro x;have a1:x∈db (nth v i) (nth v j) (nth v k)↔x∈[nth v i,nth v j,nth v k] :=h1.mem_iff;generalize db (nth v i) (nth v j) (nth v k)=r at*;match r,hl with
   |[x0,x1,x2],_=>simpa[nth]using a1
  have hall:((bT (aA v)).all λn=> !(n !=i&&n !=j&&n !=k&&dB (db (nth v i) (nth v j) (nth v k)) (nth v n) !=0))=o9 (db (nth v i) (nth v j) (nth v k)) v:=by
   unfold o9;have key:∀n,n<aA v->((n !=i&&n !=j&&n !=k)=(nth v n !=nth (db (nth v i) (nth v j) (nth v k)) 0&&nth v n !=nth (db (nth v i) (nth v j) (nth v k)) 1&&nth v n !=nth (db (nth v i) (nth v j) (nth v k)) 2)):=by
    intro n hn';have a2:=hme (nth v n);have b1:nth v n=nth v i↔n=i:=⟨λe=>gU hn hn' hi e,aH⟩;have b2:nth v n=nth v j↔n=j:=⟨λe=>gU hn hn' hj e,aH⟩;have b3:nth v n=nth v k↔n=k:=⟨λe=>gU hn hn' hk e,aH⟩;rw[b1,b2,b3]at a2;rw[gR];simp only[cD,bne_iff_ne,ne_eq];constructor
    .grind
    .grind
   rw[gR,cC,cC];constructor
   .intro h x hx;obtain⟨n,hn',rfl⟩:=fC.1 hx;have:=h n (cP.2 hn');rw[<-key n hn',<-xN];exact this
   .intro h n hn';have hn':=cP.1 hn';have:=h (nth v n) (dh hn');rw[key n hn',xN];exact this
  rw[hall]
structure P3 where
 x:Int
 y:Int
 d:Int
def ev(h p:P3):Int:=h.x*p.x+h.y*p.y+h.d*p.d
def cmb(m:Int)(p:P3)(n:Int)(q:P3):P3:=⟨m*p.x+n*q.x,m*p.y+n*q.y,m*p.d+n*q.d⟩
def bB(h p q:P3)(m n:Int):ev h (cmb m p n q)=m*ev h p+n*ev h q:=by unfold ev cmb;grind
def Sat(L:List P3):Prop:=∃p:P3,0<p.d/\∀h∈L,0<ev h p
def Kt(u v:Int):∃a b:Int,(a≠0\/b≠0)/\a*u+b*v=0:=by
 by_cases h:u=0
 .exact⟨1,0,.inl aC,aC⟩
 .exact⟨v,-u,.inr aC,aH⟩
def aF5(x1 y1 x2 y2 x3 y3:Int):∃a b c:Int,(a≠0\/b≠0\/c≠0)/\a*x1+b*x2+c*x3=0/\a*y1+b*y2+c*y3=0:=by
 by_cases h3:x3=0
 .by_cases h2:x2=0
  .obtain⟨b,c,hne,hy⟩:=Kt y2 y3;exact⟨0,b,c,aC,aH,aC⟩
  .obtain⟨a,c,hne,hy⟩:=Kt (x2*y1-x1*y2) (x2*y3-x3*y2);refine⟨a*x2,-(a*x1+c*x3),c*x2,?_,aH,aH⟩;rcases hne with h|h
   .simp_all
   simp_all
 .obtain⟨a,b,hne,hy⟩:=Kt (x3*y1-x1*y3) (x3*y2-x2*y3);refine⟨a*x3,b*x3,-(a*x1+b*x2),?_,aH,aH⟩;rcases hne with h|h
  .simp_all
  simp_all
def aF4(p q r s:P3)(hs:0<s.d):∃a b c e:Int,(a≠0\/b≠0\/c≠0\/e≠0)/\a*p.x+b*q.x+c*r.x+e*s.x=0/\a*p.y+b*q.y+c*r.y+e*s.y=0/\a*p.d+b*q.d+c*r.d+e*s.d=0:=by
 obtain⟨a,b,c,hne,hx,hy⟩:=aF5 (s.d*p.x-p.d*s.x) (s.d*p.y-p.d*s.y) (s.d*q.x-q.d*s.x) (s.d*q.y-q.d*s.y) (s.d*r.x-r.d*s.x) (s.d*r.y-r.d*s.y);have hd:s.d≠0:=aC;refine⟨a*s.d,b*s.d,c*s.d,-(a*p.d+b*q.d+c*r.d),?_,aH,aH,aH⟩;rcases hne with h|h|h
 .simp_all
 .simp_all
 simp_all
def pos(n:Int):Int:=if 0<n then n else 0
def mix(a b c e:Int)(p q r s:P3):P3:=⟨a*p.x+b*q.x+c*r.x+e*s.x,a*p.y+b*q.y+c*r.y+e*s.y,a*p.d+b*q.d+c*r.d+e*s.d⟩
def qD(h p q r s:P3)(a b c e:Int):ev h (mix a b c e p q r s)=a*ev h p+b*ev h q+c*ev h r+e*ev h s:=by unfold ev mix;grind
def yW(p q r s:P3)(a b c e:Int):(mix a b c e p q r s).d=a*p.d+b*q.d+c*r.d+e*s.d:=rfl
def ol{a b c e u v x y:Int}(ha:0<=a)(hb:0<=b)(hc:0<=c)(he:0<=e)(hne:a≠0\/b≠0\/c≠0\/e≠0)(h1:a≠0->0<u)(h2:b≠0->0<v)(h3:c≠0->0<x)(h4:e≠0->0<y):0<a*u+b*v+c*x+e*y:=by
 have t:∀{m z:Int},0<=m->(m≠0->0<z)->0<=m*z/\(m≠0->0<m*z):=by
  intro m z hm hz;by_cases h:m=0
  .grind
  .have:=bJ (aC:0<m) (hz h);omega
 have:=t ha h1;have:=t hb h2;have:=t hc h3;have:=t he h4;omega
def aFw{h1 h2 h3 h4:P3}{R:List P3}(s1:Sat (h2::h3::h4::R))(s2:Sat (h1::h3::h4::R))(s3:Sat (h1::h2::h4::R))(s4:Sat (h1::h2::h3::R)):Sat (h1::h2::h3::h4::R):=by
 obtain⟨p,hp,fp⟩:=s1;obtain⟨q,hq,fq⟩:=s2;obtain⟨r,hr,fr⟩:=s3;obtain⟨s,hs,fs⟩:=s4;obtain⟨a,b,c,e,hne,hx,hy,hd⟩:=aF4 p q r s hs;simp only[bO,forall_eq_or_imp]at fp fq fr fs;obtain⟨p2,p3,p4,pR⟩:=fp;obtain⟨q1,q3,q4,qR⟩:=fq;obtain⟨r1,r2,r4,rR⟩:=fr;obtain⟨s1,s2,s3,sR⟩:=fs;have pn:∀n:Int,pos n-pos (-n)=n:=by intro n;unfold pos;split<;>split<;>omega
 have p0:∀n:Int,0<=pos n:=by intro n;unfold pos;split<;>omega
 have pz:∀n:Int,pos n≠0->pos (-n)=0:=by intro n;unfold pos;split<;>split<;>omega
 have key:∀h:P3,ev h (mix (pos a) (pos b) (pos c) (pos e) p q r s)=ev h (mix (pos (-a)) (pos (-b)) (pos (-c)) (pos (-e)) p q r s):=by
  intro h;have hz:a*ev h p+b*ev h q+c*ev h r+e*ev h s=0:=by unfold ev;grind
  rw[qD,qD];have ea:=pn a;have eb:=pn b;have ec:=pn c;have ee:=pn e;grind
 have kd:(mix (pos a) (pos b) (pos c) (pos e) p q r s).d=(mix (pos (-a)) (pos (-b)) (pos (-c)) (pos (-e)) p q r s).d:=by rw[yW,yW];have ea:=pn a;have eb:=pn b;have ec:=pn c;have ee:=pn e;grind
 have dne:pos a≠0\/pos b≠0\/pos c≠0\/pos e≠0:=by
  apply dS;intro hno;simp only[not_or,V3]at hno;obtain⟨z1,z2,z3,z4⟩:=hno;have:0<pos (-a)*p.d+pos (-b)*q.d+pos (-c)*r.d+pos (-e)*s.d:=by refine ol (p0 _) (p0 _) (p0 _) (p0 _) ?_ (λ_=>hp) (λ_=>hq) (λ_=>hr) (λ_=>hs);have ea:=pn a;have eb:=pn b;have ec:=pn c;have ee:=pn e;omega
  rw[yW,yW,z1,z2,z3,z4]at kd;omega
 have dne':pos (-a)≠0\/pos (-b)≠0\/pos (-c)≠0\/pos (-e)≠0:=by apply dS;intro hno;simp only[not_or,V3]at hno;obtain⟨z1,z2,z3,z4⟩:=hno;have:0<pos a*p.d+pos b*q.d+pos c*r.d+pos e*s.d:=ol (p0 _) (p0 _) (p0 _) (p0 _) dne (λ_=>hp) (λ_=>hq) (λ_=>hr) (λ_=>hs);rw[yW,yW,z1,z2,z3,z4]at kd;omega
 refine⟨mix (pos a) (pos b) (pos c) (pos e) p q r s,?_,?_⟩
 .exact ol (p0 _) (p0 _) (p0 _) (p0 _) dne (λ_=>hp) (λ_=>hq) (λ_=>hr) (λ_=>hs)
 .intro h hm;simp only[bO]at hm;rcases hm with rfl|rfl|rfl|rfl|hm
  .by_cases z:pos a=0
   .rw[qD];exact ol (p0 _) (p0 _) (p0 _) (p0 _) dne aH (λ_=>q1) (λ_=>r1) (λ_=>s1)
   .rw[key,qD];exact ol (p0 _) (p0 _) (p0 _) (p0 _) dne' aH (λ_=>q1) (λ_=>r1) (λ_=>s1)
  .by_cases z:pos b=0
   .rw[qD];exact ol (p0 _) (p0 _) (p0 _) (p0 _) dne (λ_=>p2) aH (λ_=>r2) (λ_=>s2)
   .rw[key,qD];exact ol (p0 _) (p0 _) (p0 _) (p0 _) dne' (λ_=>p2) aH (λ_=>r2) (λ_=>s2)
  .by_cases z:pos c=0
   .rw[qD];exact ol (p0 _) (p0 _) (p0 _) (p0 _) dne (λ_=>p3) (λ_=>q3) aH (λ_=>s3)
   .rw[key,qD];exact ol (p0 _) (p0 _) (p0 _) (p0 _) dne' (λ_=>p3) (λ_=>q3) aH (λ_=>s3)
  .by_cases z:pos e=0
   .rw[qD];exact ol (p0 _) (p0 _) (p0 _) (p0 _) dne (λ_=>p4) (λ_=>q4) (λ_=>r4) aH
   .rw[key,qD];exact ol (p0 _) (p0 _) (p0 _) (p0 _) dne' (λ_=>p4) (λ_=>q4) (λ_=>r4) aH
  .rw[qD];exact ol (p0 _) (p0 _) (p0 _) (p0 _) dne aH aH aH aH
def Sat.sub{L M:List P3}(h:Sat L)(hs:∀x∈M,x∈L):Sat M:=by obtain⟨p,hp,f⟩:=h;exact⟨p,hp,aH⟩
def aFH:∀(n:Nat) (L:List P3),aA L=n->(∀a∈L,∀b∈L,∀c∈L,Sat [a,b,c])->Sat L:=by
 intro n;induction n using Nat.strongRecOn with
 |ind n ih=>
  intro L hn h;match L,hn with
  |[],_=>exact⟨⟨0,0,1⟩,bg,aH⟩
  |[a],_=>exact(h a af a af a af).sub af
  |[a,b],_=>exact(h a af b af a af).sub af
  |[a,b,c],_=>simp_all
  |a::b::c::e::R,hn=>
   have g:∀M:List P3,(∀x∈M,x∈a::b::c::e::R)->aA M<n->Sat M:=aH;simp only[iE]at hn;refine aFw (g _ ?_ ?_) (g _ ?_ ?_) (g _ ?_ ?_) (g _ ?_ ?_);all_goals first
    |(simp only[iE];omega)
    |(intro x hx;simp only[bO]at hx|-;grind)
def lin(u v:V):P3:=⟨-(v.y-u.y),v.x-u.x,(v.y-u.y)*u.x-(v.x-u.x)*u.y⟩
def pt(v:V):P3:=⟨v.x,v.y,1⟩
def di(u v w:V):ev (lin u v) (pt w)=cross (sub v u) (sub w u):=by unfold ev lin pt cross sub;grind
def cN(u v:V):ev (lin u v) (pt u)=0:=by unfold ev lin pt;grind
def cU(u v:V):ev (lin u v) (pt v)=0:=by unfold ev lin pt;grind
def Gg{n1 d1 n2 d2 n3 d3:Int}(h1:0<d1)(h2:0<d2)(h3:0<d3)(a:n1*d2<=n2*d1)(b:n2*d3<n3*d2):n1*d3<n3*d1:=by have e1:=nJ a (aC:0<=d3);have e2:=V4 b h1;have:(n1*d3)*d2<(n3*d1)*d2:=aH;simp_all
def Gf{n1 d1 n2 d2 n3 d3:Int}(h1:0<d1)(h2:0<d2)(h3:0<d3)(a:n1*d2<n2*d1)(b:n2*d3<=n3*d2):n1*d3<n3*d1:=by have e1:=V4 a h3;have e2:=nJ b (aC:0<=d1);have:(n1*d3)*d2<(n3*d1)*d2:=aH;simp_all
def l0:List (Int×Int)->Int->Int->Int->Int->Bool
 |[],ln,ld,hn,hd=>decide (ln*hd<hn*ld)
 |(a,b)::l,ln,ld,hn,hd=>
  if a<=0/\b<=0 then aK
  else if a<0 then(if ln*(b-a)< -a*ld then l0 l (-a) (b-a) hn hd else l0 l ln ld hn hd)
  else if b<0 then(if a*hd<hn*(a-b)then l0 l ln ld a (a-b)else l0 l ln ld hn hd)
  else l0 l ln ld hn hd
def vM:∀(l:List (Int×Int)) (ln ld hn hd:Int),0<=ln->0<ld->0<hd->hn<=hd->
  (l0 l ln ld hn hd=aE↔∃x y:Int,0<x/\0<y/\(∀p∈l,0<p.1*x+p.2*y)/\ln*(x+y)<y*ld/\y*hd<hn*(x+y))
 |[],ln,ld,hn,hd,h1,h2,h3,h4=>by
  simp only[l0,decide_eq_true_eq,cp,false_imp_iff,implies_true,true_and];constructor
  .intro h;have hn0:0<hn:=by
    rcases cH 0 hn with h5|h5
    .exact h5
    .have:=cF h1 (aC:0<=hd);have:=cF (aC:0<= -hn) (aC:0<=ld);grind
   have hl:ln<ld:=by
    rcases cH ln ld with h5|h5
    .exact h5
    .have e1:=nJ h5 (aC:0<=hd);have e2:=nJ h4 (aC:0<=ld);grind
   refine⟨(ld-ln)+(hd-hn),ln+hn,aC,aC,?_,?_⟩
   .grind
   grind
  .rintro⟨x,y,hx,hy,a,b⟩;have a':ln*(x+y)<=y*ld:=aC;exact Gg (n2:=y) (d2:=x+y) h2 aC h3 a' b
 |(a,b)::l,ln,ld,hn,hd,h1,h2,h3,h4=>by
  have e1:∀x y:Int,(∀p∈(a,b)::l,0<p.1*x+p.2*y)↔(0<a*x+b*y/\∀p∈l,0<p.1*x+p.2*y):=by intro x y;simp
  simp only[e1];unfold l0;by_cases c1:a<=0/\b<=0
  .constructor
   .grind
   .rintro⟨x,y,hx,hy,⟨h5,_⟩,_⟩;have:=cF (aC:0<= -a) (aC:0<=x);have:=cF (aC:0<= -b) (aC:0<=y);grind
  .rw[if_neg c1];by_cases c2:a<0
   .have hba:0<b-a:=aC;have e2:∀x y:Int,0<a*x+b*y↔ -a*(x+y)<y*(b-a):=by intro x y;constructor<;>intro h<;>grind
    rw[if_pos c2];by_cases c3:ln*(b-a)< -a*ld
    .rw[if_pos c3,vM l (-a) (b-a) hn hd aC hba h3 h4];constructor
     .rintro⟨x,y,hx,hy,h5,h6,h7⟩;exact⟨x,y,hx,hy,aH,Gg (n2:= -a) (d2:=b-a) h2 hba aC aC h6,h7⟩
     .rintro⟨x,y,hx,hy,⟨h5,h6⟩,h7,h8⟩;exact⟨x,y,hx,hy,h6,(e2 x y).1 h5,h8⟩
    .rw[if_neg c3,vM l ln ld hn hd h1 h2 h3 h4];constructor
     .rintro⟨x,y,hx,hy,h5,h6,h7⟩;exact⟨x,y,hx,hy,⟨(e2 x y).2 (Gg (n2:=ln) (d2:=ld) hba h2 aC aC h6),h5⟩,h6,h7⟩
     .rintro⟨x,y,hx,hy,⟨h5,h6⟩,h7,h8⟩;exact⟨x,y,hx,hy,h6,h7,h8⟩
   .rw[if_neg c2];by_cases c4:b<0
    .have hab:0<a-b:=aC;have e2:∀x y:Int,0<a*x+b*y↔y*(a-b)<a*(x+y):=by intro x y;constructor<;>intro h<;>grind
     rw[if_pos c4];by_cases c3:a*hd<hn*(a-b)
     .rw[if_pos c3,vM l ln ld a (a-b) h1 h2 hab aC];constructor
      .rintro⟨x,y,hx,hy,h5,h6,h7⟩;exact⟨x,y,hx,hy,aH,h6,Gf (n2:=a) (d2:=a-b) aC hab h3 h7 aC⟩
      .rintro⟨x,y,hx,hy,⟨h5,h6⟩,h7,h8⟩;exact⟨x,y,hx,hy,h6,h7,(e2 x y).1 h5⟩
     .rw[if_neg c3,vM l ln ld hn hd h1 h2 h3 h4];constructor
      .rintro⟨x,y,hx,hy,h5,h6,h7⟩;exact⟨x,y,hx,hy,⟨(e2 x y).2 (Gf (n2:=hn) (d2:=hd) aC h3 hab h7 aC),h5⟩,h6,h7⟩
      .rintro⟨x,y,hx,hy,⟨h5,h6⟩,h7,h8⟩;exact⟨x,y,hx,hy,h6,h7,h8⟩
    .rw[if_neg c4,vM l ln ld hn hd h1 h2 h3 h4];constructor
     .rintro⟨x,y,hx,hy,h5,h6,h7⟩;refine⟨x,y,hx,hy,⟨?_,h5⟩,h6,h7⟩;have g1:=cF (aC:0<=a) (aC:0<=x);have g2:=cF (aC:0<=b) (aC:0<=y);rcases cH 0 a with h|h
      .have:=bJ h hx;omega
      .have:=bJ (aC:0<b) hy;omega
     .rintro⟨x,y,hx,hy,⟨h5,h6⟩,h7,h8⟩;exact⟨x,y,hx,hy,h6,h7,h8⟩
structure Poly(F:List P3)(Vs:List V)(Es:List S)(c:P3):Prop where
 nonneg:∀f∈F,∀v∈Vs,0<=ev f (pt v)
 cd:0<c.d
 cin:∀f∈F,0<ev f c
 ends:∀s∈Es,s.a∈Vs/\s.b∈Vs
 side:∀q:P3,0<q.d->(∃f∈F,ev f q=0)->(∀f∈F,0<=ev f q)->∃s∈Es,∃x y k:Int,0<=x/\0<=y/\0<k/\∀h:P3,k*ev h q=x*ev h (pt s.a)+y*ev h (pt s.b)
 hull:∀q:P3,(∀f∈F,0<ev f q)->∀h:P3,(∀v∈Vs,ev h (pt v)<=0)->ev h q<=0
def big(q c:P3):∀(G:List P3),(∀g∈G,0<ev g q)->∃N:Int,1<=N/\∀g∈G,0<N*ev g q+ev g c
 |[],_=>⟨1,bg,aH⟩
 |g::G,h=>by
  obtain⟨N,h1,h2⟩:=big q c G aH;have hg:=h g cR;refine⟨N+(ev g c).natAbs,aC,?_⟩;intro f hf;rcases bO.1 hf with rfl|hf
  .have:(N+(ev f c).natAbs)*1<=(N+(ev f c).natAbs)*ev f q:=dg aC aC;omega
  .have h3:=h f (cM _ hf);have:=cF (aC:0<=((ev g c).natAbs:Int)) (aC:0<=ev f q);grind
variable{F:List P3}{Vs:List V}{Es:List S}
def xX{c:P3}(A:Poly F Vs Es c){g:P3}(h:∃v∈Vs,0<ev g (pt v)):Sat (g::F):=by
 obtain⟨v,hv,hg⟩:=h;obtain⟨N,h1,h2⟩:=big (pt v) c [g] aH;refine⟨cmb N (pt v) 1 c,?_,?_⟩
 .have:=A.cd;simp only[cmb,pt];omega
 .intro f hf;rw[bB];rcases bO.1 hf with rfl|hf
  .grind
  .have e1:=A.nonneg f hf v hv;have e2:=A.cin f hf;have:=cF (aC:0<=N) e1;omega
def W6{G:List P3}{Us:List V}{Ds:List S}{c e:P3}(A:Poly F Vs Es c)(B:Poly G Us Ds e)
  (h1:∀g∈G,∃v∈Vs,0<ev g (pt v)) (h2:∀f∈F,∃u∈Us,0<ev f (pt u)):Sat (F++G):=by
 have hF:Sat F:=⟨c,A.cd,A.cin⟩;have hG:Sat G:=⟨e,B.cd,B.cin⟩;refine aFH _ _ rfl ?_;intro x hx y hy z hz;simp only[bz]at hx hy hz;rcases hx with hx|hx<;>rcases hy with hy|hy<;>rcases hz with hz|hz
 .exact hF.sub aH
 .exact(xX A (h1 z hz)).sub aH
 .exact(xX A (h1 y hy)).sub aH
 .exact(xX B (h2 x hx)).sub aH
 .exact(xX A (h1 x hx)).sub aH
 .exact(xX B (h2 y hy)).sub aH
 .exact(xX B (h2 z hz)).sub aH
 .exact hG.sub aH
def uY(G:List P3)(s:S):Prop:=∃x y:Int,0<x/\0<y/\∀g∈G,0<ev g (pt s.a)*x+ev g (pt s.b)*y
def MG{G:List P3}{c:P3}(A:Poly F Vs Es c){s:S}(hs:s∈Es)(h:uY G s):Sat (F++G):=by
 obtain⟨x,y,hx,hy,hg⟩:=h;have hq:∀g∈G,0<ev g (cmb x (pt s.a) y (pt s.b)):=by intro g h;rw[bB];have:=hg g h;grind
 obtain⟨N,h1,h2⟩:=big _ c G hq;refine⟨cmb N (cmb x (pt s.a) y (pt s.b)) 1 c,?_,?_⟩
 .have e1:=A.cd;have e2:=bJ (aC:0<N) (aC:0<x*1+y*1);simp only[cmb,pt];omega
 .intro f hf;rw[bB];rcases bz.1 hf with hf|hf
  .have e1:=A.nonneg f hf _ (A.ends s hs).1;have e2:=A.nonneg f hf _ (A.ends s hs).2;have e3:=A.cin f hf;have e4:0<=ev f (cmb x (pt s.a) y (pt s.b)):=by rw[bB];have:=cF (aC:0<=x) e1;have:=cF (aC:0<=y) e2;omega
   have:=cF (aC:0<=N) e4;omega
  grind
def KW(p c:P3)(hp:0<p.d)(hc:0<c.d):∀(G:List P3),(∀g∈G,0<ev g p)->
  ∃m n:Int,0<=m/\0<=n/\0<m+n/\(∀g∈G,0<=ev g (cmb m p n c))/\((∃g∈G,ev g (cmb m p n c)=0)\/(m=0/\∀g∈G,0<ev g c))
 |[],_=>⟨0,1,aC,aC,aC,aH,aH⟩
 |g::G,h=>by
  obtain⟨m,n,hm,hn,hmn,h1,h2⟩:=KW p c hp hc G aH;have hg:=h g cR;rcases pX (ev g (cmb m p n c)) 0 with h3|h3|h3
  ·
   have hq:=bB g p c m n;refine⟨-(ev g (cmb m p n c))+ev g p*m,ev g p*n,?_,?_,?_,?_,.inl ⟨g,aH,?_⟩⟩
   .have:=cF (aC:0<=ev g p) hm;omega
   .exact cF aC hn
   .have e1:=cF (aC:0<=ev g p) hm;have e2:=cF (aC:0<=ev g p) hn;omega
   .intro f hf;rcases bO.1 hf with rfl|hf
    .rw[bB];have:(-(ev f (cmb m p n c))+ev f p*m)*ev f p+ev f p*n*ev f c=0:=by rw[hq];grind
     omega
    .have e1:=h1 f hf;have e2:=h f (cM _ hf);have e3:=cF (aC:0<=ev g p) e1;have e4:=cF (aC:0<= -(ev g (cmb m p n c))) (aC:0<=ev f p);have e5:=bB f p c m n;rw[bB];have:(-(ev g (cmb m p n c))+ev g p*m)*ev f p+ev g p*n*ev f c= -(ev g (cmb m p n c))*ev f p+ev g p*ev f (cmb m p n c):=by rw[e5];grind
     omega
   .rw[bB,hq];grind
  .refine⟨m,n,hm,hn,hmn,?_,aH⟩;grind
  .refine⟨m,n,hm,hn,hmn,?_,?_⟩
   .grind
   .rcases h2 with⟨f,hf,h4⟩|⟨rfl,h4⟩
    .grind
    .refine .inr ⟨rfl,?_⟩;intro f hf;rcases bO.1 hf with rfl|hf
     .rw[bB]at h3;have hn0:0<n:=aC;have:0<n*ev f c:=aC;exact V5 this hn0|>λh=>h
     grind
def WT{s:S}{x y:Int}(hx:0<=x)(hy:0<=y)(h:∀f∈F,0<x*ev f (pt s.a)+y*ev f (pt s.b)):uY F s:=by
 have hq:∀f∈F,0<ev f (cmb x (pt s.a) y (pt s.b)):=by intro f hf;rw[bB];exact h f hf
 obtain⟨N,h1,h2⟩:=big _ (cmb 1 (pt s.a) 1 (pt s.b)) F hq;have e1:=cF (aC:0<=N) hx;have e2:=cF (aC:0<=N) hy;refine⟨N*x+1,N*y+1,aC,aC,?_⟩;intro f hf;have:=h2 f hf;rw[bB,bB]at this;grind
def WW{G:List P3}{Us:List V}{Ds:List S}{c e:P3}(A:Poly F Vs Es c)(B:Poly G Us Ds e):
  Sat (F++G)↔((∃s∈Es,uY G s)\/(∃s∈Ds,uY F s)\/∀g∈G,0<ev g c):=by
 constructor
 .rintro⟨p,hp,h⟩;obtain⟨m,n,hm,hn,hmn,h1,h2⟩:=KW p c hp A.cd G aH;rcases h2 with h2|⟨_,h2⟩
  .refine .inr (.inl ?_);have hd:0<(cmb m p n c).d:=by
    have:=A.cd;have e1:=cF hm (aC:0<=p.d);have e2:=cF hn (aC:0<=c.d);show 0<m*p.d+n*c.d;rcases cH 0 m with h3|h3
    .have:=bJ h3 hp;omega
    .have:=bJ (aC:0<n) this;omega
   obtain⟨s,hs,x,y,k,hx,hy,hk,hq⟩:=B.side _ hd h2 h1;refine⟨s,hs,WT hx hy ?_⟩;intro f hf;rw[<-hq f];refine bJ hk ?_;rw[bB];have e1:=h f (iS _ hf);have e2:=A.cin f hf;have e3:=cF hm (aC:0<=ev f p);have e4:=cF hn (aC:0<=ev f c);rcases cH 0 m with h3|h3
   .have:=bJ h3 e1;omega
   .have:=bJ (aC:0<n) e2;omega
  grind
 .rintro(⟨s,hs,h⟩|⟨s,hs,h⟩|h)
  .exact MG A hs h
  .exact(MG B hs h).sub aH
  .refine⟨c,A.cd,?_⟩;intro f hf;rcases bz.1 hf with hf|hf
   .exact A.cin f hf
   grind
def MH{G:List P3}{Us:List V}{Ds:List S}{c e:P3}(A:Poly F Vs Es c)(B:Poly G Us Ds e):
  Sat (F++G)↔((∀g∈G,∃v∈Vs,0<ev g (pt v))/\(∀f∈F,∃u∈Us,0<ev f (pt u))):=by
 constructor
 .rintro⟨p,hp,h⟩;constructor
  .intro g hg;apply dS;intro hno;have:=A.hull p aH g aH;grind
  .intro f hf;apply dS;intro hno;have:=B.hull p aH f aH;grind
 .rintro⟨h1,h2⟩;exact W6 A B h1 h2
end Geo
section
set_option linter.unusedSimpArgs false
namespace Geo
def jm(a b:Int):(0<a->0<b->0<a*b)/\(a<0->b<0->0<a*b)/\(0<a->b<0->a*b<0)/\(a<0->0<b->a*b<0)/\(a=0->a*b=0)/\(b=0->a*b=0):=
 ⟨bJ,yp,gr,mH,λh=>aH,λh=>aH⟩
def onC(x1 y1 x2 y2 c:Int):Bool:=c==0&&(decide (min x1 x2<=0)&&decide (0<=max x1 x2))&&(decide (min y1 y2<=0)&&decide (0<=max y1 y2))
def oP(y1 y2 c:Int):Bool:=(decide (0<=y1) !=decide (0<=y2))&&(decide (0<=y1)==decide (0<c))
def JS{y1 y2 y3 c1 c2 c3:Int}(h0:c2*y1+c3*y2+c1*y3=0)(hs:0<c1+c2+c3)(h1:0<=y1)(h2:y2<0)(h3:y3<0)(hc1:c1≠0)(hc3:c3≠0):
  ((0<c1↔0<c3))↔(0<c1/\0<c2/\0<c3):=by
 constructor
 .intro h;rcases mc hc1 with h4|h4
  .have h5:c3<0:=aC;have e1:=(jm c3 y2).2.1 h5 h2;have e2:=(jm c1 y3).2.1 h4 h3;have h6:0<c2:=aC;rcases wf h1 with h7|h7
   .have:=(jm c2 y1).1 h6 h7;omega
   grind
  .have h5:=h.1 h4;have e1:=(jm c3 y2).2.2.1 h5 h2;have e2:=(jm c1 y3).2.2.1 h4 h3;refine⟨h4,?_,h5⟩;rcases pX c2 0 with h6|h6|h6
   .rcases wf h1 with h7|h7
    .have:=(jm c2 y1).2.2.2.1 h6 h7;omega
    grind
   .grind
   .exact h6
 omega
def Hr{x1 x2 x3 y1 y2 y3:Int}(hs:0<(x1*y2-y1*x2)+(x2*y3-y2*x3)+(x3*y1-y3*x1))(h1:y1<0)(h2:0<=y2)(h3:0<=y3)
  (hc1:x1*y2-y1*x2≠0) (hc3:x3*y1-y3*x1≠0) (hn:onC x2 y2 x3 y3 (x2*y3-y2*x3)=aK):
  ((0<x1*y2-y1*x2↔0<x3*y1-y3*x1))↔(0<x1*y2-y1*x2/\0<x2*y3-y2*x3/\0<x3*y1-y3*x1):=by
 have h0:(x2*y3-y2*x3)*y1+(x3*y1-y3*x1)*y2+(x1*y2-y1*x2)*y3=0:=aH;have f1:y2=0->x1*y2-y1*x2= -(y1*x2):=by intro h;subst h;omega
 have f3:y3=0->x3*y1-y3*x1=x3*y1:=by intro h;subst h;omega
 generalize x1*y2-y1*x2=c1 at*;generalize x2*y3-y2*x3=c2 at*;generalize x3*y1-y3*x1=c3 at*;constructor
 .intro h;have hQ:(c3<0->c3*y2<=0)/\(0<c3->0<=c3*y2):=by
   rcases wf h2 with h7|h7
   .exact⟨λh=>fZ ((jm c3 y2).2.2.2.1 h h7),λh=>fZ ((jm c3 y2).1 h h7)⟩
   .grind
  have hR:(c1<0->c1*y3<=0)/\(0<c1->0<=c1*y3):=by
   rcases wf h3 with h7|h7
   .exact⟨λh=>fZ ((jm c1 y3).2.2.2.1 h h7),λh=>fZ ((jm c1 y3).1 h h7)⟩
   .grind
  rcases mc hc1 with h4|h4
  .have h6:0<c2:=aC;have:=(jm c2 y1).2.2.1 h6 h1;omega
  .have h5:=h.1 h4;refine⟨h4,?_,h5⟩;rcases pX c2 0 with h6|h6|h6
   .have:=(jm c2 y1).2.1 h6 h1;omega
   .have hP:=(jm c2 y1).2.2.2.2.1 h6;have z2:y2=0:=by
     rcases wf h2 with h7|h7
     .have:=(jm c3 y2).1 h5 h7;omega
     .exact h7.symm
    have z3:y3=0:=by
     rcases wf h3 with h7|h7
     .have:=(jm c1 y3).1 h4 h7;omega
     .exact h7.symm
    have m2:0<x2:=by
     rcases pX x2 0 with h8|h8|h8
     .have:=(jm y1 x2).2.1 h1 h8;omega
     .grind
     .exact h8
    have m3:x3<0:=by
     rcases pX x3 0 with h8|h8|h8
     .exact h8
     .grind
     .have:=(jm x3 y1).2.2.1 h8 h1;omega
    have:onC x2 y2 x3 y3 c2=aE:=by unfold onC;simp;omega
    grind
   .exact h6
 omega
def aEW{x1 y1 x2 y2:Int}(h:x1*y2-y1*x2=0)(h1:0<=y1)(h2:y2<0):onC x1 y1 x2 y2 (x1*y2-y1*x2)=aE:=by unfold onC;obtain⟨a1,a2,a3,a4,a5,a6⟩:=jm x1 y2;obtain⟨b1,b2,b3,b4,b5,b6⟩:=jm y1 x2;grind
def aBT(x1 y1 x2 y2:Int):onC x1 y1 x2 y2 (x1*y2-y1*x2)=onC x2 y2 x1 y1 (x2*y1-y2*x1):=by unfold onC;grind
def vn{x1 y1 x2 y2:Int}(h1:0<=y1)(h2:y2<0)(hn:onC x1 y1 x2 y2 (x1*y2-y1*x2)=aK):x1*y2-y1*x2≠0:=λh=>by rw[aEW h h1 h2]at hn;cases hn
def xe{x1 y1 x2 y2:Int}(h1:y1<0)(h2:0<=y2)(hn:onC x1 y1 x2 y2 (x1*y2-y1*x2)=aK):x1*y2-y1*x2≠0:=λh=>by rw[aBT]at hn;exact vn h2 h1 hn aH
def KN(x1 y1 x2 y2 x3 y3:Int):Int:=
 if onC x1 y1 x2 y2 (x1*y2-y1*x2)then 1 else if onC x2 y2 x3 y3 (x2*y3-y2*x3)then 1 else if onC x3 y3 x1 y1 (x3*y1-y3*x1)then 1
 else if((aK !=oP y1 y2 (x1*y2-y1*x2)) !=oP y2 y3 (x2*y3-y2*x3)) !=oP y3 y1 (x3*y1-y3*x1)then 2 else 0
def aA8(x1 y1 x2 y2 x3 y3:Int)(hs:0<(x1*y2-y1*x2)+(x2*y3-y2*x3)+(x3*y1-y3*x1)):
  KN x1 y1 x2 y2 x3 y3=2↔(0<x1*y2-y1*x2/\0<x2*y3-y2*x3/\0<x3*y1-y3*x1):=by
 have h0:(x2*y3-y2*x3)*y1+(x3*y1-y3*x1)*y2+(x1*y2-y1*x2)*y3=0:=aH;have onpos:∀a b c d e:Int,onC a b c d e=aE->e=0:=by intro a b c d e h;unfold onC at h;simp at h;exact h.1.1
 unfold KN;cases o1:onC x1 y1 x2 y2 (x1*y2-y1*x2)with
 |true=>grind
 |false=>
  cases o2:onC x2 y2 x3 y3 (x2*y3-y2*x3)with
  |true=>grind
  |false=>
   cases o3:onC x3 y3 x1 y1 (x3*y1-y3*x1)with
   |true=>grind
   |false=>
    simp only[mf,if_false,u7];have if2:∀b:Bool,(if b=aE then(2:Int)else 0)=2↔b=aE:=by intro b;cases b<;>simp
    rw[if2];by_cases p1:0<=y1<;>by_cases p2:0<=y2<;>by_cases p3:0<=y3
    ·
     simp only[oP,p1,p2,p3,decide_true,bne_self_eq_false,qW,mf,false_iff];rintro⟨q1,q2,q3⟩;have e1:=cF (aC:0<=x2*y3-y2*x3) p1;have e2:=cF (aC:0<=x3*y1-y3*x1) p2;have e3:=cF (aC:0<=x1*y2-y1*x2) p3;have z1:y1=0:=by
      rcases wf p1 with h|h
      .have:=bJ q2 h;omega
      .exact h.symm
     have z2:y2=0:=by
      rcases wf p2 with h|h
      .have:=bJ q3 h;omega
      .exact h.symm
     grind
    .have c2:=vn p2 aC o2;have c3:=xe aC p1 o3;have:=Hr (x1:=x3) (x2:=x1) (x3:=x2) (y1:=y3) (y2:=y1) (y3:=y2) aC aC p1 p2 c3 c2 o1;simp only[oP,p1,p2,p3,decide_true,decide_false,bne_self_eq_false,qW,u7,yx,Be,yy,oR,u8,jq];grind
    .have c1:=vn p1 aC o1;have c2:=xe aC p3 o2;have:=Hr (x1:=x2) (x2:=x3) (x3:=x1) (y1:=y2) (y2:=y3) (y3:=y1) aC aC p3 p1 c2 c1 o3;simp only[oP,p1,p2,p3,decide_true,decide_false,bne_self_eq_false,qW,u7,yx,Be,yy,oR,u8,jq];grind
    .have c1:=vn p1 aC o1;have c3:=xe aC p1 o3;have:=JS h0 hs p1 aC aC c1 c3;simp only[oP,p1,p2,p3,decide_true,decide_false,bne_self_eq_false,qW,u7,yx,Be,yy,oR,u8,jq];grind
    .have c1:=xe aC p2 o1;have c3:=vn p3 aC o3;have:=Hr hs aC p2 p3 c1 c3 o2;simp only[oP,p1,p2,p3,decide_true,decide_false,bne_self_eq_false,qW,u7,yx,Be,yy,oR,u8,jq];grind
    .have c1:=xe aC p2 o1;have c2:=vn p2 aC o2;have:=JS (y1:=y2) (y2:=y3) (y3:=y1) (c1:=x2*y3-y2*x3) (c2:=x3*y1-y3*x1) (c3:=x1*y2-y1*x2) aC aC p2 aC aC c2 c1;simp only[oP,p1,p2,p3,decide_true,decide_false,bne_self_eq_false,qW,u7,yx,Be,yy,oR,u8,jq];grind
    .have c2:=xe aC p3 o2;have c3:=vn p3 aC o3;have:=JS (y1:=y3) (y2:=y1) (y3:=y2) (c1:=x3*y1-y3*x1) (c2:=x1*y2-y1*x2) (c3:=x2*y3-y2*x3) aC aC p3 aC aC c3 c2;simp only[oP,p1,p2,p3,decide_true,decide_false,bne_self_eq_false,qW,u7,yx,Be,yy,oR,u8,jq];grind
    ·
     simp only[oP,p1,p2,p3,decide_false,bne_self_eq_false,qW,mf,false_iff];rintro⟨q1,q2,q3⟩;have e1:=gr q2 (aC:y1<0);have e2:=gr q3 (aC:y2<0);have e3:=gr q1 (aC:y3<0);omega
def aA9{u v w:V}(h:0<cross (sub v u) (sub w u)):Poly [lin u v,lin v w,lin w u] [u,v,w] [⟨u,v⟩,⟨v,w⟩,⟨w,u⟩] ⟨u.x+v.x+w.x,u.y+v.y+w.y,3⟩:=by
 have id3:∀h q:P3,cross (sub v u) (sub w u)*ev h q=ev (lin v w) q*ev h (pt u)+ev (lin w u) q*ev h (pt v)+ev (lin u v) q*ev h (pt w):=by intro h q;unfold ev lin pt cross sub;grind
 have k1:ev (lin u v) (pt w)=cross (sub v u) (sub w u):=di u v w;have k2:ev (lin v w) (pt u)=cross (sub v u) (sub w u):=by rw[di];unfold cross sub;grind
 have k3:ev (lin w u) (pt v)=cross (sub v u) (sub w u):=by rw[di];unfold cross sub;grind
 have c0:∀f:P3,ev f ⟨u.x+v.x+w.x,u.y+v.y+w.y,3⟩=ev f (pt u)+ev f (pt v)+ev f (pt w):=by intro f;unfold ev pt;grind
 refine⟨?_,aH,?_,?_,?_,?_⟩
 .intro f hf x hx;simp only[bO,cp,or_false]at hf hx;rcases hf with rfl|rfl|rfl<;>rcases hx with rfl|rfl|rfl<;>first|(rw[cN];omega)|(rw[cU];omega)|omega
 .intro f hf;rw[c0];simp only[bO,cp,or_false]at hf;rcases hf with rfl|rfl|rfl
  .rw[cN,cU];omega
  .rw[cN,cU];omega
  .rw[cN,cU];omega
 .grind
 .rintro q hq ⟨f,hf,hz⟩ hn;simp only[bO,cp,or_false,forall_eq_or_imp,forall_eq]at hf hn;obtain⟨n1,n2,n3⟩:=hn;rcases hf with rfl|rfl|rfl
  .exact⟨⟨u,v⟩,af,ev (lin v w) q,ev (lin w u) q,_,n2,n3,h,λg=>aH⟩
  .exact⟨⟨v,w⟩,af,ev (lin w u) q,ev (lin u v) q,_,n3,n1,h,λg=>aH⟩
  .exact⟨⟨w,u⟩,af,ev (lin u v) q,ev (lin v w) q,_,n1,n2,h,λg=>aH⟩
 .intro q hq g hg;simp only[bO,cp,or_false,forall_eq_or_imp,forall_eq]at hq hg;have e1:=cF (aC:0<=ev (lin v w) q) (aC:0<= -ev g (pt u));have e2:=cF (aC:0<=ev (lin w u) q) (aC:0<= -ev g (pt v));have e3:=cF (aC:0<=ev (lin u v) q) (aC:0<= -ev g (pt w));rw[oU]at e1 e2 e3;have:=id3 g q;rcases cH 0 (ev g q)with h1|h1
  .have:=bJ h h1;omega
  .exact h1
def eJ(s:S)(r:aU):Bool:=l0 ((aW r).map λe=>(cross (sub e.b e.a) (sub s.a e.a),cross (sub e.b e.a) (sub s.b e.a))) 0 1 1 1
def kP(r:aU):List P3:=(aW r).map λe=>lin e.a e.b
def GL(s:S)(r:aU):eJ s r=aE↔uY (kP r) s:=by
 unfold eJ uY kP;rw[vM _ _ _ _ _ aC aC aC aC];constructor
 .rintro⟨x,y,hx,hy,h,_⟩;refine⟨x,y,hx,hy,?_⟩;intro g hg;obtain⟨e,he,rfl⟩:=bn.1 hg;rw[di,di];simp_all
 .rintro⟨x,y,hx,hy,h⟩;refine⟨x,y,hx,hy,?_,aC,aC⟩;intro p hp;obtain⟨e,he,rfl⟩:=bn.1 hp;have:=h _ (bn.2 ⟨e,he,rfl⟩);rw[di,di]at this;exact this
def sU(u v w:V):aW [u,v,w] =[⟨u,v⟩,⟨v,w⟩,⟨w,u⟩] :=by simp[aW,bh,nth,nxt,pW]
def aEt{u v w:V}(hv:dC [u,v,w] =aE)(p:Pt)(hp:dP p=aE)(h:0<cross (sub v u) (sub w u)):
  cE [u,v,w] p=2↔∀g∈kP [u,v,w],0<ev g ⟨p.x,p.y,p.den⟩:=by
 have hd:0<p.den:=by unfold dP jg at hp;simp only[cD,decide_eq_true_eq]at hp;omega
 have e:∀a b:V,ev (lin a b) ⟨p.x,p.y,p.den⟩*p.den=(toV p a).x*(toV p b).y-(toV p a).y*(toV p b).x:=by intro a b;unfold ev lin toV;grind
 have sg:∀a b:V,0<ev (lin a b) ⟨p.x,p.y,p.den⟩↔0<(toV p a).x*(toV p b).y-(toV p a).y*(toV p b).x:=by
  intro a b;rw[<-e];constructor
  .intro h;exact bJ h hd
  .intro h;exact Int.pos_of_mul_pos_left h hd|>λh=>h
 have sz:∀a b:V,gi ⟨a,b⟩ p*p.den=(toV p a).x*(toV p b).y-(toV p a).y*(toV p b).x:=by intro a b;unfold gi toV cross sub;grind
 have so:∀a b:V,onP ⟨a,b⟩ p=onC (toV p a).x (toV p a).y (toV p b).x (toV p b).y ((toV p a).x*(toV p b).y-(toV p a).y*(toV p b).x):=by
  intro a b;unfold onP onC;have:(gi ⟨a,b⟩ p==0)=((toV p a).x*(toV p b).y-(toV p a).y*(toV p b).x==0):=by
   rw[gR];simp only[beq_iff_eq];rw[<-sz];constructor
   .grind
   .intro h;rcases dI.1 h with h|h
    .exact h
    .omega
  rw[this]
 have sh:∀a b:V,fN ⟨a,b⟩ p=oP (toV p a).y (toV p b).y ((toV p a).x*(toV p b).y-(toV p a).y*(toV p b).x):=by
  intro a b;unfold fN oP;have:decide (0<gi ⟨a,b⟩ p)=decide (0<(toV p a).x*(toV p b).y-(toV p a).y*(toV p b).x):=by
   rw[decide_eq_decide,<-sz];constructor
   .intro h;exact bJ h hd
   .intro h;exact Int.pos_of_mul_pos_left h hd|>λh=>h
  rw[this]
 have hs:0<((toV p u).x*(toV p v).y-(toV p u).y*(toV p v).x)+((toV p v).x*(toV p w).y-(toV p v).y*(toV p w).x)+((toV p w).x*(toV p u).y-(toV p w).y*(toV p u).x):=by
  have:((toV p u).x*(toV p v).y-(toV p u).y*(toV p v).x)+((toV p v).x*(toV p w).y-(toV p v).y*(toV p w).x)+((toV p w).x*(toV p u).y-(toV p w).y*(toV p u).x)=cross (sub v u) (sub w u)*(p.den*p.den):=by unfold toV cross sub;grind
  rw[this];exact bJ h (bJ hd hd)
 have key:=aA8 (toV p u).x (toV p u).y (toV p v).x (toV p v).y (toV p w).x (toV p w).y hs;have:cE [u,v,w] p=KN (toV p u).x (toV p u).y (toV p v).x (toV p v).y (toV p w).x (toV p w).y:=by unfold cE;rw[hv,hp,sU];simp only[oR,Bool.or_self,mf,if_false,fV,so,sh];rfl
 rw[this,key,<-sg,<-sg,<-sg];unfold kP;rw[sU];simp
def lL(a b:aU):Bool:=(bT (aA a)).any λi=>b.all λv=>decide (turn (nth a i) (nxt a i) v<=0)
def fU(a b:aU):Bool:=lL a b||lL b a
def xI(a b:aU)(ha:2<=aA a):lL a b=aE↔∃f∈kP a,∀v∈b,ev f (pt v)<=0:=by
 unfold lL kP aW;rw[if_neg aC,du];simp only[kX,cP,cC,decide_eq_true_eq,bn,FG,bh];have sg:∀n:Int,sgn n<=0↔n<=0:=by intro n;have:=sF n;omega
 constructor
 .rintro⟨i,hi,h⟩;refine⟨_,⟨i,hi,rfl⟩,?_⟩;intro v hv;rw[di];exact(sg _).1 (h v hv)
 .rintro⟨f,⟨i,hi,rfl⟩,h⟩;refine⟨i,hi,?_⟩;intro v hv;have:=h v hv;rw[di]at this;exact(sg _).2 this
end Geo
end
namespace Geo
def xD:∀(L:List (Int×Int)) (ln ld hn hd:Int),ln*hd<hn*ld->(∀p∈L,¬(p.1<=0/\p.2<=0))->(∀p∈L,p.1<0-> -p.1*hd<hn*(p.2-p.1))->
  (∀q∈L,q.2<0->ln*(q.1-q.2)<q.1*ld)->(∀p∈L,∀q∈L,p.1<0->q.2<0-> -p.1*(q.1-q.2)<q.1*(p.2-p.1))->l0 L ln ld hn hd=aE
 |[],ln,ld,hn,hd,h0,_,_,_,_=>by simpa[l0]using h0
 |(a,b)::L,ln,ld,hn,hd,h0,h1,h2,h3,h4=>by
  have i1:∀p∈L,¬(p.1<=0/\p.2<=0):=aH;have i2:∀p∈L,p.1<0-> -p.1*hd<hn*(p.2-p.1):=aH;have i3:∀q∈L,q.2<0->ln*(q.1-q.2)<q.1*ld:=aH;have i4:∀p∈L,∀q∈L,p.1<0->q.2<0-> -p.1*(q.1-q.2)<q.1*(p.2-p.1):=aH;unfold l0;rw[if_neg (h1 (a,b) aH)];split
  .rename_i ha;split
   .exact xD L _ _ _ _ (h2 (a,b) aH ha) i1 i2 (λq hq hq2=>h4 (a,b) aH q aH ha hq2) i4
   .exact xD L _ _ _ _ h0 i1 i2 i3 i4
  .split
   .rename_i hb;split
    .exact xD L _ _ _ _ (h3 (a,b) aH hb) i1 (λp hp hp1=>h4 p aH (a,b) aH hp1 hb) i3 i4
    .exact xD L _ _ _ _ h0 i1 i2 i3 i4
   .exact xD L _ _ _ _ h0 i1 i2 i3 i4
def enters_of{F:List P3}{s:S}(h1:∀f∈F,¬(ev f (pt s.a)<=0/\ev f (pt s.b)<=0))
  (h2:∀f∈F,∀g∈F,ev f (pt s.a)<0->ev g (pt s.b)<0->ev f (pt s.a)*ev g (pt s.b)<ev g (pt s.a)*ev f (pt s.b)):uY F s:=by
 have:l0 (F.map λf=>(ev f (pt s.a),ev f (pt s.b))) 0 1 1 1=aE:=by
  refine xD _ _ _ _ _ bg ?_ ?_ ?_ ?_
  .grind
  .grind
  .grind
  .grind
 rw[vM _ _ _ _ _ bg bg bg bg]at this;obtain⟨x,y,hx,hy,h,_⟩:=this;exact⟨x,y,hx,hy,λg hg=>h _ (bn.2 ⟨g,hg,rfl⟩)⟩
def Yu{F:List P3}{Vs:List V}{Es:List S}{c:P3}(A:Poly F Vs Es c){s:S}(hne:s.a≠s.b):
  uY F s↔¬((∃f∈F,ev f (pt s.a)<=0/\ev f (pt s.b)<=0)\/(∀v∈Vs,ev (lin s.a s.b) (pt v)<=0)\/(∀v∈Vs,ev (lin s.b s.a) (pt v)<=0)):=by
 constructor
 .rintro⟨x,y,hx,hy,h⟩;have hq:∀f∈F,0<ev f (cmb x (pt s.a) y (pt s.b)):=by intro f hf;rw[bB];have:=h f hf;grind
  have flat:∀g:P3,ev g (cmb x (pt s.a) y (pt s.b))=0->(∀v∈Vs,ev g (pt v)<=0)->∀r:P3,ev g r=0:=by
   intro g hg hv r;have near0:∀r:P3,0<=ev g r:=by intro r;obtain⟨N,n1,n2⟩:=big (cmb x (pt s.a) y (pt s.b)) (cmb (-1) r 0 r) F hq;have:=A.hull (cmb N (cmb x (pt s.a) y (pt s.b)) (-1) r) (λf hf=>by have h5:=n2 f hf;have h6:=bB f r r (-1) 0;rw[bB f _ r N (-1)];omega) g hv;rw[bB,hg]at this;omega
   have e1:=near0 r;have e2:=near0 (cmb (-1) r 0 r);rw[bB]at e2;omega
  have notflat:∀g:P3,(g=lin s.a s.b\/g=lin s.b s.a)->¬(∀v∈Vs,ev g (pt v)<=0):=by
   intro g hg hv;have h0:ev g (cmb x (pt s.a) y (pt s.b))=0:=by
    rw[bB];rcases hg with rfl|rfl
    .rw[cN,cU];omega
    .rw[cN,cU];omega
   have f1:=flat g h0 hv ⟨1,0,0⟩;have f2:=flat g h0 hv ⟨0,1,0⟩;apply hne;obtain⟨⟨ax,ay⟩,⟨bx,b_y⟩⟩:=s;simp only[V.mk.injEq];rcases hg with rfl|rfl<;>simp[ev,lin]at f1 f2<;>omega
  rintro(⟨f,hf,h1,h2⟩|h1|h1)
  .have e1:=cF (aC:0<= -ev f (pt s.a)) (aC:0<=x);have e2:=cF (aC:0<= -ev f (pt s.b)) (aC:0<=y);grind
  .exact notflat _ (.inl rfl) h1
  .exact notflat _ (.inr rfl) h1
 .intro hno;refine enters_of ?_ ?_
  .grind
  .intro f hf g hg h1 h2;apply dS;intro h3;have hfb:0<ev f (pt s.b):=by
    rcases cH 0 (ev f (pt s.b))with h|h
    .exact h
    .grind
   have hga:0<ev g (pt s.a):=by
    rcases cH 0 (ev g (pt s.a))with h|h
    .exact h
    .grind
   have id:∀X:P3,(f.x*g.y-f.y*g.x)*ev (lin s.a s.b) X=(ev f (pt s.b)-ev f (pt s.a))*ev g X-(ev g (pt s.b)-ev g (pt s.a))*ev f X+(ev f (pt s.a)*ev g (pt s.b)-ev g (pt s.a)*ev f (pt s.b))*X.d:=by intro X;unfold ev lin pt;grind
   have val:∀X:P3,0<=ev f X->0<=ev g X->0<=X.d->0<=(f.x*g.y-f.y*g.x)*ev (lin s.a s.b) X:=by intro X hf hg hd;rw[id];have e1:=cF (aC:0<=ev f (pt s.b)-ev f (pt s.a)) hg;have e2:=cF (aC:0<= -(ev g (pt s.b)-ev g (pt s.a))) hf;have e3:=cF (aC:0<=ev f (pt s.a)*ev g (pt s.b)-ev g (pt s.a)*ev f (pt s.b)) hd;rw[oV]at e2;omega
   have hc:0<(f.x*g.y-f.y*g.x)*ev (lin s.a s.b) c:=by rw[id];have e1:=bJ (aC:0<ev f (pt s.b)-ev f (pt s.a)) (A.cin g hg);have e2:=cF (aC:0<= -(ev g (pt s.b)-ev g (pt s.a))) (show 0<=ev f c by have:=A.cin f hf;omega);have e3:=cF (aC:0<=ev f (pt s.a)*ev g (pt s.b)-ev g (pt s.a)*ev f (pt s.b)) (show 0<=c.d by have:=A.cd;omega);rw[oV]at e2;omega
   have hv:∀v∈Vs,0<=(f.x*g.y-f.y*g.x)*ev (lin s.a s.b) (pt v):=λv hv=>val _ (A.nonneg f hf v hv) (A.nonneg g hg v hv) (bg:(0:Int)<=1);generalize f.x*g.y-f.y*g.x=k at*;apply hno;rcases pX k 0 with hk|hk|hk
   .refine .inr (.inl ?_);intro v hvm;rcases cH 0 (ev (lin s.a s.b) (pt v))with h|h
    .have:=mH hk h;grind
    .exact h
   .grind
   .refine .inr (.inr ?_);intro v hvm;have e:ev (lin s.b s.a) (pt v)= -ev (lin s.a s.b) (pt v):=by unfold ev lin pt;grind
    rcases cH (ev (lin s.a s.b) (pt v)) 0 with h|h
    .have:=gr hk h;grind
    .omega
def TJ{x:Int}(h:x.tmod 3=0):x.tdiv 3*3=x:=aH
def My{x y d:Int}(h1:1<=d)(h2:d<=3)(hx: -(4000*d)<=x/\x<=4000*d)(hy: -(4000*d)<=y/\y<=4000*d)(hg:bQ (bQ x.natAbs y.natAbs) d.natAbs=1):dP ⟨x,y,d⟩=aE:=by unfold dP jg bF;grind
def L5{u v w:V}(hu:bF u 2000=aE)(hv:bF v 2000=aE)(hw:bF w 2000=aE):dP (gg u v w)=aE:=by
 unfold bF at hu hv hw;simp only[cD,decide_eq_true_eq]at hu hv hw;have bx: -6000<=u.x+v.x+w.x/\u.x+v.x+w.x<=6000:=aC;have b_y: -6000<=u.y+v.y+w.y/\u.y+v.y+w.y<=6000:=aC;unfold gg;generalize u.x+v.x+w.x=x at*;generalize u.y+v.y+w.y=y at*;split
 .rename_i h;have e1:=TJ h.1;have e2:=TJ h.2;exact My aC aC aC aC af
 .refine My aC aC aC aC ?_;have h3:bQ (bQ x.natAbs y.natAbs) 3∣3:=wY _ _;have hle:=LJ bg h3;have hd1:bQ (bQ x.natAbs y.natAbs) 3∣x.natAbs:=wZ (u6 _ _) (u6 _ _);have hd2:bQ (bQ x.natAbs y.natAbs) 3∣y.natAbs:=wZ (u6 _ _) (wY _ _);show bQ (bQ x.natAbs y.natAbs) 3=1;generalize bQ (bQ x.natAbs y.natAbs) 3=g at*;match g,hle with
  |0,_=>simp at h3
  |1,_=>rfl
  |2,_=>omega
  |3,_=>grind
def O4(f:P3)(u v w:V):0<ev f ⟨(gg u v w).x,(gg u v w).y,(gg u v w).den⟩↔0<ev f ⟨u.x+v.x+w.x,u.y+v.y+w.y,3⟩:=by
 unfold gg;generalize u.x+v.x+w.x=x at*;generalize u.y+v.y+w.y=y at*;split
 .rename_i h;have:ev f ⟨x,y,3⟩=3*ev f ⟨x.tdiv 3,y.tdiv 3,1⟩:=by unfold ev;grind
  grind
 grind
def mq(s:Shape)(r:aU):Bool:=(ao s).all (λe=> !(eJ e r))&&fm s (gg (nth r 0) (nth r 1) (nth r 2))==2
def nU(s:Shape)(r:aU):Bool:=(ao s).all (λe=>fU r [e.a,e.b])&&ir s (kO (r.take 3))==2
def VR.p8{r:aU}(h:VR r){e:S}(he:e∈aW r):e.a≠e.b:=by
 unfold aW at he;split at he
 .cases he
 .obtain⟨i,hi,rfl⟩:=bn.1 he;have hi:=cP.1 hi;intro h2;have h3:nth r i=nth r ((i+1) % (aA r)):=h2;have:=h.inj hi (cG _ aC) h3;by_cases h4:i+1<aA r
  .rw[dK h4]at this;omega
  .have h5:i+1=aA r:=aC;rw[h5,io]at this;omega
def VS.p8{s:Shape}(h:VS s){e:S}(he:e∈ao s):e.a≠e.b:=by obtain⟨r,hr,he⟩:=dL.1 he;exact(h.ring hr).p8 he
structure CR(r:aU):Prop where
 len:3<=aA r
 pos:∀i n,i<aA r->n<aA r->n≠i->n≠(i+1) % (aA r)->0<ev (lin (nth r i) (nxt r i)) (pt (nth r n))
 near:∀v∈r,bF v 2000=aE
variable{r:aU}
def tj(h:2<=aA r){f:P3}:f∈kP r↔∃i,i<(aA r)/\f=lin (nth r i) (nxt r i):=by unfold kP aW;rw[if_neg aC,du];simp only[bn,cP,FG,bh];grind
def CR.nonneg(h:CR r){i n:Nat}(hi:i<aA r)(hn:n<aA r):0<=ev (lin (nth r i) (nxt r i)) (pt (nth r n)):=by
 by_cases e1:n=i
 .rw[e1,cN];omega
 by_cases e2:n=(i+1) % (aA r)
 .rw[e2];unfold nxt;rw[cU];omega
 exact fZ (h.pos i n hi hn e1 e2)
def id3(u v w:V)(h q:P3):ev (lin u v) (pt w)*ev h q=ev (lin v w) q*ev h (pt u)+ev (lin w u) q*ev h (pt v)+ev (lin u v) q*ev h (pt w):=by unfold ev lin pt;grind
def aB5(u v w:V):ev (lin u v) (pt w)=ev (lin v w) (pt u):=by unfold ev lin pt;grind
def OZ(u v:V)(q:P3):ev (lin v u) q= -ev (lin u v) q:=by unfold ev lin;grind
def Ot{D:Nat->Int}:∀{n:Nat},0<=D 1->D (n+2)<0->∃i,1<=i/\i<=n+1/\0<=D i/\D (i+1)<0
 |0,h1,h2=>aH
 |n+1,h1,h2=>by
  by_cases h:0<=D (n+2)
  .grind
  .obtain⟨i,a,b,c,d⟩:=Ot (n:=n) h1 aC;grind
def E3(r:aU):P3:=⟨(nth r 0).x+(nth r 1).x+(nth r 2).x,(nth r 0).y+(nth r 1).y+(nth r 2).y,3⟩
def CR.poly(h:CR r):Poly (kP r) r (aW r) (E3 r):=by
 have hl:=h.len;have c0:∀f:P3,ev f (E3 r)=ev f (pt (nth r 0))+ev f (pt (nth r 1))+ev f (pt (nth r 2)):=by intro f;unfold E3 ev pt;grind
 have md:∀i,i<aA r->(i+1) % (aA r)<aA r:=λi _=>cG _ aC;have mdc:∀i,i<aA r->((i+1) % (aA r)=i+1/\i+1<aA r)\/((i+1) % (aA r)=0/\i+1=aA r):=λi hi=>by
  by_cases h4:i+1<aA r
  .exact .inl ⟨dK h4,h4⟩
  .have h5:i+1=aA r:=aC;simp_all
 refine⟨?_,(bg:(0:Int)<3),?_,?_,?_,?_⟩
 .intro f hf v hv;obtain⟨i,hi,rfl⟩:=(tj aC).1 hf;obtain⟨n,hn,rfl⟩:=fC.1 hv;exact h.nonneg hi hn
 .intro f hf;obtain⟨i,hi,rfl⟩:=(tj aC).1 hf;rw[c0];have e0:=h.nonneg hi (aC:0<aA r);have e1:=h.nonneg hi (aC:1<aA r);have e2:=h.nonneg hi (aC:2<aA r);have:(0≠i/\0≠(i+1) % (aA r))\/(1≠i/\1≠(i+1) % (aA r))\/(2≠i/\2≠(i+1) % (aA r)):=by rcases mdc i hi with⟨a,b⟩|⟨a,b⟩<;>rw[a] <;>omega
  rcases this with⟨a,b⟩|⟨a,b⟩|⟨a,b⟩
  .have:=h.pos i 0 hi aC a b;omega
  .have:=h.pos i 1 hi aC a b;omega
  .have:=h.pos i 2 hi aC a b;omega
 .intro s hs;unfold aW at hs;rw[if_neg aC]at hs;obtain⟨i,hi,rfl⟩:=bn.1 hs;have hi:=cP.1 hi;exact⟨fC.2 ⟨i,hi,rfl⟩,fC.2 ⟨_,md i hi,rfl⟩⟩
 .rintro q hq ⟨f,hf,hz⟩ hn;obtain⟨i,hi,rfl⟩:=(tj aC).1 hf;have hj:=md i hi;obtain⟨p,hp,ep⟩:∃p,p<(aA r)/\(p+1) % (aA r)=i:=by
   by_cases h0:i=0
   .exact⟨aA r-1,aC,by rw[h0,LO aC,io]⟩
   .exact⟨i-1,aC,aH⟩
  have hk:=md _ hj;have n1:=hn (lin (nth r ((i+1) % (aA r))) (nxt r ((i+1) % (aA r)))) ((tj aC).2 ⟨_,hj,rfl⟩);have n2:=hn (lin (nth r p) (nxt r p)) ((tj aC).2 ⟨_,hp,rfl⟩);have ea:nxt r p=nth r i:=by unfold nxt;rw[ep]
  have eb:nxt r i=nth r ((i+1) % (aA r)):=rfl;rw[ea]at n2;have K1:0<ev (lin (nth r i) (nxt r i)) (pt (nxt r ((i+1) % (aA r)))):=by
   refine h.pos i _ hi hk ?_ ?_
   .rcases mdc i hi with⟨a,b⟩|⟨a,b⟩<;>rw[a]
    .rcases mdc (i+1) b with⟨c,d⟩|⟨c,d⟩<;>rw[c] <;>omega
    .rw[dK aC];omega
   .rcases mdc i hi with⟨a,b⟩|⟨a,b⟩<;>rw[a]
    .rcases mdc (i+1) b with⟨c,d⟩|⟨c,d⟩<;>rw[c] <;>omega
    .rw[dK aC];omega
  have K2:0<ev (lin (nth r p) (nth r i)) (pt (nxt r i)):=by
   have:=h.pos p ((i+1) % (aA r)) hp hj ?_ ?_
   .grind
   .rcases mdc p hp with⟨a,b⟩|⟨a,b⟩
    .rcases mdc i hi with⟨c,d⟩|⟨c,d⟩<;>rw[c] <;>omega
    .have:i=0:=aC;rw[dK aC];omega
   .rcases mdc i hi with⟨c,d⟩|⟨c,d⟩<;>rw[c] <;>omega
  have id:=λg=>id3 (nth r i) (nxt r i) (nxt r ((i+1) % (aA r))) g q;rw[hz]at id;refine⟨bh r i,?_,ev (lin (nxt r i) (nxt r ((i+1) % (aA r)))) q,ev (lin (nxt r ((i+1) % (aA r))) (nth r i)) q,_,n1,?_,K1,λg=>by rw[id g];rw[wX,pU];rfl⟩
  .unfold aW;grind
  .have e:=id (lin (nth r p) (nth r i));rw[cU,fP,yz,wX,pU]at e;rcases cH (ev (lin (nxt r ((i+1) % (aA r))) (nth r i)) q) 0 with h5|h5
   .have:=mH h5 K2;have:=cF (fZ K1) n2;omega
   .exact h5
 .intro q hq g hg;have d1:=hq _ ((tj aC).2 ⟨0,(aC:0<aA r),rfl⟩);have d2:=hq _ ((tj aC).2 ⟨aA r-1,(aC:aA r-1<aA r),rfl⟩);have e1:nxt r 0=nth r 1:=by unfold nxt;rw[dK aC]
  have e2:nxt r (aA r-1)=nth r 0:=by unfold nxt;rw[LO aC,io]
  rw[e1]at d1;rw[e2]at d2;have d3:=OZ (nth r 0) (nth r (aA r-1)) q;obtain⟨i,a,b,c,d⟩:=Ot (D:=λi=>ev (lin (nth r 0) (nth r i)) q) (n:=aA r-3) (fZ d1) (by rw[(aC:aA r-3+2=aA r-1)];omega);have hi:i+1<aA r:=aC;have K:=h.pos i 0 aC aC aC (by rw[dK hi];omega);have f1:=hq _ ((tj aC).2 ⟨i,(aC:i<aA r),rfl⟩);have en:nxt r i=nth r (i+1):=by unfold nxt;rw[dK hi]
  rw[en]at K f1;rw[<-aB5]at K;have id:=id3 (nth r 0) (nth r i) (nth r (i+1)) g q;have g1:=hg _ (fC.2 ⟨0,(aC:0<aA r),rfl⟩);have g2:=hg _ (fC.2 ⟨i,(aC:i<aA r),rfl⟩);have g3:=hg _ (fC.2 ⟨i+1,hi,rfl⟩);have d4:=OZ (nth r 0) (nth r (i+1)) q;have p1:=cF (fZ f1) (aC:0<= -ev g (pt (nth r 0)));have p2:=cF (aC:0<=ev (lin (nth r (i+1)) (nth r 0)) q) (aC:0<= -ev g (pt (nth r i)));have p3:=cF c (aC:0<= -ev g (pt (nth r (i+1))));rw[oU]at p1 p2 p3;rcases cH 0 (ev g q)with h1|h1
  .have:=bJ K h1;omega
  .exact h1
def c8(r:aU):Bool:=decide (3<=aA r)&&(r.all (λv=>bF v 2000)&&(bT (aA r)).all λi=>(bT (aA r)).all λn=>decide (n=i)||decide (n=(i+1) % (aA r))||decide (0<turn (nth r i) (nxt r i) (nth r n)))
def CR.of(h:c8 r=aE):CR r:=by
 unfold c8 at h;simp only[cD,decide_eq_true_eq,cC,cP,jd]at h;obtain⟨h1,h2,h3⟩:=h;refine⟨h1,λi n hi hn e1 e2=> ?_,h2⟩;rcases h3 i hi n hn with(h4|h4)|h4
 .omega
 .omega
 .rw[di];exact(sF _).1 h4
def oi(r:aU)(p:Pt):Bool:=(aW r).all λe=>decide (0<(e.b.x-e.a.x)*(p.y-e.a.y*p.den)-(e.b.y-e.a.y)*(p.x-e.a.x*p.den))
def Wv(r:aU)(p:Pt):oi r p=aE↔∀g∈kP r,0<ev g ⟨p.x,p.y,p.den⟩:=by
 unfold oi kP;have e:∀s:S,(s.b.x-s.a.x)*(p.y-s.a.y*p.den)-(s.b.y-s.a.y)*(p.x-s.a.x*p.den)=ev (lin s.a s.b) ⟨p.x,p.y,p.den⟩:=by intro s;unfold ev lin;grind
 simp_all
def gP(a b:aU):Bool:=(aW a).any (λs=>eJ s b)||((aW b).any (λs=>eJ s a)||oi b (gg (nth a 0) (nth a 1) (nth a 2)))
def GF{a b:aU}(ha:CR a)(hb:CR b):gP a b= !(fU a b):=by have A:=ha.poly;have B:=hb.poly;have la:=ha.len;have lb:=hb.len;have h1:=WW A B;have h2:=MH A B;rw[gR];unfold gP fU;simp only[jd,kX,GL,Wv,rP,Bool.or_eq_false_iff];simp only[O4];show(_\/_\/∀g∈kP b,0<ev g (E3 a))↔_;have r1:=xI a b aC;have r2:=xI b a aC;grind
def Nl(hr:CR r){e:S}(hne:e.a≠e.b):eJ e r= !(fU r [e.a,e.b]):=by
 have A:=hr.poly;have lr:=hr.len;have lE:kP [e.a,e.b] =[lin e.a e.b,lin e.b e.a] :=by simp[kP,aW,bh,nth,nxt,pW]
 have h1:=Yu A hne;have nt:∀b:Bool,b=aK↔¬b=aE:=bg;rw[gR,GL,h1];unfold fU;rw[rP,nt,jd,xI _ _ aC,xI _ _ af,lE];simp
def X4{s:Shape}(hs:VS s)(hr:CR r):mq s r=nU s r:=by
 unfold mq nU;have lr:=hr.len;have e1:(ao s).all (λe=> !(eJ e r))=(ao s).all (λe=>fU r [e.a,e.b]):=by
  rw[gR,cC,cC];constructor
  .intro h e he;have:=h e he;rw[Nl hr (hs.p8 he)]at this;grind
  .intro h e he;have:=h e he;rw[Nl hr (hs.p8 he),this];rfl
 rw[e1,GS];match r,lr with
 |u::v::w::r,_=>
  rw[show(u::v::w::r).take 3=[u,v,w]from rfl,CY];rfl
def fX(a b:List aU):Bool:=a.any λr=>b.any λo=>c8 r&&(c8 o&&gP r o)
end Geo
namespace Geo
def rot(r:aU)(k:Nat):aU:=r.drop k++r.take k
def Hz(r:aU)(k:Nat):(rot r k).Perm r:=by refine yu.trans ?_;simp_all
def qZ(r:aU)(k:Nat):aA (rot r k)=aA r:=(Hz r k).length_eq
variable{r:aU}{k:Nat}
def xo{i:Nat}(hk:k<=aA r)(hi:i<aA r):nth (rot r k) i=nth r ((i+k) % (aA r)):=by
 unfold rot nth;rw[fY,fY];by_cases h:i<aA r-k
 .rw[qU eO,yv,kM aC];grind
 .rw[mg eO,List.length_drop,List.getElem?_take,if_pos aC,sC aC aC];grind
def DE(i k n:Nat)(_:0<n):((i+1) % n+k) % n=((i+k) % n+1) % n:=by rw[kW,kW];grind
def IV{i:Nat}(hk:k<=aA r)(hi:i<aA r):bh (rot r k) i=bh r ((i+k) % (aA r)):=by unfold bh nxt;rw[qZ,xo hk hi,xo hk (cG _ aC),DE _ _ _ aC]
def aAz(r:aU)(hk:k<=aA r):aW (rot r k)=(aW r).drop k++(aW r).take k:=by
 unfold aW;rw[qZ];split
 .simp
 .apply wg
  .simp;omega
  .intro i h1 h2;simp only[List.length_map,List.length_range]at h1;rw[kz,u9,IV hk h1];by_cases h:i<aA r-k
   .rw[List.getElem_append_left eO,List.getElem_drop,kz,u9,kM aC];grind
   .rw[List.getElem_append_right eO,List.getElem_take,kz,u9,sC aC aC];grind
def MB(r:aU)(hk:k<=aA r):(aW (rot r k)).Perm (aW r):=by rw[aAz r hk];refine yu.trans ?_;simp_all
def Gm(h:2<=aA r):area r=((aW r).map λe=>cross e.a e.b).sum:=by unfold area aW;rw[if_neg aC,du];rfl
def xQ{l m:List Int}(h:l.Perm m):l.sum=m.sum:=by
 induction h with
 |nil=>rfl
 |cons x _ ih=>grind
 |swap x y l=>grind
 |trans _ _ ih1 ih2=>rw[ih1,ih2]
def aCS(h:2<=aA r)(hk:k<=aA r):area (rot r k)=area r:=by rw[Gm h,Gm (by rw[qZ];exact h)];exact xQ ((MB r hk).map _)
def aAb{q:aU}(h:q.Perm r):near q=near r:=by unfold near;grind
def aDK(i k n:Nat)(_:0<n):((i+2) % n+k) % n=((i+k) % n+2) % n:=by rw[kW,kW];grind
def VR.rot{r:aU}(h:VR r){k:Nat}(hk:k<=aA r):VR (rot r k):=by
 have h3:=h.three;have ht:∀i,i<aA (Geo.rot r k)->Geo.turn (nth (Geo.rot r k) i) (nth (Geo.rot r k) ((i+1) % (aA (Geo.rot r k)))) (nth (Geo.rot r k) ((i+2) % (aA (Geo.rot r k))))≠0:=by intro i hi;rw[qZ]at hi|-;rw[xo hk hi,xo hk (cG _ aC),xo hk (cG _ aC),DE _ _ _ aC,aDK _ _ _ aC];exact h.turn' _ (cG _ aC)
 have ha:∀a b,a<aA r->b<aA r->a≠b->b≠(a+1) % (aA r)->a≠(b+1) % (aA r)->cX (bh r a) (bh r b)=0:=by
  intro a b h1 h2 h4 h5 h6;have key:∀a b,a<b->b<aA r->b≠(a+1) % (aA r)->a≠(b+1) % (aA r)->cX (bh r a) (bh r b)=0:=by
   intro a b h1 h2 h5 h6;refine h.apart a b h1 h2 ?_ ?_
   .rintro rfl;exact h5 (kM h2).symm
   .rintro⟨rfl,rfl⟩;exact h6 (by rw[(aC:aA r-1+1=aA r),io])
  rcases pV a b with h7|h7
  .grind
  .rw[og];grind
 have e1:∀i,i<aA r->(i+1) % (aA r)=if i+1=(aA r) then 0 else i+1:=by
  intro i hi;split
  .simp_all
  .exact kM aC
 have hap:∀i j,i<j->j<aA (Geo.rot r k)->j≠i+1->¬(i=0/\j=aA (Geo.rot r k)-1)->cX (bh (Geo.rot r k) i) (bh (Geo.rot r k) j)=0:=by
  intro i j hij hj h4 h5;rw[qZ]at hj h5;rw[IV hk aC,IV hk hj];have inj:∀x y,x<aA r->y<aA r->(x+k) % (aA r)=(y+k) % (aA r)->x=y:=by
   intro x y hx hy e;have hm:∀z,z<aA r->(z+k) % (aA r)=if z+k<(aA r) then z+k else z+k-aA r:=by
    intro z hz;split
    .exact kM aJ
    .exact sC aC aC
   rw[hm x hx,hm y hy]at e;split at e<;>split at e<;>omega
  refine ha _ _ (cG _ aC) (cG _ aC) ?_ ?_ ?_
  .intro e;have:=inj _ _ aC hj e;omega
  .rw[<-DE _ _ _ aC];intro e;have:=inj _ _ hj (cG _ aC) e;rw[e1 i aC]at this;grind
  .rw[<-DE _ _ _ aC];intro e;have:=inj _ _ aC aH e;grind
 have htn:∀i,i<aA (Geo.rot r k)->Geo.turn (prv (Geo.rot r k) i) (nth (Geo.rot r k) i) (nxt (Geo.rot r k) i)≠0:=by have:=Gn (Geo.rot r k) (by rw[qZ];exact h3);rw[gR,cC,cC]at this;intro i hi;have:=this.2 aH i aH;simpa using this
 exact⟨by rw[qZ];exact h3,by rw[qZ];exact h.most,by rw[aAb (Hz r k)];exact h.near,by rw[aCS aC hk];exact h.area,htn,ht,hap⟩
def Zd(p:Pt)(a b:S)(l:List S)(ins:Bool):fV p (a::b::l) ins=fV p (b::a::l) ins:=by simp only[fV];cases onP a p<;>cases onP b p<;>simp;grind
def Ze(p:Pt){l m:List S}(h:l.Perm m):∀ins,fV p l ins=fV p m ins:=by
 induction h with
 |nil=>omega
 |cons x _ ih=>intro ins;simp only[fV,ih]
 |swap x y l=>intro ins;exact Zd p y x l ins
 |trans _ _ ih1 ih2=>grind
def ZJ(h:VR r)(hk:k<=aA r)(p:Pt):cE (rot r k) p=cE r p:=by unfold cE;rw[(ig _).2 h,(ig _).2 (h.rot hk),Ze p (MB r hk)]
def Mx(h:VR r)(hk:k<=aA r)(v:V):dB (rot r k) v=dB r v:=by unfold dB;rw[ZJ h hk]
section
variable {s t:Shape} {κ:aU->Nat}
def Nb{p:Pt}:∀{l:List aU},lO p l 2=2↔∀h∈l,cE h p=0
 |[] =>by simp[lO]
 |h::l=>by
  have hr:cE h p=0\/cE h p=1\/cE h p=2:=by
   unfold cE;split
   .omega
   .exact NB p _ _
  simp only[lO,bO,forall_eq_or_imp];rw[<-Nb (l:=l)];omega
def CD(s:Shape)(p:Pt):fm s p=2↔(bL s=aE/\cE s.outer p=2/\∀h∈s.holes,cE h p=0):=by
 unfold fm;cases bL s with
 |false=>simp
 |true=>
  simp only[oR,mf,if_false,true_and];by_cases h:cE s.outer p=2
  .rw[if_neg aC,Nb];simp[h]
  omega
end
end Geo
namespace Geo
section
variable {u:V}
def Q1(l:List S)(f g:S->Int):(l.map λe=>f e+g e).sum=(l.map f).sum+(l.map g).sum:=by
 induction l with
 |nil=>rfl
 |cons x l ih=>grind
variable{r:aU}
def aDn(h:2<=aA r):(aW r).map S.b=rot r 1:=by
 unfold aW;rw[if_neg aC,du];apply wg
 .rw[qZ];simp
 .intro i h1 h2;rw[qZ]at h2;have:=xo (r:=r) (k:=1) (i:=i) aC h2;rw[kz,u9];show nxt r i=_;unfold nxt;rw[<-this];unfold nth;grind
def Pe(h:2<=aA r):(aW r).map S.a=r:=by
 unfold aW;rw[if_neg aC,du];apply wg
 .simp
 .intro i h1 h2;rw[kz,u9];show nth r i=_;unfold nth;grind
def IE(h:near r=aE){v:V}(hv:v∈r):bF v 2000=aE:=by unfold near at h;grind
def Y0(h:near r=aE){e:S}(he:e∈aW r):bX e=aE:=by obtain⟨_,i,hi,rfl⟩:=iq.1 he;exact lH h i hi
end
section
variable {u:V} {s:Shape}
def aD1(x y:Int)(h:¬(x.tmod 2=0/\y.tmod 2=0)):bQ (bQ x.natAbs y.natAbs) 2=1:=by
 have hd:bQ (bQ x.natAbs y.natAbs) 2∣2:=wY _ _;have hle:=LJ aC hd;have h0:bQ (bQ x.natAbs y.natAbs) 2≠0:=λe=>aH;have h2:bQ (bQ x.natAbs y.natAbs) 2≠2:=λe=>by have g:=u6 (bQ x.natAbs y.natAbs) 2;rw[e]at g;exact h ⟨(xU x 2).2 (wZ g (u6 _ _)),(xU y 2).2 (wZ g (wY _ _))⟩
 omega
def Fr{c:S}(ha:bF c.a 2000=aE)(hb:bF c.b 2000=aE):dP (iW c)=aE:=by
 unfold bF at ha hb;simp only[cD,decide_eq_true_eq]at ha hb;unfold iW;split
 .rename_i h;unfold dP jg bF;simp only[cD,decide_eq_true_eq,beq_iff_eq];obtain⟨k,hk⟩:=Vy.2 h.1;obtain⟨l,hl⟩:=Vy.2 h.2;rw[hk,hl,Int.mul_tdiv_cancel_left _ bg,Int.mul_tdiv_cancel_left _ bg];refine⟨aH,?_⟩;simp_all
 .rename_i h;unfold dP jg bF;simp only[cD,decide_eq_true_eq,beq_iff_eq];exact⟨aH,aD1 _ _ h⟩
def lF(h:VS s){v:V}(hv:v∈bW s):bF v 2000=aE:=by obtain⟨r,hr,hv⟩:=ml.1 hv;exact IE (h.ring hr).near hv
def Ms(h:VS s){e:S}(he:e∈ao s):bX e=aE:=by obtain⟨r,hr,he⟩:=dL.1 he;exact Y0 (h.ring hr).near he
end
def tL(p:Pt)(l:List S)(ins:Bool):Bool:=l.foldl (λb s=>b !=fN s p) ins
def PW{p:Pt}:∀{l:List S} {ins:Bool},fV p l ins=2->tL p l ins=aE
 |[],ins,h=>by unfold fV at h;unfold tL;grind
 |s::l,ins,h=>by
  unfold fV at h;split at h
  .omega
  .exact PW (l:=l) (ins:=ins !=fN s p) h
def Pp{p:Pt}:∀{l:List S} {ins:Bool},(∀s∈l,fN s p=aK)->tL p l ins=ins
 |[],_,_=>rfl
 |s::l,ins,h=>by
  show tL p l (ins !=fN s p)=ins;rw[Pp aH,h s aH];simp_all
def fK(l:List Bool):Bool:=l.foldr (λa b=>a !=b) aK
def aA3{l m:List Bool}(h:l.Perm m):fK l=fK m:=by
 induction h with
 |nil=>rfl
 |cons x _ ih=>show(x !=fK _)=(x !=fK _);rw[ih]
 |swap x y l=>show(y !=(x !=fK l))=(x !=(y !=fK l));cases x<;>cases y<;>cases fK l<;>rfl
 |trans _ _ ih1 ih2=>rw[ih1,ih2]
def RR{p:Pt}(f:V->Bool):∀{l:List S} {ins:Bool},(∀s∈l,fN s p=(f s.a !=f s.b))->tL p l ins=(ins !=(fK (l.map λs=>f s.a) !=fK (l.map λs=>f s.b)))
 |[],ins,_=>by cases ins<;>rfl
 |s::l,ins,h=>by
  show tL p l (ins !=fN s p)=_;rw[RR f aH,h s aH];show _=(ins !=((f s.a !=fK _) !=(f s.b !=fK _)));cases ins<;>cases f s.a<;>cases f s.b<;>cases fK (l.map λs=>f s.a)<;>cases fK (l.map λs=>f s.b)<;>rfl
def Hj{r:aU}(h:2<=aA r)(f:V->Bool):fK ((aW r).map λs=>f s.a)=fK ((aW r).map λs=>f s.b):=by have h1:((aW r).map λe=>f e.b)=(rot r 1).map f:=(du (f:=S.b) (g:=f) (l:=aW r)).symm.trans (by rw[aDn h]);have h2:((aW r).map λe=>f e.a)=r.map f:=(du (f:=S.a) (g:=f) (l:=aW r)).symm.trans (by rw[Pe h]);rw[h1,h2];exact aA3 ((Hz r 1).map f).symm
def jC{r:aU}{e:S}(he:e∈aW r):e.a∈r/\e.b∈r:=by obtain⟨_,i,hi,rfl⟩:=iq.1 he;exact⟨fC.2 ⟨i,hi,rfl⟩,fC.2 ⟨_,cG _ aC,rfl⟩⟩
def PO(s:S)(p:Pt)(h:p.den=1):gi s p=(toV p s.a).x*(toV p s.b).y-(toV p s.a).y*(toV p s.b).x:=by unfold gi toV cross sub;grind
def Et{x y:Int}:(0<x->0<=y->0<=x*y)/\(0<x->y<0->x*y<0)/\(x<0->0<=y->x*y<=0)/\(x<0->y<0->0<x*y):=by refine⟨λh1 h2=>cF aC h2,λh1 h2=>gr h1 h2,λh1 h2=>Bf aC h2,λh1 h2=>yp h1 h2⟩
def aAo{s:S}{p:Pt}(hd:p.den=1)(ha:0<(toV p s.a).x)(hb:0<(toV p s.b).x):fN s p=aK:=by unfold fN;rw[PO s p hd];generalize (toV p s.a).x=X1 at*;generalize (toV p s.b).x=X2 at*;generalize (toV p s.a).y=Y1;generalize (toV p s.b).y=Y2;have a:= @Et X1 Y2;have b:= @Et X2 Y1;grind
def aCi{s:S}{p:Pt}(hd:p.den=1)(ha:(toV p s.a).x<0)(hb:(toV p s.b).x<0):fN s p=(decide (0<=(toV p s.a).y) !=decide (0<=(toV p s.b).y)):=by unfold fN;rw[PO s p hd];generalize (toV p s.a).x=X1 at*;generalize (toV p s.b).x=X2 at*;generalize (toV p s.a).y=Y1;generalize (toV p s.b).y=Y2;have a:= @Et X1 Y2;have b:= @Et X2 Y1;grind
def Ti{s:S}{p:Pt}(h:decide (0<=(toV p s.a).y)=decide (0<=(toV p s.b).y)):fN s p=aK:=by unfold fN;rw[h];simp
def Yf{r:aU}(h2:2<=aA r){v:V}(h:dB r v=2):(∃a∈r,a.x<=v.x)/\(∃a∈r,v.x<=a.x)/\(∃a∈r,a.y<=v.y)/\(∃a∈r,v.y<=a.y):=by
 unfold dB cE at h;split at h
 .omega
 split at h
 .omega
 have hp:=PW h;have no:¬∀s∈aW r,fN s (fL v)=aK:=λhn=>by rw[Pp hn]at hp;cases hp
 have tx:∀a:V,(toV (fL v) a).x=v.x-a.x:=λa=>by unfold toV fL;simp
 have ty:∀a:V,(toV (fL v) a).y=v.y-a.y:=λa=>by unfold toV fL;simp
 refine⟨dS λhn=> ?_,dS λhn=> ?_,dS λhn=> ?_,dS λhn=> ?_⟩
 .have hl:∀a∈r,v.x<a.x:=aH;rw[RR (λa=>decide (0<=(toV (fL v) a).y)) (λs hs=>aCi rfl (by rw[tx];have:=hl _ (jC hs).1;omega) (by rw[tx];have:=hl _ (jC hs).2;omega))]at hp;have hx:=Hj h2 (λa=>decide (0<=(toV (fL v) a).y));grind
 .have hl:∀a∈r,a.x<v.x:=aH;exact no λs hs=>aAo rfl (by rw[tx];have:=hl _ (jC hs).1;omega) (by rw[tx];have:=hl _ (jC hs).2;omega)
 .have hl:∀a∈r,v.y<a.y:=aH;exact no λs hs=>Ti (by have:=hl _ (jC hs).1;have:=hl _ (jC hs).2;grind)
 .have hl:∀a∈r,a.y<v.y:=aH;exact no λs hs=>Ti (by have:=hl _ (jC hs).1;have:=hl _ (jC hs).2;grind)
def ln(p q:P3):P3:=⟨p.y*q.d-p.d*q.y,p.d*q.x-p.x*q.d,p.x*q.y-p.y*q.x⟩
def aE4(u v:V):lin u v=ln (pt u) (pt v):=by unfold lin ln pt;grind
def JI(p q:P3):ev (ln p q) p=0:=by unfold ev ln;grind
def Dg(p q:P3):ev (ln p q) q=0:=by unfold ev ln;grind
def nnl{a k:Int}(hk:0<k)(h:0<=a*k):0<=a:=by
 rcases cH a 0 with g|g
 .have:=mH g hk;omega
 .exact g
def npl{a k:Int}(hk:0<k)(h:a*k<=0):a<=0:=by
 rcases cH 0 a with g|g
 .have:=bJ g hk;omega
 .exact g
def mpp{a b:Int}(ha:0<=a)(hb:0<=b):0<=a*b:=cF ha hb
def mpn{a b:Int}(ha:0<=a)(hb:b<=0):a*b<=0:=Int.mul_nonpos_of_nonneg_of_nonpos ha hb
def mnp{a b:Int}(ha:a<=0)(hb:0<=b):a*b<=0:=Bf ha hb
def mnn{a b:Int}(ha:a<=0)(hb:b<=0):0<=a*b:=Int.mul_nonneg_of_nonpos_of_nonpos ha hb
def dn(p:P3)(w:V):Bool:=decide (w.y*p.d<=p.y)
def hit(p:P3)(e:S):Bool:=(dn p e.a !=dn p e.b)&&(dn p e.a==decide (0<ev (lin e.a e.b) p))
def aCj(e:S)(p:Pt):fN e p=hit ⟨p.x,p.y,p.den⟩ e:=by
 unfold fN hit dn;have e1:∀w:V,decide (0<=(toV p w).y)=decide (w.y*p.den<=p.y):=λw=>decide_eq_decide.2 (by unfold toV;grind);have e2:gi e p=ev (lin e.a e.b) ⟨p.x,p.y,p.den⟩:=by unfold gi cross sub toV ev lin;grind
 grind
def gp(e:S)(p q:P3):Prop:=∃x y s t:Int,0<=x/\0<=y/\0<x+y/\0<=s/\0<=t/\cmb x (pt e.a) y (pt e.b)=cmb s p t q
section
variable {u v:V} {p q:P3}
def gc(u v:V)(p q:P3):cmb (ev (ln p q) (pt v)) (pt u) (-(ev (ln p q) (pt u))) (pt v)=cmb (-(ev (lin u v) q)) p (ev (lin u v) p) q:=by unfold cmb ev ln lin pt;grind
def Kz(u v:V)(p q:P3):ev (ln p q) (pt v)*(u.y*p.d-p.y)-ev (ln p q) (pt u)*(v.y*p.d-p.y)=ev (lin u v) p*(q.y*p.d-p.y*q.d):=by unfold ev ln lin pt;grind
def Ky(u v:V)(p q:P3):ev (ln p q) (pt v)*(u.y*q.d-q.y)-ev (ln p q) (pt u)*(v.y*q.d-q.y)=ev (lin u v) q*(q.y*p.d-p.y*q.d):=by unfold ev ln lin pt;grind
def aHB(u v:V)(p q:P3):ev (ln p q) (pt v)-ev (ln p q) (pt u)=ev (lin u v) p*q.d-ev (lin u v) q*p.d:=by unfold ev ln lin pt;grind
def BF(h1:0<=ev (lin u v) p)(h2:ev (lin u v) q<=0)(h3:0<=ev (ln p q) (pt v))(h4:ev (ln p q) (pt u)<=0)(h5:ev (ln p q) (pt u)<ev (ln p q) (pt v)):gp ⟨u,v⟩ p q:=
 ⟨_,_,_,_,h3,aC,aC,aC,h1,gc u v p q⟩
def Ee(h1:ev (lin u v) p<=0)(h2:0<=ev (lin u v) q)(h3:ev (ln p q) (pt v)<=0)(h4:0<=ev (ln p q) (pt u))(h5:ev (ln p q) (pt v)<ev (ln p q) (pt u)):gp ⟨u,v⟩ p q:=by refine⟨-(ev (ln p q) (pt v)),ev (ln p q) (pt u),ev (lin u v) q,-(ev (lin u v) p),aC,aC,aC,aC,aC,?_⟩;have:=gc u v p q;unfold cmb at this|-;grind
def rgt(p q:P3)(w:V):Bool:=dn q w&& !dn p w&&decide (ev (ln p q) (pt w)<0)
def gp.swap{u v:V}{p q:P3}(h:gp ⟨u,v⟩ p q):gp ⟨v,u⟩ p q:=by obtain⟨x,y,s,t,h1,h2,h3,h4,h5,h6⟩:=h;refine⟨y,x,s,t,h2,h1,aC,h4,h5,?_⟩;rw[<-h6];unfold cmb;grind
def gp.flip{e:S}{p q:P3}(h:gp e p q):gp e q p:=by obtain⟨x,y,s,t,h1,h2,h3,h4,h5,h6⟩:=h;refine⟨x,y,t,s,h1,h2,h3,h5,h4,?_⟩;rw[h6];unfold cmb;grind
def jf(u v:V)(p:P3):ev (lin v u) p= -ev (lin u v) p:=by unfold ev lin;grind
def low(hp:0<p.d)(hq:0<q.d)(hm:¬gp ⟨u,v⟩ p q)(a:u.y*p.d<=p.y)(b:p.y<v.y*p.d)(c:u.y*q.d<=q.y)(d:v.y*q.d<=q.y):
  0<ev (lin u v) p↔ev (ln p q) (pt v)<0:=by
 have i1:=Kz u v p q;have i2:=Ky u v p q;have hK:0<q.y*p.d-p.y*q.d:=by have e:q.y*p.d-p.y*q.d=(v.y*p.d-p.y)*q.d-(v.y*q.d-q.y)*p.d:=aH;have:=bJ (aC:0<v.y*p.d-p.y) hq;have:=mnp (aC:v.y*q.d-q.y<=0) (aC:0<=p.d);omega
 have m1:= @BF u v p q;have m2:= @Ee u v p q;generalize ev (lin u v) p=A at*;generalize ev (lin u v) q=B at*;generalize ev (ln p q) (pt u)=C at*;generalize ev (ln p q) (pt v)=D at*;generalize q.y*p.d-p.y*q.d=K at*;constructor
 .intro hA;refine dS λhn=> ?_;have hDn:0<=D:=aC;have s1:=mpn hDn (aC:u.y*p.d-p.y<=0);have s2:=bJ hA hK;have s3:0<=(-C)*(v.y*p.d-p.y):=by rw[oV];omega
  have hCn:C<=0:=by have:=nnl aH s3;omega
  have s4:=mpn hDn (aC:u.y*q.d-q.y<=0);have s5:=mnn hCn (aC:v.y*q.d-q.y<=0);have hBn:B<=0:=npl hK aC;grind
 .refine dS λhn=> ?_;have hAn:A<=0:=aC;have s1:=mnn (aC:D<=0) (aC:u.y*p.d-p.y<=0);have s2:=mnp hAn (aC:0<=K);have hCn:0<=C:=nnl (aC:0<v.y*p.d-p.y) aC;have s4:=mnn (aC:D<=0) (aC:u.y*q.d-q.y<=0);have s5:=mpn hCn (aC:v.y*q.d-q.y<=0);have hBn:0<=B:=nnl hK aC;grind
def Vj(hp:0<p.d)(hq:0<q.d)(hm:¬gp ⟨u,v⟩ p q)(a:p.y<u.y*p.d)(b:p.y<v.y*p.d)(c:u.y*q.d<=q.y)(d:q.y<v.y*q.d):
  0<ev (lin u v) q↔ev (ln p q) (pt u)<0:=by
 have i1:=Kz u v p q;have i2:=Ky u v p q;have hK:0<q.y*p.d-p.y*q.d:=by have e:q.y*p.d-p.y*q.d=(u.y*p.d-p.y)*q.d-(u.y*q.d-q.y)*p.d:=aH;have:=bJ (aC:0<u.y*p.d-p.y) hq;have:=mnp (aC:u.y*q.d-q.y<=0) (aC:0<=p.d);omega
 have m1:= @BF u v p q;have m2:= @Ee u v p q;generalize ev (lin u v) p=A at*;generalize ev (lin u v) q=B at*;generalize ev (ln p q) (pt u)=C at*;generalize ev (ln p q) (pt v)=D at*;generalize q.y*p.d-p.y*q.d=K at*;constructor
 .intro hB;refine dS λhn=> ?_;have hC:0<=C:=aC;have s1:=bJ hB hK;have s2:=mpp hC (aC:0<=v.y*q.d-q.y);have hD:D<0:=by
   rcases cH D 0 with g|g
   .exact g
   .have:=mpn g (aC:u.y*q.d-q.y<=0);omega
  have s4:=mnp (aC:D<=0) (aC:0<=u.y*p.d-p.y);have s5:=mpp hC (aC:0<=v.y*p.d-p.y);have hA:A<=0:=npl hK aC;grind
 .intro hC;refine dS λhn=> ?_;have hB:B<=0:=aC;have s1:=mnp hB (aC:0<=K);have s3:=mH hC (aC:0<v.y*q.d-q.y);have hD:0<D:=by
   rcases cH 0 D with g|g
   .exact g
   .have:=mnn g (aC:u.y*q.d-q.y<=0);omega
  have s4:=mpp (aC:0<=D) (aC:0<=u.y*p.d-p.y);have s5:=mnp (aC:C<=0) (aC:0<=v.y*p.d-p.y);have hA:0<=A:=nnl hK aC;grind
def mid(hp:0<p.d)(hq:0<q.d)(hm:¬gp ⟨u,v⟩ p q)(a:p.y<u.y*p.d)(b:p.y<v.y*p.d)(c:u.y*q.d<=q.y)(d:v.y*q.d<=q.y):
  ¬(ev (ln p q) (pt u)<0/\0<=ev (ln p q) (pt v)):=by
 rintro⟨hC,hD⟩;have i1:=Kz u v p q;have i2:=Ky u v p q;have hK:0<q.y*p.d-p.y*q.d:=by have e:q.y*p.d-p.y*q.d=(u.y*p.d-p.y)*q.d-(u.y*q.d-q.y)*p.d:=aH;have:=bJ (aC:0<u.y*p.d-p.y) hq;have:=mnp (aC:u.y*q.d-q.y<=0) (aC:0<=p.d);omega
 have m1:= @BF u v p q;generalize ev (lin u v) p=A at*;generalize ev (lin u v) q=B at*;generalize ev (ln p q) (pt u)=C at*;have s1:=mpp hD (aC:0<=u.y*p.d-p.y);have s2:=mnp (aC:C<=0) (aC:0<=v.y*p.d-p.y);have hA:0<=A:=nnl hK aC;have s3:=mpn hD (aC:u.y*q.d-q.y<=0);have s4:=mnn (aC:C<=0) (aC:v.y*q.d-q.y<=0);have hB:B<=0:=npl hK aC;grind
def Tz(hp:0<p.d)(hq:0<q.d)(hm:¬gp ⟨u,v⟩ p q)(a:u.y*p.d<=p.y)(b:p.y<v.y*p.d)(c:u.y*q.d<=q.y)(d:q.y<v.y*q.d):
  (0<ev (lin u v) p↔0<ev (lin u v) q):=by
 have j1:ev (lin u v) p*(q.y-u.y*q.d)-ev (lin u v) q*(p.y-u.y*p.d)= -(ev (ln p q) (pt u))*(v.y-u.y):=by unfold ev ln lin pt;grind
 have j2:ev (lin u v) p*(q.y-v.y*q.d)-ev (lin u v) q*(p.y-v.y*p.d)= -(ev (ln p q) (pt v))*(v.y-u.y):=by unfold ev ln lin pt;grind
 have hv:0<v.y-u.y:=by
  have h1:0<(v.y-u.y)*p.d:=by rw[Int.sub_mul];omega
  rcases cH 0 (v.y-u.y)with g|g
  .exact g
  .have:=mnp g (aC:0<=p.d);omega
 have m1:= @BF u v p q;have m2:= @Ee u v p q;generalize ev (lin u v) p=A at*;generalize ev (lin u v) q=B at*;generalize ev (ln p q) (pt u)=C at*;generalize ev (ln p q) (pt v)=D at*;constructor
 .intro hA;refine dS λhn=> ?_;have hB:B<=0:=aC;have s1:=mpp (aC:0<=A) (aC:0<=q.y-u.y*q.d);have s2:=mnp hB (aC:0<=p.y-u.y*p.d);have hC:0<= -C:=nnl hv aC;have s3:=gr hA (aC:q.y-v.y*q.d<0);have s4:=mnn hB (aC:p.y-v.y*p.d<=0);have hD:0<=D:=nnl hv aH;grind
 .intro hB;refine dS λhn=> ?_;have hA:A<=0:=aC;have s1:=mnp hA (aC:0<=q.y-u.y*q.d);have s2:=mpp (aC:0<=B) (aC:0<=p.y-u.y*p.d);have hC:0<=C:=nnl hv aH;have s3:=mnn hA (aC:q.y-v.y*q.d<=0);have s4:=gr hB (aC:p.y-v.y*p.d<0);have hD:0<= -D:=nnl hv aC;grind
def aDA{r:P3}(hr:0<r.d)(h0:ev (lin u v) r=0)(h:dn r u≠dn r v):∃x y k:Int,0<=x/\0<=y/\0<x+y/\0<=k/\cmb x (pt u) y (pt v)=⟨k*r.x,k*r.y,k*r.d⟩:=by
 unfold dn at h;have hk:∀{a b:Int},a*r.d<b*r.d->0<=b-a:=λ{a b} g=>by have:=nnl (a:=b-a) hr aH;exact this
 unfold ev lin at h0;by_cases h1:u.y*r.d<=r.y<;>by_cases h2:v.y*r.d<=r.y
 .grind
 .refine⟨v.y*r.d-r.y,r.y-u.y*r.d,v.y-u.y,aC,aC,aC,hk aC,?_⟩;unfold cmb pt;grind
 .refine⟨r.y-v.y*r.d,u.y*r.d-r.y,u.y-v.y,aC,aC,aC,hk aC,?_⟩;unfold cmb pt;grind
 grind
def aCh(hp:0<p.d)(hq:0<q.d)(hy:p.y*q.d<=q.y*p.d)(hm:¬gp ⟨u,v⟩ p q):(hit p ⟨u,v⟩ !=hit q ⟨u,v⟩)=(rgt p q u !=rgt p q v):=by
 have mono:∀w:V,dn p w=aE->dn q w=aE:=λw h=>by
  unfold dn at h|-;rw[decide_eq_true_eq]at h|-;have h1:=nJ h (aC:0<=q.d);have h2:(w.y*q.d)*p.d<=q.y*p.d:=by rw[(aH:w.y*q.d*p.d=w.y*p.d*q.d)];omega
  simp_all
 have hm':¬gp ⟨v,u⟩ p q:=λh=>hm h.swap;have dT:∀{r:P3} {w:V},dn r w=aE->w.y*r.d<=r.y:=λh=>of_decide_eq_true h;have dF:∀{r:P3} {w:V},dn r w=aK->r.y<w.y*r.d:=λh=>nL.1 (of_decide_eq_false h);have sw:∀r:P3,(0<ev (lin v u) r↔ev (lin u v) r<0):=λr=>by rw[jf];omega
 have nz:∀r:P3,(r=p\/r=q)->dn r u≠dn r v->ev (lin u v) r≠0:=λr hr hne h0=>by
  obtain⟨x,y,k,h1,h2,h3,h4,h5⟩:=aDA aH h0 hne;rcases hr with rfl|rfl
  .exact hm ⟨x,y,k,0,h1,h2,h3,h4,kY _,by rw[h5];unfold cmb;simp⟩
  .exact hm ⟨x,y,0,k,h1,h2,h3,kY _,h4,by rw[h5];unfold cmb;simp⟩
 unfold hit rgt;cases a:dn p u<;>cases b:dn p v<;>cases c:dn q u<;>cases d:dn q v<;>simp only[LM,Bool.and_false,jq,qW,bne_self_eq_false,oR,u8,u7,yx,yy];all_goals have np:=nz p (.inl rfl)
 all_goals have nq:=nz q (.inr rfl)
 all_goals rw[a,b]at np
 all_goals rw[c,d]at nq
 all_goals have sp:=sw p
 all_goals have sq:=sw q
 case false.false.false.true=>
  have h:=Vj hp hq hm' (dF b) (dF a) (dT d) (dF c);grind
 case false.false.true.false=>
  have h:=Vj hp hq hm (dF a) (dF b) (dT c) (dF d);grind
 case false.false.true.true=>
  have h:=mid hp hq hm (dF a) (dF b) (dT c) (dT d);have h':=mid hp hq hm' (dF b) (dF a) (dT d) (dT c);grind
 case false.true.false.true=>
  have h:=Tz hp hq hm' (dT b) (dF a) (dT d) (dF c);grind
 case true.false.true.false=>
  have h:=Tz hp hq hm (dT a) (dF b) (dT c) (dF d);grind
 case false.true.true.true=>
  have h:=low hp hq hm' (dT b) (dF a) (dT d) (dT c);grind
 case true.false.true.true=>
  have h:=low hp hq hm (dT a) (dF b) (dT c) (dT d);grind
 case false.true.false.false=>grind
 case false.true.true.false=>grind
 case true.false.false.false=>grind
 case true.false.false.true=>grind
 case true.true.false.true=>grind
 grind
def Ol{e:S}(hp:0<p.d)(hq:0<q.d)(hy:p.y*q.d<=q.y*p.d)(hm:¬gp e p q):(hit p e !=hit q e)=(rgt p q e.a !=rgt p q e.b):=aCh hp hq hy hm
end
def cY(r:aU)(p:P3):Bool:=fK ((aW r).map (hit p))
def xm(f g:S->Bool):∀l:List S,fK (l.map λe=>f e !=g e)=(fK (l.map f) !=fK (l.map g))
 |[] =>rfl
 |e::l=>by
  show((f e !=g e) !=fK (l.map λe=>f e !=g e))=((f e !=fK (l.map f)) !=(g e !=fK (l.map g)));rw[xm f g l];cases f e<;>cases g e<;>cases fK (l.map f)<;>cases fK (l.map g)<;>rfl
def xd{r:aU}(h2:2<=aA r){p q:P3}(hp:0<p.d)(hq:0<q.d)(hm:∀e∈aW r,¬gp e p q):cY r p=cY r q:=by
 have key:∀{p q:P3},0<p.d->0<q.d->p.y*q.d<=q.y*p.d->(∀e∈aW r,¬gp e p q)->cY r p=cY r q:=by
  intro p q hp hq hy hm;have h1:fK ((aW r).map λe=>hit p e !=hit q e)=fK ((aW r).map λe=>rgt p q e.a !=rgt p q e.b):=by
   congr 1
   apply lg;intro e he;exact Ol hp hq hy (hm e he)
  rw[xm,xm,Hj h2]at h1;unfold cY;generalize fK ((aW r).map (hit p))=x at*;generalize fK ((aW r).map (hit q))=y at*;cases x<;>cases y<;>simp at h1|-
 rcases yt (p.y*q.d) (q.y*p.d)with h|h
 .grind
 .exact(key hq hp h λe he hm2=>hm e he hm2.flip).symm
def Pq(p:Pt):∀(l:List S) (ins:Bool),tL p l ins=(ins !=fK (l.map λe=>fN e p))
 |[],ins=>by cases ins<;>rfl
 |e::l,ins=>by
  show tL p l (ins !=fN e p)=(ins !=(fN e p !=fK (l.map λe=>fN e p)));rw[Pq p l];simp_all
def RB{p:Pt}:∀{l:List S} {ins:Bool},(∀e∈l,onP e p=aK)->fV p l ins=if tL p l ins then 2 else 0
 |[],ins,_=>rfl
 |e::l,ins,h=>by
  unfold fV;rw[h e aH];exact RB (l:=l) (ins:=ins !=fN e p) aH
def p3(p:Pt):P3:=⟨p.x,p.y,p.den⟩
def Cd{r:aU}(hv:VR r){p:Pt}(hp:dP p=aE)(ho:∀e∈aW r,onP e p=aK):cE r p=if cY r (p3 p)then 2 else 0:=by unfold cE;rw[(ig _).2 hv,hp];show fV p (aW r) aK=_;rw[RB ho,Pq];unfold cY p3;simp only[aCj,u7]
def uV(h p:P3):ev ⟨-h.x,-h.y,-h.d⟩ p= -ev h p:=by unfold ev;grind
def EI(k c:Int)(h p:P3):ev ⟨k*h.x,k*h.y,k*h.d+c⟩ p=k*ev h p+c*p.d:=by unfold ev;grind
def PU{u v:V}{p q:P3}(hp:0<p.d)(hq:0<q.d)(h:P3)(hu:ev h (pt u)=0)(hv:ev h (pt v)=0)(h1:ev h p<0)(h2:ev h q<0):∃f:P3,ev f p<0/\ev f q<0/\0<ev f (pt u)/\0<ev f (pt v):=by
 refine⟨⟨(p.d+q.d)*h.x,(p.d+q.d)*h.y,(p.d+q.d)*h.d+1⟩,?_,?_,?_,?_⟩<;>rw[EI]
 .have:=dg (aC:ev h p<= -1) (aC:0<=p.d+q.d);omega
 .have:=dg (aC:ev h q<= -1) (aC:0<=p.d+q.d);omega
 .rw[hu];show 0<(p.d+q.d)*0+1*1;omega
 .rw[hv];show 0<(p.d+q.d)*0+1*1;omega
def Q9{u v:V}{p q:P3}(hp:0<p.d)(hq:0<q.d)(h:P3)(h1:ev h p=0)(h2:ev h q=0)(hu:0<ev h (pt u))(hv:0<ev h (pt v)):∃f:P3,ev f p<0/\ev f q<0/\0<ev f (pt u)/\0<ev f (pt v):=by
 refine⟨⟨2*h.x,2*h.y,2*h.d+ -1⟩,?_,?_,?_,?_⟩<;>rw[EI]
 .omega
 .omega
 .show 0<2*ev h (pt u)+ -1*1;omega
 .show 0<2*ev h (pt v)+ -1*1;omega
def bG(u v:V):P3:=⟨v.x-u.x,v.y-u.y,-((v.x-u.x)*u.x+(v.y-u.y)*u.y)⟩
def cL(u v:V):Int:=(v.x-u.x)*(v.x-u.x)+(v.y-u.y)*(v.y-u.y)
def mP(u v:V):ev (bG u v) (pt u)=0:=by unfold ev bG pt;grind
def sK(u v:V):ev (bG u v) (pt v)=cL u v:=by unfold ev bG pt cL;grind
def ll(x:Int):0<=x*x:=by
 rcases yt 0 x with h|h
 .exact mpp h h
 .exact mnn h h
def D3{x:Int}(h:x≠0):0<x*x:=by
 rcases mc h with g|g
 .exact yp g g
 .exact bJ g g
def jw{u v:V}(h:u≠v):0<cL u v:=by
 unfold cL;have h1:=ll (v.x-u.x);have h2:=ll (v.y-u.y);by_cases hx:v.x-u.x=0
 .by_cases hy:v.y-u.y=0
  .exfalso;cases u;cases v;grind
  .have:=D3 hy;omega
 .have:=D3 hx;omega
def mr{u v:V}{r:P3}(h:ev (lin u v) r=0):cmb (cL u v*r.d-ev (bG u v) r) (pt u) (ev (bG u v) r) (pt v)=⟨cL u v*r.x,cL u v*r.y,cL u v*r.d⟩:=by unfold ev lin at h;unfold cmb ev bG pt cL;grind
def sep{u v:V}{p q:P3}(hp:0<p.d)(hq:0<q.d)(hne:u≠v)(hm:¬gp ⟨u,v⟩ p q):∃f:P3,ev f p<0/\ev f q<0/\0<ev f (pt u)/\0<ev f (pt v):=by
 have hd:=aHB u v p q;have m1:= @BF u v p q;have m2:= @Ee u v p q;have a1:=cN u v;have a2:=cU u v;have b1:=JI p q;have b2:=Dg p q;have L:=jw hne;have T1:=mP u v;have T2:=sK u v;by_cases c1:0<ev (lin u v) p/\0<ev (lin u v) q
 .exact PU hp hq ⟨-(lin u v).x,-(lin u v).y,-(lin u v).d⟩ (by rw[uV];omega) (by rw[uV];omega) (by rw[uV];omega) (by rw[uV];omega)
 by_cases c2:ev (lin u v) p<0/\ev (lin u v) q<0
 .exact PU hp hq (lin u v) a1 a2 c2.1 c2.2
 by_cases c3:0<ev (ln p q) (pt u)/\0<ev (ln p q) (pt v)
 .exact Q9 hp hq (ln p q) b1 b2 c3.1 c3.2
 by_cases c4:ev (ln p q) (pt u)<0/\ev (ln p q) (pt v)<0
 .exact Q9 hp hq ⟨-(ln p q).x,-(ln p q).y,-(ln p q).d⟩ (by rw[uV];omega) (by rw[uV];omega) (by rw[uV];omega) (by rw[uV];omega)
 have hz:ev (lin u v) p=0/\ev (lin u v) q=0:=by have q1:ev (lin u v) p=0\/0<ev (lin u v) p\/ev (lin u v) p<0:=aC;have q2:ev (lin u v) q=0\/0<ev (lin u v) q\/ev (lin u v) q<0:=aC;have e1:∀{x k:Int},0<k->0<x->0<x*k:=λh1 h2=>bJ h2 h1;have e2:∀{x k:Int},0<k->x<0->x*k<0:=λh1 h2=>mH h2 h1;have p1:= @e1 (ev (lin u v) p) q.d hq;have p2:= @e2 (ev (lin u v) p) q.d hq;have p3:= @e1 (ev (lin u v) q) p.d hp;have p4:= @e2 (ev (lin u v) q) p.d hp;have z1:ev (lin u v) p=0->ev (lin u v) p*q.d=0:=λh=>aH;have z2:ev (lin u v) q=0->ev (lin u v) q*p.d=0:=λh=>aH;have m1:0<=ev (lin u v) p->ev (lin u v) q<=0->0<=ev (ln p q) (pt v)->ev (ln p q) (pt u)<=0->¬ev (ln p q) (pt u)<ev (ln p q) (pt v):=aH;have m2:ev (lin u v) p<=0->0<=ev (lin u v) q->ev (ln p q) (pt v)<=0->0<=ev (ln p q) (pt u)->¬ev (ln p q) (pt v)<ev (ln p q) (pt u):=aH;generalize ev (lin u v) p*q.d=AQ at*;generalize ev (lin u v) q*p.d=BP at*;rcases q1 with h|h|h<;>rcases q2 with g|g|g<;>simp only[h,g,true_implies]at p1 p2 p3 p4 z1 z2<;>omega
 have op:=mr hz.1;have oq:=mr hz.2;generalize hTp:ev (bG u v) p=Tp at*;generalize hTq:ev (bG u v) q=Tq at*;generalize cL u v=K at*;have np:Tp<0\/K*p.d<Tp:=by refine dS λhn=> ?_;have hKp:=bJ L hp;refine hm ⟨_,_,K,0,(aC:0<=K*p.d-Tp),(aC:0<=Tp),aC,aC,aC,?_⟩;rw[op];unfold cmb;simp only[P3.mk.injEq];refine⟨?_,?_,?_⟩<;>omega
 have nq:Tq<0\/K*q.d<Tq:=by refine dS λhn=> ?_;have hKq:=bJ L hq;refine hm ⟨_,_,0,K,(aC:0<=K*q.d-Tq),(aC:0<=Tq),aC,aC,aC,?_⟩;rw[oq];unfold cmb;simp only[P3.mk.injEq];refine⟨?_,?_,?_⟩<;>omega
 have hKp:=bJ L hp;have hKq:=bJ L hq;have nu:¬(Tp<0/\0<Tq)/\¬(0<Tp/\Tq<0):=by
  unfold cmb pt at op oq;simp only[P3.mk.injEq]at op oq;refine⟨λh=> ?_,λh=> ?_⟩
  .have x1:=bJ h.2 hKp;have x2:=mH h.1 hKq;refine hm ⟨Tq*(K*p.d)-Tp*(K*q.d),0,K*Tq,-(K*Tp),aC,aC,aC,mpp aC aC,by rw[<-oU];exact mpp aC aC,?_⟩;unfold cmb pt;grind
  .have x1:=bJ h.1 hKq;have x2:=mH h.2 hKp;refine hm ⟨Tp*(K*q.d)-Tq*(K*p.d),0,-(K*Tq),K*Tp,aC,aC,aC,by rw[<-oU];exact mpp aC aC,mpp aC aC,?_⟩;unfold cmb pt;grind
 have up:0<(p.d+q.d)*K:=aH;by_cases hb:Tp<0
 .refine⟨⟨(p.d+q.d)*(bG u v).x,(p.d+q.d)*(bG u v).y,(p.d+q.d)*(bG u v).d+1⟩,?_,?_,?_,?_⟩<;>rw[EI]
  .rw[hTp];have:=dg (aC:Tp<= -1) (aC:0<=p.d+q.d);omega
  .rw[hTq];have:=dg (aC:Tq<= -1) (aC:0<=p.d+q.d);omega
  .rw[T1];show 0<(p.d+q.d)*0+1*1;omega
  .rw[T2];show 0<(p.d+q.d)*K+1*1;omega
 .have e1:∀r T:Int,(-(p.d+q.d))*T+((p.d+q.d)*K+1)*r=(p.d+q.d)*(K*r-T)+r:=aH;refine⟨⟨-(p.d+q.d)*(bG u v).x,-(p.d+q.d)*(bG u v).y,-(p.d+q.d)*(bG u v).d+((p.d+q.d)*K+1)⟩,?_,?_,?_,?_⟩<;>rw[EI]
  .rw[hTp,e1];have:=dg (aC:K*p.d-Tp<= -1) (aC:0<=p.d+q.d);omega
  .rw[hTq,e1];have:=dg (aC:K*q.d-Tq<= -1) (aC:0<=p.d+q.d);omega
  .rw[T1,e1];show 0<(p.d+q.d)*(K*1-0)+1;grind
  .rw[T2,e1];show 0<(p.d+q.d)*(K*1-K)+1;omega
def iC(F:List P3)(e:S):Prop:=∀x y:Int,0<=x->0<=y->0<x+y->∃f∈F,x*ev f (pt e.a)+y*ev f (pt e.b)<=0
def In(F:List P3)(q:P3):Prop:=0<q.d/\∀f∈F,0<ev f q
variable{e:S}
def iC.no{F:List P3}(h:iC F e){p q:P3}(hp:In F p)(hq:In F q):¬gp e p q:=by
 rintro⟨x,y,s,t,h1,h2,h3,h4,h5,h6⟩;obtain⟨f,hf,g⟩:=h x y h1 h2 h3;have e1:=congrArg (ev f) h6;rw[bB,bB]at e1;have e2:=congrArg P3.d h6;simp only[cmb,pt]at e2;have g1:=mpp h4 (show 0<=ev f p by have:=hp.2 f hf;omega);have g2:=mpp h5 (show 0<=ev f q by have:=hq.2 f hf;omega);rcases cH 0 s with k|k
 .have:=bJ k (hp.2 f hf);omega
 .rcases cH 0 t with k2|k2
  .have:=bJ k2 (hq.2 f hf);omega
  grind
def iC.swap{F:List P3}(h:iC F e):iC F ⟨e.b,e.a⟩:=λx y h1 h2 h3=>by obtain⟨f,hf,g⟩:=h y x h2 h1 aC;grind
def pC(a b:V)(N:Int):P3:=⟨(bG a b).x-N*(lin a b).x,(bG a b).y-N*(lin a b).y,(bG a b).d-N*(lin a b).d⟩
def thin(a b:V)(N:Int):List P3:=[lin a b,pC a b N,⟨(bG b a).x-N*(lin a b).x,(bG b a).y-N*(lin a b).y,(bG b a).d-N*(lin a b).d⟩]
def nZ(a b:V)(N:Int)(q:P3):ev (pC a b N) q=ev (bG a b) q-N*ev (lin a b) q:=by unfold ev pC;grind
def qm(a b:V)(N:Int)(q:P3):ev ⟨(bG b a).x-N*(lin a b).x,(bG b a).y-N*(lin a b).y,(bG b a).d-N*(lin a b).d⟩ q=ev (bG b a) q-N*ev (lin a b) q:=by unfold ev;grind
def n7{a b:V}{N:Int}{q:P3}:In (thin a b N) q↔0<q.d/\0<ev (lin a b) q/\N*ev (lin a b) q<ev (bG a b) q/\N*ev (lin a b) q<ev (bG b a) q:=by unfold In thin;simp only[bO,cp,or_false,forall_eq_or_imp,forall_eq,nZ,qm];omega
def Off(a b:V)(e:S):Prop:=e.a≠e.b/\(¬gp e (pt a) (pt b)\/(e.a=a/\(ev (lin a b) (pt e.b)≠0\/ev (bG a b) (pt e.b)<0))\/(e.b=a/\(ev (lin a b) (pt e.a)≠0\/ev (bG a b) (pt e.a)<0))\/
 (e.a=b/\(ev (lin a b) (pt e.b)≠0\/ev (bG b a) (pt e.b)<0))\/(e.b=b/\(ev (lin a b) (pt e.a)≠0\/ev (bG b a) (pt e.a)<0)))
def frame(a b:V)(f q:P3):cL a b*ev f q=ev (bG b a) q*ev f (pt a)+ev (bG a b) q*ev f (pt b)+ev (lin a b) q*(f.y*(b.x-a.x)-f.x*(b.y-a.y)):=by unfold ev bG cL lin pt;grind
def JH{F:List P3}(h:∀x y:Int,0<=x->0<=y->0<x+y->(∀f∈F,0<x*ev f (pt e.a)+y*ev f (pt e.b))->False):iC F e:=λx y h1 h2 h3=>
 aH
def aBd{a b:V}(hne:a≠b)(he:e.a≠e.b)(h:¬gp e (pt a) (pt b)):∃N0:Int,∀N,N0<=N->iC (thin a b N) e:=by
 obtain⟨f,f1,f2,f3,f4⟩:=sep (u:=e.a) (v:=e.b) (p:=pt a) (q:=pt b) (bg:(0:Int)<1) (bg:(0:Int)<1) he h;refine⟨(f.y*(b.x-a.x)-f.x*(b.y-a.y)).natAbs,λN hN=>JH λx y h1 h2 h3 hq=> ?_⟩;have hL:=jw hne;have e1:∀g:P3,x*ev g (pt e.a)+y*ev g (pt e.b)=ev g (cmb x (pt e.a) y (pt e.b)):=λg=>(bB _ _ _ _ _).symm;have hfq:0<ev f (cmb x (pt e.a) y (pt e.b)):=by
  rw[<-e1];have g1:=mpp h1 (aC:0<=ev f (pt e.a));have g2:=mpp h2 (aC:0<=ev f (pt e.b));rcases cH 0 x with k|k
  .have:=bJ k f3;omega
  .have:=bJ (aC:0<y) f4;omega
 have hT:In (thin a b N) (cmb x (pt e.a) y (pt e.b)):=⟨by simp only[cmb,pt];omega,aH⟩;obtain⟨_,t1,t2,t3⟩:=n7.1 hT;have hF:=frame a b f (cmb x (pt e.a) y (pt e.b));generalize ev (lin a b) (cmb x (pt e.a) y (pt e.b))=X at*;generalize ev (bG a b) (cmb x (pt e.a) y (pt e.b))=T at*;generalize ev (bG b a) (cmb x (pt e.a) y (pt e.b))=T' at*;generalize f.y*(b.x-a.x)-f.x*(b.y-a.y)=c at*;have p1:=bJ hL hfq;have hN0:0<=N*X:=mpp aC aC;have p2:T'*ev f (pt a)<= -T':=by have:=dg (aC:ev f (pt a)<= -1) (aC:0<=T');omega
 have p3:T*ev f (pt b)<= -T:=by have:=dg (aC:ev f (pt b)<= -1) (aC:0<=T);omega
 have p4:X*c<=N*X:=by rw[gu N];exact dg aC aC
 omega
def JX{a b:V}(h:e.a=a):∃N0:Int,∀N,N0<=N->iC (thin a b N) e:=by
 refine⟨(ev (bG a b) (pt e.b)).natAbs,λN hN x y h1 h2 h3=> ?_⟩;rw[h];by_cases hX:0<y*ev (lin a b) (pt e.b)
 .refine⟨pC a b N,by simp[thin],?_⟩;have hv:0<ev (lin a b) (pt e.b):=by
   rcases cH 0 (ev (lin a b) (pt e.b))with k|k
   .exact k
   .have:=mpn h2 k;omega
  rw[nZ,nZ,mP,cN];have k1:=dg (aC:1<=ev (lin a b) (pt e.b)) (aC:0<=N);have k2:=mpn h2 (aC:ev (bG a b) (pt e.b)-N*ev (lin a b) (pt e.b)<=0);omega
 .refine⟨lin a b,by simp[thin],?_⟩;rw[cN];omega
def JW{a b:V}(h:e.a=b):∃N0:Int,∀N,N0<=N->iC (thin a b N) e:=by
 refine⟨(ev (bG b a) (pt e.b)).natAbs,λN hN x y h1 h2 h3=> ?_⟩;rw[h];by_cases hX:0<y*ev (lin a b) (pt e.b)
 .refine⟨⟨(bG b a).x-N*(lin a b).x,(bG b a).y-N*(lin a b).y,(bG b a).d-N*(lin a b).d⟩,by simp[thin],?_⟩;have hv:0<ev (lin a b) (pt e.b):=by
   rcases cH 0 (ev (lin a b) (pt e.b))with k|k
   .exact k
   .have:=mpn h2 k;omega
  rw[qm,qm,mP,cU];have k1:=dg (aC:1<=ev (lin a b) (pt e.b)) (aC:0<=N);have k2:=mpn h2 (aC:ev (bG b a) (pt e.b)-N*ev (lin a b) (pt e.b)<=0);omega
 .refine⟨lin a b,by simp[thin],?_⟩;rw[cU];omega
def aBe{a b:V}(hne:a≠b)(h:Off a b e\/(e.a=a/\e.b=b)\/(e.a=b/\e.b=a)):∃N0:Int,∀N,N0<=N->iC (thin a b N) e:=by
 have sw:(∃N0:Int,∀N,N0<=N->iC (thin a b N) ⟨e.b,e.a⟩)->∃N0:Int,∀N,N0<=N->iC (thin a b N) e:=λ⟨N0,h⟩=>⟨N0,λN hN=>(h N hN).swap⟩;rcases h with⟨h0,h|h|h|h|h⟩|h|h
 .exact aBd hne h0 h
 .exact JX h.1
 .exact sw (JX (e:=⟨e.b,e.a⟩) h.1)
 .exact JW h.1
 .exact sw (JW (e:=⟨e.b,e.a⟩) h.1)
 .exact JX h.1
 .exact JW h.1
def PJ{a b:V}(hne:a≠b):∀{l:List S},(∀e∈l,Off a b e\/(e.a=a/\e.b=b)\/(e.a=b/\e.b=a))->∃N0:Int,1<=N0/\∀N,N0<=N->∀e∈l,iC (thin a b N) e
 |[],_=>⟨1,aC,aH⟩
 |e::l,h=>by
  obtain⟨N0,h0,h1⟩:=PJ hne (l:=l) aH;obtain⟨N1,h2⟩:=aBe hne (h e cR);refine⟨max N0 N1,aC,λN hN e' he=> ?_⟩;grind
def dR(a b:V)(M x y:Int):P3:=⟨M*(a.x+b.x)+x,M*(a.y+b.y)+y,2*M⟩
def Gl(a b:V)(M x y:Int):ev (lin a b) (dR a b M x y)=(b.x-a.x)*y-(b.y-a.y)*x:=by unfold ev lin dR;grind
def aCM(a b:V)(M x y:Int):ev (bG a b) (dR a b M x y)=M*cL a b+((b.x-a.x)*x+(b.y-a.y)*y):=by unfold ev bG dR cL;grind
def aCL(a b:V)(M x y:Int):ev (bG b a) (dR a b M x y)=M*cL a b-((b.x-a.x)*x+(b.y-a.y)*y):=by unfold ev bG dR cL;grind
def Cv(a b:V):cL b a=cL a b:=by unfold cL;grind
def GR(a b:V)(M x y:Int):dR b a M x y=dR a b M x y:=by unfold dR;grind
def qg{a b:V}(hne:a≠b){x y:Int}(h:0<(b.x-a.x)*y-(b.y-a.y)*x)(N:Int):∃M0:Int,1<=M0/\∀M,M0<=M->In (thin a b N) (dR a b M x y):=by have hL:=jw hne;refine⟨1+(N*((b.x-a.x)*y-(b.y-a.y)*x)).natAbs+((b.x-a.x)*x+(b.y-a.y)*y).natAbs,aC,λM hM=> ?_⟩;rw[n7,Gl,aCM,aCL];have:=dg (aC:1<=cL a b) (aC:0<=M);refine⟨by show 0<2*M;omega,h,?_,?_⟩<;>omega
def Qh{g:S->Bool}{e:S}:∀{l:List S},l.Nodup->e∈l->g e=aE->(∀e'∈l,e'≠e->g e'=aK)->fK (l.map g)=aE
 |[],_,h,_,_=>by cases h
 |x::l,hn,h,h1,h2=>by
  rw[List.nodup_cons]at hn;have h0:∀{l:List S},(∀e'∈l,g e'=aK)->fK (l.map g)=aK:=by
   intro l;induction l with
   |nil=>intro _;rfl
   |cons y l ih=>
    intro hh;show(g y !=fK (l.map g))=aK;grind
  show(g x !=fK (l.map g))=aE;rcases bO.1 h with rfl|h
  .grind
  .rw[h2 x aH aH,Qh hn.2 h h1 aH];rfl
def aAH{a b:V}{N:Int}(hN:0<=N)(ho:Off a b e)(h1:iC (thin a b N) e)(h2:iC (thin b a N) e){p q:P3}(hp:In (thin b a N) p)(hq:In (thin a b N) q):¬gp e p q:=by
 rintro⟨x,y,s,t,hx,hy,hxy,hs,ht,he⟩;obtain⟨p0,p1,p2,p3⟩:=n7.1 hp;obtain⟨q0,q1,q2,q3⟩:=n7.1 hq;have lsw:∀r:P3,ev (lin b a) r= -ev (lin a b) r:=λr=>jf a b r;rw[lsw]at p1 p2 p3;have ed:=congrArg P3.d he;simp only[cmb,pt]at ed;have eX:=congrArg (ev (lin a b)) he;have eA:=congrArg (ev (bG a b)) he;have eB:=congrArg (ev (bG b a)) he;rw[bB,bB]at eX eA eB;have hst:0<s\/0<t:=by refine dS λhn=> ?_;have:s=0:=aC;have:t=0:=aC;subst s t;omega
 have kpos:∀{u v:Int},0<u->0<v->0<s*u+t*v:=λ{u v} hu hv=>by
  have g1:=mpp hs (aC:0<=u);have g2:=mpp ht (aC:0<=v);rcases hst with k|k
  .have:=bJ k hu;omega
  .have:=bJ k hv;omega
 have nX:N*(-(ev (lin a b) p))= -(N*ev (lin a b) p):=by rw[oU]
 have nn:0<=N* -(ev (lin a b) p):=mpp hN aC;have nq:0<=N*ev (lin a b) q:=mpp hN aC;have hA:=kpos (u:=ev (bG a b) p) (v:=ev (bG a b) q) aC aC;have hB:=kpos (u:=ev (bG b a) p) (v:=ev (bG b a) q) aC aC;have hA1:=kpos (u:=ev (bG a b) p-N*ev (lin a b) p) (v:=ev (bG a b) q-N*ev (lin a b) q) aC aC;have hB1:=kpos (u:=ev (bG b a) p-N*ev (lin a b) p) (v:=ev (bG b a) q-N*ev (lin a b) q) aC aC;have hA2:=kpos (u:=ev (bG a b) p+N*ev (lin a b) p) (v:=ev (bG a b) q+N*ev (lin a b) q) aC aC;have hB2:=kpos (u:=ev (bG b a) p+N*ev (lin a b) p) (v:=ev (bG b a) q+N*ev (lin a b) q) aC aC;have z1:∀(g:P3),x*ev g (pt e.a)+y*ev g (pt e.b)=s*ev g p+t*ev g q:=λg=>by have:=congrArg (ev g) he;rw[bB,bB]at this;exact this
 rcases pX (x*ev (lin a b) (pt e.a)+y*ev (lin a b) (pt e.b)) 0 with hX|hX|hX
 .obtain⟨f,hf,g⟩:=h2 x y hx hy hxy;rw[z1]at g;simp only[thin,bO,cp,or_false]at hf;rcases hf with rfl|rfl|rfl
  .rw[lsw,lsw,oU,oU]at g;omega
  .rw[nZ,nZ,lsw,lsw,oU,oU,LP,LP]at g;omega
  .rw[qm,qm,lsw,lsw,oU,oU,LP,LP]at g;omega
 .rcases ho with⟨_,h|⟨h,g⟩|⟨h,g⟩|⟨h,g⟩|⟨h,g⟩⟩
  .have hne:a≠b:=aH;have hL:=jw hne;have hz:ev (lin a b) (cmb x (pt e.a) y (pt e.b))=0:=by rw[bB];exact hX
   have oz:=mr hz;have hab:ev (bG b a) (cmb x (pt e.a) y (pt e.b))=cL a b*(cmb x (pt e.a) y (pt e.b)).d-ev (bG a b) (cmb x (pt e.a) y (pt e.b)):=by unfold ev bG cL;grind
   rw[bB,eB]at hab;rw[bB,eA]at oz hab;refine h ⟨cL a b*x,cL a b*y,cL a b*(cmb x (pt e.a) y (pt e.b)).d-(s*ev (bG a b) p+t*ev (bG a b) q),s*ev (bG a b) p+t*ev (bG a b) q,mpp aC hx,mpp aC hy,by have:=bJ hL hxy;grind,aC,aC,?_⟩;rw[oz];unfold cmb;grind
  .rw[h,cN]at hX;rw[h,mP]at eA;have hy0:0<y:=by
    rcases cH 0 y with k|k
    .exact k
    .grind
   have hv:ev (lin a b) (pt e.b)=0:=by
    have:y*ev (lin a b) (pt e.b)=0:=aC;rcases dI.1 this with k|k
    .omega
    .exact k
   have:=gr hy0 (aC:ev (bG a b) (pt e.b)<0);omega
  .rw[h,cN]at hX;rw[h,mP]at eA;have hy0:0<x:=by
    rcases cH 0 x with k|k
    .exact k
    .grind
   have hv:ev (lin a b) (pt e.a)=0:=by
    have:x*ev (lin a b) (pt e.a)=0:=aC;rcases dI.1 this with k|k
    .omega
    .exact k
   have:=gr hy0 (aC:ev (bG a b) (pt e.a)<0);omega
  .rw[h,cU]at hX;rw[h,mP]at eB;have hy0:0<y:=by
    rcases cH 0 y with k|k
    .exact k
    .grind
   have hv:ev (lin a b) (pt e.b)=0:=by
    have:y*ev (lin a b) (pt e.b)=0:=aC;rcases dI.1 this with k|k
    .omega
    .exact k
   have:=gr hy0 (aC:ev (bG b a) (pt e.b)<0);omega
  .rw[h,cU]at hX;rw[h,mP]at eB;have hy0:0<x:=by
    rcases cH 0 x with k|k
    .exact k
    .grind
   have hv:ev (lin a b) (pt e.a)=0:=by
    have:x*ev (lin a b) (pt e.a)=0:=aC;rcases dI.1 this with k|k
    .omega
    .exact k
   have:=gr hy0 (aC:ev (bG b a) (pt e.a)<0);omega
 .obtain⟨f,hf,g⟩:=h1 x y hx hy hxy;rw[z1]at g;simp only[thin,bO,cp,or_false]at hf;rcases hf with rfl|rfl|rfl
  .omega
  .rw[nZ,nZ]at g;omega
  .rw[qm,qm]at g;omega
def flip{r:aU}(h2:2<=aA r)(hn:(aW r).Nodup){a b:V}(hne:a≠b)(he:(⟨a,b⟩:S)∈aW r){N:Int}(hN:0<=N)
  (ho:∀e∈aW r,e≠⟨a,b⟩->Off a b e/\iC (thin a b N) e/\iC (thin b a N) e):∃p q:P3,In (thin b a N) p/\In (thin a b N) q/\cY r p≠cY r q:=by
 have sum:∀{p q:P3},0<p.d->0<q.d->p.y*q.d<=q.y*p.d->(∀e∈aW r,e≠⟨a,b⟩->¬gp e p q)->((hit p ⟨a,b⟩ !=hit q ⟨a,b⟩) !=(rgt p q a !=rgt p q b))=aE->cY r p≠cY r q:=by
  intro p q hp hq hy hm hab;have h1:=Qh (g:=λe=>(hit p e !=hit q e) !=(rgt p q e.a !=rgt p q e.b)) hn he hab λe he hne=>by rw[Ol hp hq hy (hm e he hne)];grind
  rw[xm,xm,xm,Hj h2]at h1;unfold cY;generalize fK ((aW r).map (hit p))=x at*;generalize fK ((aW r).map (hit q))=y at*;cases x<;>cases y<;>simp at h1|-
 have off:∀{p q:P3},In (thin b a N) p->In (thin a b N) q->∀e∈aW r,e≠⟨a,b⟩->¬gp e p q:=λhp hq e he hne=>aAH hN (ho e he hne).1 (ho e he hne).2.1 (ho e he hne).2.2 hp hq;have hdn:∀(M x y:Int) (w:V),dn (dR a b M x y) w=decide (w.y*(2*M)<=M*(a.y+b.y)+y):=λ_ _ _ _=>rfl;have hln:∀(M:Int) (w:V),ev (ln (dR a b M 0 (-1)) (dR a b M 0 1)) (pt w)=2*M*(a.x+b.x-2*w.x):=λM w=>by unfold ev ln dR pt;grind
 have horiz:∀M:Int,1<=M->a.y=b.y->a.x≠b.x->((hit (dR a b M 0 (-1)) ⟨a,b⟩ !=hit (dR a b M 0 1) ⟨a,b⟩) !=(rgt (dR a b M 0 (-1)) (dR a b M 0 1) a !=rgt (dR a b M 0 (-1)) (dR a b M 0 1) b))=aE:=by
  intro M hM hy hx;have e1:M*(a.y+b.y)=a.y*(2*M):=by rw[<-hy];grind
  have e2:M*(a.y+b.y)=b.y*(2*M):=by rw[hy];grind
  have a1:dn (dR a b M 0 (-1)) a=aK:=by rw[hdn];grind
  have a2:dn (dR a b M 0 (-1)) b=aK:=by rw[hdn];grind
  have a3:dn (dR a b M 0 1) a=aE:=by rw[hdn];grind
  have a4:dn (dR a b M 0 1) b=aE:=by rw[hdn];grind
  unfold hit rgt;dsimp only;rw[a1,a2,a3,a4,hln,hln];rcases mc hx with hx|hx
  .have p1:=bJ (aC:0<2*M) (aC:0<a.x+b.x-2*a.x);grind
  .have p1:=gr (aC:0<2*M) (aC:a.x+b.x-2*a.x<0);grind
 have ydec:∀M:Int,1<=M->(dR a b M 0 (-1)).y*(dR a b M 0 1).d<=(dR a b M 0 1).y*(dR a b M 0 (-1)).d:=λM hM=>by unfold dR;grind
 have vert:∀M x:Int,1<=M->a.y≠b.y->0<(b.x-a.x)*0-(b.y-a.y)*x->((hit (dR a b M (-x) 0) ⟨a,b⟩ !=hit (dR a b M x 0) ⟨a,b⟩) !=(rgt (dR a b M (-x) 0) (dR a b M x 0) a !=rgt (dR a b M (-x) 0) (dR a b M x 0) b))=aE:=by
  intro M x hM hy hx;have hne':dn (dR a b M x 0) a≠dn (dR a b M x 0) b:=by
   rw[hdn,hdn];have e1:M*(a.y+b.y)-a.y*(2*M)=M*(b.y-a.y):=aH;have e2:M*(a.y+b.y)-b.y*(2*M)=M*(a.y-b.y):=aH;rcases mc hy with h|h
   .have p1:=bJ (aC:0<M) (aC:0<b.y-a.y);grind
   .have p1:=gr (aC:0<M) (aC:b.y-a.y<0);grind
  have same:∀w,dn (dR a b M (-x) 0) w=dn (dR a b M x 0) w:=λw=>by rw[hdn,hdn]
  unfold hit rgt;dsimp only;rw[same,same,Gl,Gl];rw[decide_eq_true hx,decide_eq_false aH];revert hne';cases dn (dR a b M x 0) a<;>cases dn (dR a b M x 0) b<;>simp
 have hne2:b≠a:=aH;by_cases hy:a.y=b.y
 .have hx:a.x≠b.x:=λhx=>hne (by cases a;simp_all);rcases mc hx with hx'|hx'
  .obtain⟨M0,hM,hI⟩:=qg hne (x:=0) (y:=1) aC N;obtain⟨M1,hM1,hI1⟩:=qg hne2 (x:=0) (y:= -1) aC N;have i1:=hI (max M0 M1) aC;have i2:=hI1 (max M0 M1) aC;rw[GR]at i2;exact⟨_,_,i2,i1,sum i2.1 i1.1 (ydec _ aC) (off i2 i1) (horiz _ aC hy hx)⟩
  .obtain⟨M0,hM,hI⟩:=qg hne (x:=0) (y:= -1) aC N;obtain⟨M1,hM1,hI1⟩:=qg hne2 (x:=0) (y:=1) aC N;have i1:=hI (max M0 M1) aC;have i2:=hI1 (max M0 M1) aC;rw[GR]at i2;exact⟨_,_,i2,i1,λh=>sum i1.1 i2.1 (ydec _ aC) (λe he hne hm=>off i2 i1 e he hne hm.flip) (horiz _ aC hy hx) h.symm⟩
 .have go:∀x:Int,0<(b.x-a.x)*0-(b.y-a.y)*x->∃p q:P3,In (thin b a N) p/\In (thin a b N) q/\cY r p≠cY r q:=by intro x hx;obtain⟨M0,hM,hI⟩:=qg hne (x:=x) (y:=0) hx N;obtain⟨M1,hM1,hI1⟩:=qg hne2 (x:= -x) (y:=0) aH N;have i1:=hI (max M0 M1) aC;have i2:=hI1 (max M0 M1) aC;rw[GR]at i2;exact⟨_,_,i2,i1,sum i2.1 i1.1 (kY _) (off i2 i1) (vert _ _ aC hy hx)⟩
  rcases mc hy with h|h
  .exact go (-1) aC
  .exact go 1 aC
end Geo
namespace Geo
structure Net(W:List V)(side:V->V->Prop):Prop where
 symm:∀{a b},side a b->side b a
 ne:∀{a b},side a b->a≠b
 mem:∀{a b},side a b->a∈W
 clear:∀{a b v},side a b->v∈W->∀s t k:Int,0<=s->0<=t->cmb s (pt a) t (pt b)=cmb k (pt v) 0 (pt v)->0<k->v=a\/v=b
 apart:∀{a b c d},side a b->side c d->∀x y s t:Int,0<x->0<y->0<s->0<t->cmb x (pt a) y (pt b)=cmb s (pt c) t (pt d)->(a=c/\b=d)\/(a=d/\b=c)
def ng(x y:Int)(p q:P3):cmb x p y q=cmb y q x p:=by unfold cmb;grind
def yb{F G z g:P3}(h1:0<ev F z)(h2:0<ev G z)(h:ev F g<0\/ev G g<0):
  ∃s t:Int,0<s/\0<t/\((ev F (cmb s z t g)=0/\0<=ev G (cmb s z t g))\/(ev G (cmb s z t g)=0/\0<=ev F (cmb s z t g))):=by
 have i1:ev F (cmb (-(ev F g)) z (ev F z) g)=0:=by rw[bB,oV,gu];omega
 have i2:ev G (cmb (-(ev G g)) z (ev G z) g)=0:=by rw[bB,oV,gu];omega
 have i3:ev G (cmb (-(ev F g)) z (ev F z) g)= -ev F (cmb (-(ev G g)) z (ev G z) g):=by rw[bB,bB,oV,oV,gu (ev F z),gu (ev G z)];rw[gu (ev F g),gu (ev G g)];omega
 by_cases hF:ev F g<0
 .by_cases hG:0<=ev G (cmb (-(ev F g)) z (ev F z) g)
  .grind
  .have hg:ev G g<0:=by rw[bB]at hG;refine nL.1 λhn=>hG ?_;have:=mpp (aC:0<= -(ev F g)) (aC:0<=ev G z);have:=mpp (aC:0<=ev F z) hn;omega
   grind
 .refine⟨_,_,aC,h2,.inr ⟨i2,?_⟩⟩;rw[bB];have:=mpp (aC:0<= -(ev G g)) (aC:0<=ev F z);have:=mpp (aC:0<=ev G z) (aC:0<=ev F g);omega
def Vt(a b c:V)(f q:P3):ev (lin a b) (pt c)*ev f q=ev (lin b c) q*ev f (pt a)+ev (lin c a) q*ev f (pt b)+ev (lin a b) q*ev f (pt c):=by unfold ev lin pt;grind
def IY(a b c:V)(q:P3):ev (lin a b) (pt c)*q.d=ev (lin b c) q+ev (lin c a) q+ev (lin a b) q:=by unfold ev lin pt;grind
def sJ{a b c:V}{q:P3}(h:ev (lin a b) q=0):cmb (ev (lin b c) q) (pt a) (ev (lin c a) q) (pt b)=⟨ev (lin a b) (pt c)*q.x,ev (lin a b) (pt c)*q.y,ev (lin a b) (pt c)*q.d⟩:=by unfold ev lin at h;unfold cmb ev lin pt;grind
def ik(a b c:V):ev (lin b c) (pt a)=ev (lin a b) (pt c):=by unfold ev lin pt;grind
def xh{a b:V}{s t:Int}(ht:0<t)(h:cmb s (pt a) t (pt b)=cmb (s+t) (pt a) 0 (pt a)):b=a:=by unfold cmb pt at h;simp only[P3.mk.injEq]at h;have e1:t*(b.x-a.x)=0:=aH;have e2:t*(b.y-a.y)=0:=aH;cases a;cases b;rcases dI.1 e1 with k|k<;>rcases dI.1 e2 with k2|k2<;>first|omega|grind
section
variable {W:List V} {side:V->V->Prop}
def Net.same(H:Net W side){a b u v:V}(hab:side a b)(huv:side u v){x y s t:Int}(hx:0<x)(hy:0<y)(hs:0<=s)(ht:0<=t)(h:cmb x (pt u) y (pt v)=cmb s (pt a) t (pt b)):
  (u=a/\v=b)\/(u=b/\v=a):=by
 have hd:=congrArg P3.d h;simp only[cmb,pt]at hd;rcases cH 0 s with hs'|hs'
 .rcases cH 0 t with ht'|ht'
  .exact H.apart huv hab x y s t hx hy hs' ht' h
  .have t0:t=0:=aC;subst t0;have h':cmb x (pt u) y (pt v)=cmb s (pt a) 0 (pt a):=by rw[h];unfold cmb;simp
   rcases H.clear huv (H.mem hab) x y s aC aC h' hs' with e|e
   .exfalso;subst e;have:=xh (a:=a) (b:=v) (s:=x) hy aH;exact H.ne huv this.symm
   .exfalso;subst e;have:=xh (a:=a) (b:=u) (s:=y) hx (by rw[ng,h'];grind);exact H.ne huv this
 .have s0:s=0:=aC;subst s0;have h':cmb x (pt u) y (pt v)=cmb t (pt b) 0 (pt b):=by rw[h];unfold cmb;simp
  rcases H.clear huv (H.mem (H.symm hab)) x y t aC aC h' aC with e|e
  .exfalso;subst e;have:=xh (a:=b) (b:=v) (s:=x) hy aH;exact H.ne huv this.symm
  .exfalso;subst e;have:=xh (a:=b) (b:=u) (s:=y) hx (by rw[ng,h'];grind);exact H.ne huv this
structure Corner(W:List V)(side:V->V->Prop)(a b c:V)(h:Int):Prop where
 ab:side a b
 ac:side a c
 left:0<ev (lin a b) (pt c)
 none:∀x,side a x->¬(0<ev (lin a b) (pt x)/\0<ev (lin c a) (pt x))
 low:0<=h
 top:∀w∈W,w≠a->0<=ev (lin a b) (pt w)->0<=ev (lin c a) (pt w)->ev (lin b c) (pt w)<=h
def over(b c:V)(h:Int):P3:=⟨(lin b c).x,(lin b c).y,(lin b c).d-h⟩
def n8(b c:V)(h:Int)(q:P3):ev (over b c h) q=ev (lin b c) q-h*q.d:=by unfold ev over;grind
def Corner.free(H:Net W side){a b c:V}{h:Int}(K:Corner W side a b c h){u v:V}(huv:side u v):iC [lin a b,lin c a,over b c h] ⟨u,v⟩:=by
 have key:∀{u v:V},side u v->∀x y:Int,0<=x->0<=y->0<x+y->0<ev (lin a b) (cmb x (pt u) y (pt v))->0<ev (lin c a) (cmb x (pt u) y (pt v))->0<ev (over b c h) (cmb x (pt u) y (pt v))->0<ev (over b c h) (pt u)->0<x->False:=by
  intro u v huv x y hx hy hxy h1 h2 h3 h4 hx0;have hη:0<ev (lin b c) (pt u):=by rw[n8]at h4;have:=K.low;simp only[pt]at h4|-;omega
  by_cases hin:0<=ev (lin a b) (pt u)/\0<=ev (lin c a) (pt u)
  .by_cases hua:u=a
   .subst hua;have:=K.none v huv;rw[bB,cN]at h1;rw[bB,cU]at h2;refine this ⟨?_,?_⟩
    .rcases cH 0 (ev (lin u b) (pt v))with g|g
     .exact g
     .have:=mpn hy g;omega
    .rcases cH 0 (ev (lin c u) (pt v))with g|g
     .exact g
     .have:=mpn hy g;omega
   .have:=K.top u (H.mem huv) hua hin.1 hin.2;rw[n8]at h4;simp only[pt]at h4 this;omega
  .obtain⟨s,t,hs,ht,hp⟩:=yb (F:=lin a b) (G:=lin c a) (z:=cmb x (pt u) y (pt v)) (g:=pt u) h1 h2 aC;have hover:0<ev (over b c h) (cmb s (cmb x (pt u) y (pt v)) t (pt u)):=by rw[bB];have:=bJ hs h3;have:=bJ ht h4;omega
   have hd:0<(cmb s (cmb x (pt u) y (pt v)) t (pt u)).d:=by simp only[cmb,pt];have:=bJ hs hxy;grind
   have hη2:0<ev (lin b c) (cmb s (cmb x (pt u) y (pt v)) t (pt u)):=by rw[n8]at hover;have:=mpp K.low (aC:0<=(cmb s (cmb x (pt u) y (pt v)) t (pt u)).d);omega
   have hy0:0<y:=by
    rcases cH 0 y with g|g
    .exact g
    .have:y=0:=aC;subst y;rw[bB]at h1 h2;exfalso;apply hin;refine⟨?_,?_⟩
     .rcases cH (ev (lin a b) (pt u)) 0 with g|g
      .have:=gr hx0 g;omega
      .exact g
     .rcases cH (ev (lin c a) (pt u)) 0 with g|g
      .have:=gr hx0 g;omega
      .exact g
   have exp:cmb s (cmb x (pt u) y (pt v)) t (pt u)=cmb (s*x+t) (pt u) (s*y) (pt v):=by unfold cmb;simp only[P3.mk.injEq];refine⟨?_,?_,?_⟩<;>grind
   have w1:0<s*x+t:=by have:=bJ hs hx0;omega
   have w2:0<s*y:=bJ hs hy0;rw[exp]at hp hη2;have D:=K.left;have sc:∀{q:P3} {p1 p2:V} {m n:Int},cmb m (pt p1) n (pt p2)=⟨ev (lin a b) (pt c)*q.x,ev (lin a b) (pt c)*q.y,ev (lin a b) (pt c)*q.d⟩->∀{X Y:Int},q=cmb X (pt u) Y (pt v)->cmb (ev (lin a b) (pt c)*X) (pt u) (ev (lin a b) (pt c)*Y) (pt v)=cmb m (pt p1) n (pt p2):=by intro q p1 p2 m n hq X Y hXY;rw[hq,hXY];unfold cmb;simp only[P3.mk.injEq];refine⟨?_,?_,?_⟩<;>grind
   rcases hp with⟨g1,g2⟩|⟨g1,g2⟩
   .have:=sc (sJ (c:=c) g1) rfl;rcases H.same K.ab huv (bJ D w1) (bJ D w2) aC g2 this with⟨rfl,rfl⟩|⟨rfl,rfl⟩
    .rw[bB,cN,cU]at h1;omega
    .rw[bB,cN,cU]at h1;omega
   .have e0:ev (lin c a) (pt b)=ev (lin a b) (pt c):=(ik b c a).symm▸by rw[ik]
    have:=sJ (a:=c) (b:=a) (c:=b) g1;rw[e0]at this;have:=sc this rfl;rcases H.same (H.symm K.ac) huv (bJ D w1) (bJ D w2) g2 aC this with⟨rfl,rfl⟩|⟨rfl,rfl⟩
    .rw[bB,cN,cU]at h2;omega
    .rw[bB,cN,cU]at h2;omega
 refine JH λx y hx hy hxy hq=> ?_;have e1:∀g:P3,x*ev g (pt u)+y*ev g (pt v)=ev g (cmb x (pt u) y (pt v)):=λg=>(bB _ _ _ _ _).symm;simp only[bO,cp,or_false,forall_eq_or_imp,forall_eq,e1]at hq;obtain⟨h1,h2,h3⟩:=hq;have h3':=h3;rw[bB]at h3';by_cases hu:0<x*ev (over b c h) (pt u)
 .have hx0:0<x:=by
   rcases cH 0 x with g|g
   .exact g
   .grind
  refine key huv x y hx hy hxy h1 h2 h3 ?_ hx0;rcases cH 0 (ev (over b c h) (pt u))with g|g
  .exact g
  .have:=mpn hx g;omega
 .have hy0:0<y:=by
   rcases cH 0 y with g|g
   .exact g
   .grind
  rw[ng]at h1 h2 h3;refine key (H.symm huv) y x hy hx aC h1 h2 h3 ?_ hy0;rcases cH 0 (ev (over b c h) (pt v))with g|g
  .exact g
  .have:=mpn hy g;omega
end
structure Filled(W:List V)(side:V->V->Prop)(ins:P3->Bool):Prop where
 net:Net W side
 same:∀p q:P3,0<p.d->0<q.d->(∀u v,side u v->¬gp ⟨u,v⟩ p q)->ins p=ins q
 max:∀u∈W,∀w∈W,u≠w->(∀c d,side c d->∀x y s t:Int,0<=x->0<=y->0<s->0<t->cmb x (pt c) y (pt d)≠cmb s (pt u) t (pt w))->ins (cmb 1 (pt u) 1 (pt w))=aE->side u w
 far:∃B:Int,0<=B/\∀q:P3,0<q.d->(B*q.d<q.x\/q.x< -(B*q.d)\/B*q.d<q.y\/q.y< -(B*q.d))->ins q=aK
def Lft(ins:P3->Bool)(a b:V):Prop:=∃N0:Int,∀N,N0<=N->∀q,In (thin a b N) q->ins q=aE
def EK{α:Type}(f:α->Int):∀{l:List α},l≠[]->∃x∈l,∀y∈l,f y<=f x
 |[],h=>absurd rfl h
 |[x],_=>⟨x,aH,aH⟩
 |x::y::l,_=>by
  obtain⟨z,hz,h⟩:=EK f (l:=y::l) af;grind
section
variable {W:List V} {side:V->V->Prop} {ins:P3->Bool}
def Filled.const(H:Filled W side ins){F:List P3}(hF:∀u v,side u v->iC F ⟨u,v⟩){p q:P3}(hp:In F p)(hq:In F q):ins p=ins q:=
 H.same p q hp.1 hq.1 λu v huv=>(hF u v huv).no hp hq
def Lft.near{a b c:V}(hne:a≠b)(hL:Lft ins a b)(hc:0<ev (lin a b) (pt c)){h:Int}(hh:h<ev (lin a b) (pt c)):
  ∃q,In [lin a b,lin c a,over b c h] q/\ins q=aE:=by
 obtain⟨N0,hN⟩:=hL;have hL2:=jw hne;have e9:(b.x-a.x)*(b.x-a.x)-(b.y-a.y)* -(b.y-a.y)=cL a b:=by unfold cL;grind
 obtain⟨M0,hM0,hI⟩:=qg hne (x:= -(b.y-a.y)) (y:=b.x-a.x) aC (max N0 0);have e1:∀M:Int,ev (lin c a) (dR a b M (-(b.y-a.y)) (b.x-a.x))=M*ev (lin a b) (pt c)+ev (lin c a) ⟨-(b.y-a.y),b.x-a.x,0⟩:=λM=>by unfold ev lin dR pt;grind
 generalize hk:ev (lin c a) ⟨-(b.y-a.y),b.x-a.x,0⟩=k at e1;have hP:=hI (M0+k.natAbs) aC;have hβ:0<ev (lin c a) (dR a b (M0+k.natAbs) (-(b.y-a.y)) (b.x-a.x)):=by rw[e1];have:=dg (aC:1<=ev (lin a b) (pt c)) (aC:0<=M0+(k.natAbs:Int));omega
 generalize dR a b (M0+k.natAbs) (-(b.y-a.y)) (b.x-a.x)=P at*;obtain⟨p0,p1,p2,p3⟩:=n7.1 hP;have e0:ev (lin b c) (pt a)=ev (lin a b) (pt c):=ik a b c;refine⟨cmb (1+(ev (over b c h) P).natAbs) (pt a) 1 P,⟨by simp only[cmb,pt];omega,?_⟩,hN (max N0 0) aC _ ?_⟩
 .simp only[bO,cp,or_false,forall_eq_or_imp,forall_eq];refine⟨?_,?_,?_⟩
  .rw[bB,cN];omega
  .rw[bB,cU];omega
  .rw[bB];have ho:1<=ev (over b c h) (pt a):=by rw[n8,e0];show 1<=ev (lin a b) (pt c)-h*1;omega
   have:=dg ho (aC:0<=1+((ev (over b c h) P).natAbs:Int));omega
 .rw[n7,bB,bB,bB,cN,mP,sK,Cv];have g1:=mpp (aC:0<=1+((ev (over b c h) P).natAbs:Int)) (aC:0<=cL a b);have g2:max N0 0*(1*ev (lin a b) P)=max N0 0*ev (lin a b) P:=by rw[LQ]
  refine⟨by simp only[cmb,pt];omega,aC,?_,?_⟩<;>rw[fP,yz]at* <;>omega
def aE3{u v b c:V}{D p q r s:Int}(hD:D≠0)(g1:cmb p (pt b) q (pt c)=⟨D*u.x,D*u.y,D⟩)(g2:cmb r (pt b) s (pt c)=⟨D*v.x,D*v.y,D⟩):
  cmb r (pt u) (-p) (pt v)=cmb (q-s) (pt c) 0 (pt c)/\cmb (-s) (pt u) q (pt v)=cmb (q-s) (pt b) 0 (pt b):=by
 unfold cmb pt at*;simp only[P3.mk.injEq]at*;refine⟨⟨?_,?_,aC⟩,⟨?_,?_,aC⟩⟩<;>(apply pY hD;grind)
def ear(H:Filled W side ins){a b c:V}(hab:side a b)(hac:side a c)(hc:0<ev (lin a b) (pt c))(hn:∀x,side a x->¬(0<ev (lin a b) (pt x)/\0<ev (lin c a) (pt x)))(hL:Lft ins a b):
  (∀w∈W,0<=ev (lin a b) (pt w)->0<=ev (lin b c) (pt w)->0<=ev (lin c a) (pt w)->w=a\/w=b\/w=c)/\
  (∀u v,side u v->iC [lin a b,lin c a,over b c 0] ⟨u,v⟩)/\(∀q,In [lin a b,lin c a,over b c 0] q->ins q=aE)/\side b c:=by
 have N:=H.net;have hne:=N.ne hab;by_cases hE:W.filter (λw=>decide (0<=ev (lin a b) (pt w))&&decide (0<=ev (lin b c) (pt w))&&decide (0<=ev (lin c a) (pt w))&&decide (w≠a)&&decide (w≠b)&&decide (w≠c))=[]
 case neg=>
  exfalso;obtain⟨w,hw,hmax⟩:=EK (λw=>ev (lin b c) (pt w)) hE;simp only[eY,cD,decide_eq_true_eq]at hw hmax;obtain⟨hwW,⟨⟨⟨⟨⟨w1,w2⟩,w3⟩,w4⟩,w5⟩,w6⟩⟩:=hw;have K:Corner W side a b c (ev (lin b c) (pt w)):=by
   refine⟨hab,hac,hc,hn,w2,λw' hw' ha h1 h2=> ?_⟩;by_cases h3:ev (lin b c) (pt w')<=0
   .omega
   .refine hmax w' ⟨hw',⟨⟨⟨⟨⟨h1,aC⟩,h2⟩,ha⟩,?_⟩,?_⟩⟩
    .rintro rfl;rw[cN]at h3;omega
    .rintro rfl;rw[cU]at h3;omega
  have bs:=IY a b c (pt w);have α0:ev (lin a b) (pt w)≠0:=λh0=>by
   have hb:=sJ (c:=c) h0;rcases N.clear hab hwW (ev (lin b c) (pt w)) (ev (lin c a) (pt w)) (ev (lin a b) (pt c)) w2 w3 (by rw[hb];unfold cmb;simp) hc with e|e
   .exact w4 e
   .exact w5 e
  have β0:ev (lin c a) (pt w)≠0:=λh0=>by
   have hb:=sJ (a:=c) (b:=a) (c:=b) h0;have e0:ev (lin c a) (pt b)=ev (lin a b) (pt c):=by unfold ev lin pt;grind
   rw[e0]at hb;rcases N.clear (N.symm hac) hwW (ev (lin a b) (pt w)) (ev (lin b c) (pt w)) (ev (lin a b) (pt c)) w1 w2 (by rw[hb];unfold cmb;simp) hc with e|e
   .exact w6 e
   .exact w4 e
  simp only[pt]at bs;have hlt:ev (lin b c) (pt w)<ev (lin a b) (pt c):=by simp only[pt]at*;omega
  have hfree:∀u v,side u v->iC _ ⟨u,v⟩:=λu v huv=>K.free N huv;have hin:∀s t:Int,0<s->0<t->In [lin a b,lin c a,over b c (ev (lin b c) (pt w))] (cmb s (pt a) t (pt w)):=by
   intro s t hs ht;refine⟨by simp only[cmb,pt];omega,?_⟩;simp only[bO,cp,or_false,forall_eq_or_imp,forall_eq];refine⟨?_,?_,?_⟩
   .rw[bB,cN];have:=bJ ht (aC:0<ev (lin a b) (pt w));omega
   .rw[bB,cU];have:=bJ ht (aC:0<ev (lin c a) (pt w));omega
   .rw[bB,n8,n8,ik];have e1:ev (lin b c) (pt w)-ev (lin b c) (pt w)*(pt w).d=0:=by simp only[pt];omega
    have:=bJ hs (show 0<ev (lin a b) (pt c)-ev (lin b c) (pt w)*(pt a).d by simp only[pt]at*;omega);simp_all
  obtain⟨q,hq,hqi⟩:=hL.near hne hc hlt;have hmid:ins (cmb 1 (pt a) 1 (pt w))=aE:=by rw[H.const hfree (hin 1 1 aC aC) hq];exact hqi
  have haw:=H.max a (N.mem hab) w hwW (λe=>w4 e.symm) (λc' d' hcd x y s t hx hy hs ht he=>by obtain⟨f,hf,g⟩:=hfree c' d' hcd x y hx hy (by have:=congrArg P3.d he;simp only[cmb,pt]at this;omega);have:=(hin s t hs ht).2 f hf;rw[<-he,bB]at this;grind) hmid
  grind
 case pos=>
  have hv:∀w∈W,0<=ev (lin a b) (pt w)->0<=ev (lin b c) (pt w)->0<=ev (lin c a) (pt w)->w=a\/w=b\/w=c:=by
   intro w hw h1 h2 h3;refine dS λhne'=> ?_;have:w∈([] :List V):=by rw[<-hE];simp only[eY,cD,decide_eq_true_eq];refine⟨hw,⟨⟨⟨⟨⟨h1,h2⟩,h3⟩,?_⟩,?_⟩,?_⟩⟩<;>intro e<;>exact hne' (by simp[e])
   cases this
  have K:Corner W side a b c 0:=by
   refine⟨hab,hac,hc,hn,kY _,λw' hw' ha h1 h2=> ?_⟩;refine FK.1 λh3=> ?_;rcases hv w' hw' h1 aC h2 with e|e|e
   .exact ha e
   .rw[e,cN]at h3;omega
   .rw[e,cU]at h3;omega
  have hfree:∀u v,side u v->iC [lin a b,lin c a,over b c 0] ⟨u,v⟩:=λu v huv=>K.free N huv;obtain⟨q,hq,hqi⟩:=hL.near hne hc hc;have hins:∀q,In [lin a b,lin c a,over b c 0] q->ins q=aE:=λq' hq'=>by rw[H.const hfree hq' hq];exact hqi
  refine⟨hv,hfree,hins,?_⟩;have hbc:b≠c:=λe=>by subst e;rw[cU]at hc;omega
  have e1:ev (lin c a) (pt b)=ev (lin a b) (pt c):=by unfold ev lin pt;grind
  have bs:∀w:V,ev (lin a b) (pt c)=ev (lin b c) (pt w)+ev (lin c a) (pt w)+ev (lin a b) (pt w):=λw=>by have:=IY a b c (pt w);simp only[pt]at this|-;omega
  refine dS λhns=> ?_;have hopen:∀c' d',side c' d'->∀x y s t:Int,0<=x->0<=y->0<s->0<t->cmb x (pt c') y (pt d')≠cmb s (pt b) t (pt c):=by
   intro u v huv x y s t hx hy hs ht he;have ed:=congrArg P3.d he;have eη:=congrArg (ev (lin b c)) he;have eα:=congrArg (ev (lin a b)) he;have eβ:=congrArg (ev (lin c a)) he;simp only[cmb,pt]at ed;rw[bB,bB,cN,cU]at eη;rw[bB,bB,cU]at eα;rw[bB,bB,cN,e1]at eβ;have p1:=bJ ht hc;have p2:=bJ hs hc;have novert:∀w,w∈W->∀k:Int,0<k->k*ev (lin a b) (pt w)=t*ev (lin a b) (pt c)->k*ev (lin c a) (pt w)=s*ev (lin a b) (pt c)->k*ev (lin b c) (pt w)=0->False:=by
    intro w hw k hk h1 h2 h3;have g1:0<ev (lin a b) (pt w):=by
     rcases cH 0 (ev (lin a b) (pt w))with g|g
     .exact g
     .have:=mpn (aC:0<=k) g;omega
    have g2:0<ev (lin c a) (pt w):=by
     rcases cH 0 (ev (lin c a) (pt w))with g|g
     .exact g
     .have:=mpn (aC:0<=k) g;omega
    have g3:ev (lin b c) (pt w)=0:=by
     rcases dI.1 h3 with g|g
     .omega
     .exact g
    rcases hv w hw aC aC aC with e|e|e<;>subst e
    .rw[cN]at g1;omega
    .grind
    .grind
   have hx0:0<x:=by
    rcases cH 0 x with g|g
    .exact g
    .have:x=0:=aC;subst x;exact(novert v (N.mem (N.symm huv)) y aC aC aC aC).elim
   have hy0:0<y:=by
    rcases cH 0 y with g|g
    .exact g
    .have:y=0:=aC;subst y;exact(novert u (N.mem huv) x aC aC aC aC).elim
   have up:∀{u v:V} {x y:Int},side u v->0<x->0<y->x*ev (lin b c) (pt u)+y*ev (lin b c) (pt v)=0->0<x*ev (lin a b) (pt u)+y*ev (lin a b) (pt v)->0<x*ev (lin c a) (pt u)+y*ev (lin c a) (pt v)->¬0<ev (lin b c) (pt u):=by
    intro u v x y huv hx hy h1 h2 h3 h4;obtain⟨f,hf,g⟩:=hfree u v huv ((1+(ev (lin a b) (pt u)).natAbs+(ev (lin c a) (pt u)).natAbs)*x+1) ((1+(ev (lin a b) (pt u)).natAbs+(ev (lin c a) (pt u)).natAbs)*y) (by have:=mpp (aC:0<=(1:Int)+(ev (lin a b) (pt u)).natAbs+(ev (lin c a) (pt u)).natAbs) (aC:0<=x);omega) (mpp aC aC) (by have:=mpp (aC:0<=(1:Int)+(ev (lin a b) (pt u)).natAbs+(ev (lin c a) (pt u)).natAbs) (aC:0<=x);have:=mpp (aC:0<=(1:Int)+(ev (lin a b) (pt u)).natAbs+(ev (lin c a) (pt u)).natAbs) (aC:0<=y);omega);change (_*x+1)*ev f (pt u)+_*y*ev f (pt v)<=0 at g;have e2:∀K A B:Int,(K*x+1)*A+K*y*B=K*(x*A+y*B)+A:=λK A B=>aH;rw[e2]at g;simp only[bO,cp,or_false]at hf;rcases hf with rfl|rfl|rfl
    .have:=dg (aC:1<=x*ev (lin a b) (pt u)+y*ev (lin a b) (pt v)) (aC:0<=(1:Int)+(ev (lin a b) (pt u)).natAbs+(ev (lin c a) (pt u)).natAbs);omega
    .have:=dg (aC:1<=x*ev (lin c a) (pt u)+y*ev (lin c a) (pt v)) (aC:0<=(1:Int)+(ev (lin a b) (pt u)).natAbs+(ev (lin c a) (pt u)).natAbs);omega
    .have e3:∀w:V,ev (over b c 0) (pt w)=ev (lin b c) (pt w):=λw=>by rw[n8];omega
     rw[e3,e3,h1]at g;omega
   have uu:=up huv hx0 hy0 aC aC aC;have vv:=up (N.symm huv) hy0 hx0 aC aC aC;have s1:=mpn (aC:0<=x) (aC:ev (lin b c) (pt u)<=0);have s2:=mpn (aC:0<=y) (aC:ev (lin b c) (pt v)<=0);have u0:ev (lin b c) (pt u)=0:=by
    rcases dI.1 (aC:x*ev (lin b c) (pt u)=0)with g|g
    .omega
    .exact g
   have v0:ev (lin b c) (pt v)=0:=by
    rcases dI.1 (aC:y*ev (lin b c) (pt v)=0)with g|g
    .omega
    .exact g
   have out:∀w∈W,ev (lin b c) (pt w)=0->¬(0<ev (lin a b) (pt w)/\0<ev (lin c a) (pt w)):=by
    rintro w hw h0 ⟨h1,h2⟩;rcases hv w hw aC aC aC with e|e|e<;>subst e
    .rw[cN]at h1;omega
    .grind
    .grind
   have ou:=out u (N.mem huv) u0;have ov:=out v (N.mem (N.symm huv)) v0;have bu:=bs u;have bv:=bs v;have fin:∀{u v:V},side u v->ev (lin b c) (pt u)=0->ev (lin b c) (pt v)=0->0<ev (lin a b) (pt u)->ev (lin c a) (pt u)<=0->0<ev (lin c a) (pt v)->ev (lin a b) (pt v)<=0->False:=by
    intro u v huv u0 v0 h1 h2 h3 h4;have bu:=bs u;have bv:=bs v;have D0:ev (lin a b) (pt c)≠0:=aC;have g1:=sJ (a:=b) (b:=c) (c:=a) (q:=pt u) u0;have g2:=sJ (a:=b) (b:=c) (c:=a) (q:=pt v) v0;rw[ik a b c]at g1 g2;have cc:=aE3 (u:=u) (v:=v) D0 (g1.trans (by show(⟨_,_,ev (lin a b) (pt c)*1⟩:P3)=_;rw[Bb];rfl)) (g2.trans (by show(⟨_,_,ev (lin a b) (pt c)*1⟩:P3)=_;rw[Bb];rfl));have k1:c=u\/c=v:=N.clear huv (N.mem (N.symm hac)) (ev (lin c a) (pt v)) (-(ev (lin c a) (pt u))) (ev (lin a b) (pt u)-ev (lin a b) (pt v)) aC aC cc.1 aC;have k2:b=u\/b=v:=N.clear huv (N.mem (N.symm hab)) (-(ev (lin a b) (pt v))) (ev (lin a b) (pt u)) (ev (lin a b) (pt u)-ev (lin a b) (pt v)) aC aC cc.2 aC;rcases k1 with e|e<;>rcases k2 with e'|e'
    .grind
    .subst e e';exact hns (N.symm huv)
    .grind
    .grind
   by_cases hu:0<ev (lin a b) (pt u)
   .have:ev (lin c a) (pt u)<=0:=aC;have hvv:0<ev (lin c a) (pt v):=by
     rcases cH 0 (ev (lin c a) (pt v))with g|g
     .exact g
     .have:=mpn (aC:0<=x) this;have:=mpn (aC:0<=y) g;omega
    exact fin huv u0 v0 hu this hvv aC
   .have hu':0<ev (lin c a) (pt u):=aC;have hvv:0<ev (lin a b) (pt v):=by
     rcases cH 0 (ev (lin a b) (pt v))with g|g
     .exact g
     .have:=mpn (aC:0<=x) (aC:ev (lin a b) (pt u)<=0);have:=mpn (aC:0<=y) g;omega
    exact fin (N.symm huv) v0 u0 hvv aC hu' aC
  refine hns (H.max b (N.mem (N.symm hab)) c (N.mem (N.symm hac)) hbc hopen ?_);rw[<-hqi];refine H.same _ _ (by simp only[cmb,pt];omega) hq.1 λu v huv hm=> ?_;obtain⟨x,y,s,t,hx,hy,hxy,hs,ht,he⟩:=hm;rcases cH 0 t with ht0|ht0
  .obtain⟨f,hf,g⟩:=hfree u v huv x y hx hy hxy;have eF:=congrArg (ev f) he;rw[bB,bB]at eF;change x*ev f (pt u)+y*ev f (pt v)<=0 at g;change x*ev f (pt u)+y*ev f (pt v)=_ at eF;have g1:=bJ ht0 (hq.2 f hf);have g2:0<=s*ev f (cmb 1 (pt b) 1 (pt c)):=mpp hs (by
    simp only[bO,cp,or_false]at hf;rcases hf with rfl|rfl|rfl
    .rw[bB,cU];omega
    .rw[bB,cN,e1];omega
    .rw[bB,n8,n8,cN,cU];omega)
   omega
  .have t0:t=0:=aC;subst t0;have hs0:0<s:=by
    have:=congrArg P3.d he;simp only[cmb,pt]at this;rcases cH 0 s with g|g
    .exact g
    .omega
   refine hopen u v huv x y s s hx hy hs0 hs0 ?_;rw[show cmb x (pt u) y (pt v)=cmb s (cmb 1 (pt b) 1 (pt c)) 0 q from he];unfold cmb;grind
end
def Dt{α:Type}(f g:α->Int):∀{l:List α},l≠[]->(∀x∈l,0<g x)->∃x∈l,∀y∈l,f x*g y<=f y*g x
 |[],h,_=>absurd rfl h
 |[x],_,_=>⟨x,aH,aH⟩
 |x::y::l,_,hg=>by
  obtain⟨z,hz,h⟩:=Dt f g (l:=y::l) af aH;have gx:=hg x cR;have gz:=hg z (cM _ hz);by_cases hx:f x*g z<=f z*g x
  .refine⟨x,aH,λw hw=> ?_⟩;rcases bO.1 hw with rfl|hw
   .omega
   .have gw:=hg w (cM _ hw);have h1:=h w hw;have e1:=nJ hx (aC:0<=g w);have e2:=nJ h1 (aC:0<=g x);have e3:(f x*g w)*g z<=(f w*g x)*g z:=by have a1:f x*g w*g z=f x*g z*g w:=aH;have a2:f w*g x*g z=f w*g z*g x:=aH;have a3:f z*g x*g w=f z*g w*g x:=aH;omega
    simp_all
  grind
def EB{a b:V}{P r:P3}(h:ev (ln (pt a) P) r=0)(f:P3):ev (lin a b) P*ev f r=(ev (lin a b) P*r.d-ev (lin a b) r*P.d)*ev f (pt a)+ev (lin a b) r*ev f P:=by unfold ev ln lin pt at*;grind
def Se{a b:V}{P r:P3}(h:ev (ln (pt a) P) r=0):cmb (ev (lin a b) P) r 0 r=cmb (ev (lin a b) P*r.d-ev (lin a b) r*P.d) (pt a) (ev (lin a b) r) P:=by unfold cmb ev ln lin pt at*;grind
def around{a b x:V}{P q:P3}:ev (lin a b) P*ev (lin a x) q=ev (lin a b) (pt x)*ev (ln (pt a) P) q-ev (lin a b) q*ev (ln (pt a) P) (pt x):=by unfold ev ln lin pt;grind
def fan{a b u:V}{P w:P3}:ev (ln (pt a) P) (pt u)*ev (lin a b) w=ev (lin u a) w*ev (lin a b) P+ev (ln (pt a) P) w*ev (lin a b) (pt u):=by unfold ev ln lin pt;grind
def aAF(u v:V)(a:V)(P:P3)(f:P3):ev f (cmb (-(ev (ln (pt a) P) (pt v))) (pt u) (ev (ln (pt a) P) (pt u)) (pt v))=ev (lin u v) P*ev f (pt a)-ev (lin u v) (pt a)*ev f P:=by unfold ev cmb ln lin pt;grind
def DH{u v:V}{p:P3}(h:ev (lin v u) p=0)(f:P3):cL v u*ev f p=(cL v u*p.d-ev (bG v u) p)*ev f (pt v)+ev (bG v u) p*ev f (pt u):=by have h1:=congrArg (ev f) (mr h);rw[bB]at h1;rw[h1];unfold ev;grind
def So{u v:V}(hne:u≠v){ρ q p:P3}(hq:ev (lin v u) q=0)(hp:ev (lin v u) p=0)(h0:ev ρ q=0)(f:P3):
  ev ρ (pt u)*q.d*ev f p=(ev ρ (pt u)*p.d-ev ρ p)*ev f q+ev ρ p*q.d*ev f (pt u):=by
 have hL:=jw (u:=v) (v:=u) aH;have a1:=DH hp f;have a2:=DH hp ρ;have a3:=DH hq f;have a4:=DH hq ρ;generalize cL v u=L at*;have hL2:L*L≠0:=Int.mul_ne_zero aC aC;apply pY hL2;grind
section
variable {W:List V} {side:V->V->Prop} {ins:P3->Bool}
structure Seen(W:List V)(side:V->V->Prop)(a b u v x:V)(P q:P3):Prop where
 net:Net W side
 pos:0<ev (lin a b) P
 thinR:∀w∈W,0<ev (lin a b) (pt w)->0<ev (ln (pt a) P) (pt w)
 uv:side u v
 ru:0<ev (ln (pt a) P) (pt u)
 rv:ev (ln (pt a) P) (pt v)<0
 au:0<ev (lin a b) (pt u)
 first:∀c d,side c d->0<ev (ln (pt a) P) (pt c)->ev (ln (pt a) P) (pt d)<0->∀p:P3,0<p.d->ev (ln (pt a) P) p=0->0<ev (lin a b) p->(∃x y:Int,0<x/\0<y/\p=cmb x (pt c) y (pt d))->ev (lin v u) p<=0
 ka:0<ev (lin v u) (pt a)
 mem:x∈W
 rx:0<ev (ln (pt a) P) (pt x)
 kx:0<=ev (lin v u) (pt x)
 ax:0<ev (lin a b) (pt x)
 ux:0<=ev (lin a x) (pt u)
 least:∀w∈W,0<ev (ln (pt a) P) (pt w)->0<=ev (lin v u) (pt w)->0<=ev (lin a w) (pt u)->0<=ev (lin a x) (pt w)/\(ev (lin a x) (pt w)=0->ev (lin a b) (pt x)<=ev (lin a b) (pt w))
 qd:0<q.d
 qr:ev (ln (pt a) P) q=0
 qk:ev (lin v u) q=0
 qa:0<ev (lin a b) q
 quv:∃x y:Int,0<x/\0<y/\q=cmb x (pt u) y (pt v)
def kK{a k:Int}(hk:0<k)(h:0<k*a):0<a:=by
 rcases cH 0 a with g|g
 .exact g
 .have:=mpn (aC:0<=k) g;omega
def zd{a k:Int}(hk:0<k)(h:k*a<0):a<0:=by
 rcases cH a 0 with g|g
 .exact g
 .have:=mpp (aC:0<=k) g;omega
def Seen.ang{a b u v x:V}{P q:P3}(_S:Seen W side a b u v x P q){w:V}(r:P3):ev (lin a b) P*ev (lin a w) r=ev (lin a b) (pt w)*ev (ln (pt a) P) r-ev (lin a b) r*ev (ln (pt a) P) (pt w):=around
def Seen.wedge{a b u v x:V}{P q:P3}(S:Seen W side a b u v x P q){c d:V}(hcd:side c d){x1 y1:Int}(hx1:0<x1)(hy1:0<=y1)
  (h1:0<ev (ln (pt a) P) (cmb x1 (pt c) y1 (pt d))) (h2:0<ev (lin v u) (cmb x1 (pt c) y1 (pt d))) (h3:ev (lin a x) (cmb x1 (pt c) y1 (pt d))<=0) (hc:ev (lin a x) (pt c)<0):False:=by
 have N:=S.net;have hap:=S.pos;have hvu:u≠v:=N.ne S.uv;by_cases hin:0<=ev (ln (pt a) P) (pt c)/\0<=ev (lin v u) (pt c)
 ·
  have e1:=S.ang (w:=x) (pt c);have n1:=gr hap hc;have hr:0<ev (ln (pt a) P) (pt c):=by
   rcases cH 0 (ev (ln (pt a) P) (pt c))with g|g
   .exact g
   .have r0:ev (ln (pt a) P) (pt c)=0:=aC;have ac:ev (lin a b) (pt c)<=0:=by refine FK.1 λg2=> ?_;have:=S.thinR c (N.mem hcd) g2;omega
    rw[r0,fP]at e1;have:=mnp ac (show 0<=ev (ln (pt a) P) (pt x) by have:=S.rx;omega);omega
  have hac:0<ev (lin a b) (pt c):=by have p1:=bJ S.ax hr;have p2:0<ev (lin a b) (pt c)*ev (ln (pt a) P) (pt x):=aC;rw[gu]at p2;exact kK S.rx p2
  have eu:=S.ang (w:=x) (pt u);have ec:=S.ang (w:=c) (pt u);have m1:=mpp (aC:0<=ev (lin a b) P) S.ux;have key:0<=ev (lin a b) P*ev (lin a c) (pt u):=by
   rw[ec];have k1:ev (ln (pt a) P) (pt c)*ev (lin a b) (pt x)<ev (ln (pt a) P) (pt x)*ev (lin a b) (pt c):=by rw[gu (ev (ln (pt a) P) (pt c)),gu (ev (ln (pt a) P) (pt x))];omega
   have k2:ev (ln (pt a) P) (pt x)*ev (lin a b) (pt u)<=ev (ln (pt a) P) (pt u)*ev (lin a b) (pt x):=by rw[gu (ev (ln (pt a) P) (pt x)),gu (ev (ln (pt a) P) (pt u))];omega
   have k3:=Gf (n1:=ev (ln (pt a) P) (pt c)) (d1:=ev (lin a b) (pt c)) (n2:=ev (ln (pt a) P) (pt x)) (d2:=ev (lin a b) (pt x)) (n3:=ev (ln (pt a) P) (pt u)) (d3:=ev (lin a b) (pt u)) hac S.ax S.au k1 k2;rw[gu (ev (lin a b) (pt c)),gu (ev (lin a b) (pt u))];omega
  have hsc:0<=ev (lin a c) (pt u):=nnl hap aH;have:=(S.least c (N.mem hcd) hr hin.2 hsc).1;omega
 .obtain⟨s,t,hs,ht,hp⟩:=yb (F:=ln (pt a) P) (G:=lin v u) (z:=cmb x1 (pt c) y1 (pt d)) (g:=pt c) h1 h2 aC;have hd0:0<(cmb s (cmb x1 (pt c) y1 (pt d)) t (pt c)).d:=by simp only[cmb,pt];have:=mpp (aC:0<=s) (aC:0<=x1*1+y1*1);omega
  have hγ:ev (lin a x) (cmb s (cmb x1 (pt c) y1 (pt d)) t (pt c))<0:=by rw[bB];have:=mpn (aC:0<=s) h3;have:=gr ht hc;omega
  have hy0:0<y1:=by
   rcases cH 0 y1 with g|g
   .exact g
   .have:y1=0:=aC;subst y1;rw[bB,wX,pU]at h1 h2;exact(hin ⟨by have:=kK hx1 h1;omega,by have:=kK hx1 h2;omega⟩).elim
  have exp:cmb s (cmb x1 (pt c) y1 (pt d)) t (pt c)=cmb (s*x1+t) (pt c) (s*y1) (pt d):=by unfold cmb;simp only[P3.mk.injEq];refine⟨?_,?_,?_⟩<;>grind
  have w1:0<s*x1+t:=by have:=bJ hs hx1;omega
  have w2:0<s*y1:=bJ hs hy0;have hev:∀f,ev f (cmb s (cmb x1 (pt c) y1 (pt d)) t (pt c))=s*ev f (cmb x1 (pt c) y1 (pt d))+t*ev f (pt c):=λf=>bB _ _ _ _ _;have hr1:=hev (ln (pt a) P);generalize hpp:cmb s (cmb x1 (pt c) y1 (pt d)) t (pt c)=p at*;obtain⟨xq,yq,hxq,hyq,hq⟩:=S.quv;have clash:∀k m:Int,0<k->0<m->cmb k p 0 p=cmb m q 0 q->False:=by
   intro k m hk hm he;have:cmb (k*(s*x1+t)) (pt c) (k*(s*y1)) (pt d)=cmb (m*xq) (pt u) (m*yq) (pt v):=by rw[exp,hq]at he;unfold cmb at he|-;simp only[P3.mk.injEq]at he|-;refine⟨?_,?_,?_⟩<;>grind
   rcases N.apart hcd S.uv _ _ _ _ (bJ hk w1) (bJ hk w2) (bJ hm hxq) (bJ hm hyq) this with⟨rfl,rfl⟩|⟨rfl,rfl⟩
   .rw[bB,cN,cU]at h2;omega
   .rw[bB,cN,cU]at h2;omega
  have caseR:ev (ln (pt a) P) p=0->0<=ev (lin v u) p->False:=by
   intro g1 g2;have e1:=S.ang (w:=x) p;have n1:=gr hap hγ;have hap':0<ev (lin a b) p:=by rw[g1,fP]at e1;have p2:0<ev (lin a b) p*ev (ln (pt a) P) (pt x):=aC;rw[gu]at p2;exact kK S.rx p2
   have rz:=bJ hs h1;have rc:ev (ln (pt a) P) (pt c)<0:=zd ht aC;have rd:0<ev (ln (pt a) P) (pt d):=by rw[bB]at h1;have:=gr hx1 rc;exact kK hy0 aC
   have hf:=S.first d c (N.symm hcd) rd rc p hd0 g1 hap' ⟨s*y1,s*x1+t,w2,w1,by rw[exp,ng]⟩;have k0:ev (lin v u) p=0:=aC;have r1:=Se (a:=a) (b:=b) g1;have r2:=Se (a:=a) (b:=b) S.qr;have v1:=EB (a:=a) (b:=b) g1 (lin v u);have v2:=EB (a:=a) (b:=b) S.qr (lin v u);rw[k0,fP]at v1;rw[S.qk,fP]at v2;have hqa:=S.qa;have hka:=S.ka;have hqd:=S.qd;have cross:ev (lin a b) q*p.d=ev (lin a b) p*q.d:=by
    have e3:ev (lin a b) P*ev (lin v u) (pt a)*(ev (lin a b) q*p.d-ev (lin a b) p*q.d)=0:=by generalize ev (lin a b) P=A at*;generalize ev (lin v u) (pt a)=K at*;generalize ev (lin a b) q=aq at*;generalize ev (lin a b) p=ap at*;generalize ev (lin v u) P=KP at*;grind
    rcases dI.1 e3 with g|g
    .have:=bJ hap hka;omega
    .omega
   refine clash (ev (lin a b) P*ev (lin a b) q) (ev (lin a b) P*ev (lin a b) p) (bJ hap hqa) (bJ hap hap') ?_;unfold cmb at r1 r2|-;simp only[P3.mk.injEq]at r1 r2|-;generalize ev (lin a b) P=A at*;generalize ev (lin a b) q=aq at*;generalize ev (lin a b) p=ap at*;refine⟨?_,?_,?_⟩<;>grind
  rcases hp with⟨g1,g2⟩|⟨g1,g2⟩
  .grind
  .by_cases hr0:ev (ln (pt a) P) p=0
   .grind
   .have hrp:0<ev (ln (pt a) P) p:=aC;have lq:=So hvu S.qk g1 S.qr (lin a x);have γq:ev (lin a x) q<0:=by have e1:=S.ang (w:=x) q;rw[S.qr,fP]at e1;have:=bJ S.qa S.rx;exact zd hap aC
    have hbet:0<ev (ln (pt a) P) (pt u)*p.d-ev (ln (pt a) P) p:=by refine nL.1 λhn=> ?_;have t1:=mnn hn (aC:ev (lin a x) q<=0);have t2:=mpp (mpp (aC:0<=ev (ln (pt a) P) p) (show 0<=q.d by have:=S.qd;omega)) S.ux;have t3:=gr (bJ S.ru S.qd) hγ;omega
    have lx:∀f,ev (ln (pt a) P) (pt u)*q.d*ev f p=(ev (ln (pt a) P) (pt u)*p.d-ev (ln (pt a) P) p)*ev f q+ev (ln (pt a) P) p*q.d*ev f (pt u):=λf=>So hvu S.qk g1 S.qr f;have cx:=lx ⟨1,0,0⟩;have cy:=lx ⟨0,1,0⟩;have cd:=lx ⟨0,0,1⟩;have ex:∀r:P3,ev ⟨1,0,0⟩ r=r.x:=λr=>by unfold ev;simp
    have ey:∀r:P3,ev ⟨0,1,0⟩ r=r.y:=λr=>by unfold ev;simp
    have ed:∀r:P3,ev ⟨0,0,1⟩ r=r.d:=λr=>by unfold ev;simp
    rw[ex,ex,ex]at cx;rw[ey,ey,ey]at cy;rw[ed,ed,ed]at cd;have hM:0<ev (ln (pt a) P) (pt u)*q.d:=bJ S.ru S.qd;have hB:0<ev (ln (pt a) P) p*q.d:=bJ hrp S.qd;generalize ev (ln (pt a) P) (pt u)*q.d=M at*;generalize ev (ln (pt a) P) (pt u)*p.d-ev (ln (pt a) P) p=A at*;generalize ev (ln (pt a) P) p*q.d=B at*;have:cmb (M*(s*x1+t)) (pt c) (M*(s*y1)) (pt d)=cmb (A*xq+B) (pt u) (A*yq) (pt v):=by rw[exp,hq]at cx cy cd;unfold cmb at*;simp only[P3.mk.injEq]at*;refine⟨?_,?_,?_⟩<;>grind
    rcases N.apart hcd S.uv _ _ _ _ (bJ hM w1) (bJ hM w2) (show 0<A*xq+B by have:=bJ hbet hxq;omega) (bJ hbet hyq) this with⟨rfl,rfl⟩|⟨rfl,rfl⟩
    .rw[bB,cN,cU]at h2;omega
    .rw[bB,cN,cU]at h2;omega
end
def To{α:Type}(f:α->Int):∀l:List α,∃M:Int,0<=M/\∀x∈l,f x<=M/\ -M<=f x
 |[] =>⟨0,kY _,λx hx=>by cases hx⟩
 |x::l=>by
  obtain⟨M,h0,h⟩:=To f l;refine⟨M+(f x).natAbs,aC,λy hy=> ?_⟩;grind
section
variable {W:List V} {side:V->V->Prop} {ins:P3->Bool}
def Lft.start{a b:V}(hne:a≠b)(hL:Lft ins a b)(W:List V):∃(N:Int) (P:P3),0<=N/\In (thin a b N) P/\(∀q,In (thin a b N) q->ins q=aE)/\∀w∈W,0<ev (lin a b) (pt w)->0<ev (ln (pt a) P) (pt w):=by
 obtain⟨N0,hN⟩:=hL;have hL2:=jw hne;have e9:(b.x-a.x)*(b.x-a.x)-(b.y-a.y)* -(b.y-a.y)=cL a b:=by unfold cL;grind
 obtain⟨M0,hM0,hI⟩:=qg hne (x:= -(b.y-a.y)) (y:=b.x-a.x) aC (max N0 0);obtain⟨M1,hM1,hB⟩:=To (λw=>ev (ln (pt a) ⟨-(b.y-a.y),b.x-a.x,0⟩) (pt w)) W;refine⟨max N0 0,dR a b (M0+M1) (-(b.y-a.y)) (b.x-a.x),aC,hI _ aC,hN _ aC,λw hw h=> ?_⟩;have e1:∀M:Int,ev (ln (pt a) (dR a b M (-(b.y-a.y)) (b.x-a.x))) (pt w)=M*ev (lin a b) (pt w)+ev (ln (pt a) ⟨-(b.y-a.y),b.x-a.x,0⟩) (pt w):=λM=>by unfold ev ln lin dR pt;grind
 rw[e1];have:=hB w hw;have h2:=dg (aC:1<=ev (lin a b) (pt w)) (aC:0<=M0+M1);omega
def aDQ(a w u:V):ev (lin u a) (pt w)=ev (lin a w) (pt u):=by unfold ev lin pt;grind
open Classical in
def see(H:Filled W side ins){a b:V}(hab:side a b)(hL:Lft ins a b):
  ∃(N:Int) (u v x:V) (P q:P3),0<=N/\In (thin a b N) P/\(∀q,In (thin a b N) q->ins q=aE)/\Seen W side a b u v x P q:=by
 have Nt:=H.net;have hne:=Nt.ne hab;obtain⟨N,P,hN0,hP,hin,hW⟩:=hL.start hne W;obtain⟨p0,p1,p2,p3⟩:=n7.1 hP;have hray:ev (ln (pt a) P) P=0:=Dg _ _;have hra:ev (ln (pt a) P) (pt a)=0:=JI _ _;obtain⟨B,hB0,hB⟩:=H.far;have hfar:∃T:Int,0<=T/\ins (cmb (-(T*P.d)) (pt a) (T+1) P)=aK:=by
  have hd:∀T:Int,(cmb (-(T*P.d)) (pt a) (T+1) P).d=P.d:=λT=>by simp only[cmb,pt];grind
  have hx:∀T:Int,(cmb (-(T*P.d)) (pt a) (T+1) P).x=P.x+T*(P.x-a.x*P.d):=λT=>by simp only[cmb,pt];grind
  have hy:∀T:Int,(cmb (-(T*P.d)) (pt a) (T+1) P).y=P.y+T*(P.y-a.y*P.d):=λT=>by simp only[cmb,pt];grind
  have hB2:=mpp hB0 (aC:0<=P.d);refine⟨1+B*P.d+P.x.natAbs+P.y.natAbs,aC,hB _ jc ?_⟩;rw[hd,hx,hy];have hδ:P.x-a.x*P.d≠0\/P.y-a.y*P.d≠0:=by
   refine dS λhn=> ?_;have h1:P.x=a.x*P.d:=aC;have h2:P.y=a.y*P.d:=aC;have:ev (lin a b) P=0:=by unfold ev lin;rw[h1,h2];grind
   omega
  have grow:∀δ:Int,0<δ->1+B*P.d+P.x.natAbs+P.y.natAbs<=(1+B*P.d+P.x.natAbs+P.y.natAbs)*δ:=λδ h=>by have:=dg (aC:1<=δ) (aC:0<=1+B*P.d+(P.x.natAbs:Int)+(P.y.natAbs:Int));omega
  rcases hδ with h|h
  .rcases mc h with g|g
   .have:=grow (-(P.x-a.x*P.d)) aC;grind
   .have:=grow _ g;omega
  .rcases mc h with g|g
   .have:=grow (-(P.y-a.y*P.d)) aC;grind
   .have:=grow _ g;omega
 obtain⟨T,hT0,hT⟩:=hfar;have hTd:(cmb (-(T*P.d)) (pt a) (T+1) P).d=P.d:=by simp only[cmb,pt];grind
 have hcross:∃c d,side c d/\0<ev (ln (pt a) P) (pt c)/\ev (ln (pt a) P) (pt d)<0/\0<ev (lin a b) (cmb (-(ev (ln (pt a) P) (pt d))) (pt c) (ev (ln (pt a) P) (pt c)) (pt d)):=by
  refine dS λhn=> ?_;have hs:ins P=ins (cmb (-(T*P.d)) (pt a) (T+1) P):=by
   refine H.same _ _ p0 aC λc d hcd hm=> ?_;obtain⟨x,y,s,t,hx,hy,hxy,hs,ht,he⟩:=hm;have eρ:=congrArg (ev (ln (pt a) P)) he;have eα:=congrArg (ev (lin a b)) he;have ed:=congrArg P3.d he;rw[bB,bB,bB,hray,hra]at eρ;rw[bB,bB,bB,cN,fP,yz]at eα;rw[fP,fP,fP,pU,fP,pU]at eρ;dsimp only at eρ eα;have hst:0<s\/0<t:=by simp only[cmb,pt]at ed;refine dS λh0=> ?_;have:s=0:=aC;have:t=0:=aC;subst s t;omega
   have hα:0<x*ev (lin a b) (pt c)+y*ev (lin a b) (pt d):=by
    have g1:=mpp hs (aC:0<=ev (lin a b) P);have g2:=mpp ht (show 0<=(T+1)*ev (lin a b) P from mpp (by omega) (by omega));rcases hst with k|k
    .have:=bJ k p1;omega
    .have:=bJ k (bJ (aC:0<T+1) p1);omega
   have hρ:x*ev (ln (pt a) P) (pt c)+y*ev (ln (pt a) P) (pt d)=0:=aC;have nv:∀w,w∈W->ev (ln (pt a) P) (pt w)<=0->ev (lin a b) (pt w)<=0:=λw hw h=>aH;have hcW:=Nt.mem hcd;have hdW:=Nt.mem (Nt.symm hcd);rcases pX (ev (ln (pt a) P) (pt c)) 0 with h1|h1|h1
   .have a1:=nv c hcW aC;have m1:=mpn hx a1;have hy0:0<y:=by
     rcases cH 0 y with g|g
     .exact g
     .grind
    have a2:0<ev (lin a b) (pt d):=kK hy0 aC;have r2:=hW d hdW a2;refine hn ⟨d,c,Nt.symm hcd,r2,h1,?_⟩;rw[bB];have hx0:0<x:=by
     rcases cH 0 x with g|g
     .exact g
     .have:x=0:=aC;subst x;have:=bJ hy0 r2;omega
    refine kK hx0 ?_;have e2:x*(-(ev (ln (pt a) P) (pt c))*ev (lin a b) (pt d)+ev (ln (pt a) P) (pt d)*ev (lin a b) (pt c))=ev (ln (pt a) P) (pt d)*(x*ev (lin a b) (pt c)+y*ev (lin a b) (pt d)):=by generalize ev (ln (pt a) P) (pt c)=rc at*;generalize ev (ln (pt a) P) (pt d)=rd at*;generalize ev (lin a b) (pt c)=ac at*;generalize ev (lin a b) (pt d)=ad at*;grind
    rw[e2];exact bJ r2 hα
   .have a1:=nv c hcW aC;have m1:=mpn hx a1;rw[h1]at hρ;have hy0:0<y:=by
     rcases cH 0 y with g|g
     .exact g
     .grind
    have r0:ev (ln (pt a) P) (pt d)=0:=by
     rcases dI.1 (aC:y*ev (ln (pt a) P) (pt d)=0)with g|g
     .omega
     .exact g
    have a2:=nv d hdW aC;have:=mpn hy a2;omega
   .by_cases hx0:0<x
    .have r2:ev (ln (pt a) P) (pt d)<0:=by have:=bJ hx0 h1;refine nL.1 λg=> ?_;have:=mpp hy g;omega
     have hy0:0<y:=by
      rcases cH 0 y with g|g
      .exact g
      .have:y=0:=aC;subst y;have:=bJ hx0 h1;omega
     refine hn ⟨c,d,hcd,h1,r2,?_⟩;rw[bB];refine kK hy0 ?_;have e2:y*(-(ev (ln (pt a) P) (pt d))*ev (lin a b) (pt c)+ev (ln (pt a) P) (pt c)*ev (lin a b) (pt d))=ev (ln (pt a) P) (pt c)*(x*ev (lin a b) (pt c)+y*ev (lin a b) (pt d)):=by generalize ev (ln (pt a) P) (pt c)=rc at*;generalize ev (ln (pt a) P) (pt d)=rd at*;generalize ev (lin a b) (pt c)=ac at*;generalize ev (lin a b) (pt d)=ad at*;grind
     rw[e2];exact bJ h1 hα
    .have x0:x=0:=aC;subst x;have hy0:0<y:=aC;have r0:ev (ln (pt a) P) (pt d)=0:=by
      rcases dI.1 (aC:y*ev (ln (pt a) P) (pt d)=0)with g|g
      .omega
      .exact g
     have a2:=nv d hdW aC;have:=mpn hy a2;omega
  rw[hin P hP,hT]at hs;cases hs
 have hl:((W.flatMap λc=>W.map λd=>(c,d)).filter λq=>decide (side q.1 q.2/\0<ev (ln (pt a) P) (pt q.1)/\ev (ln (pt a) P) (pt q.2)<0/\0<ev (lin a b) (cmb (-(ev (ln (pt a) P) (pt q.2))) (pt q.1) (ev (ln (pt a) P) (pt q.1)) (pt q.2))))≠[] :=by obtain⟨c,d,h1,h2⟩:=hcross;exact LR (eY.2 ⟨dL.2 ⟨c,Nt.mem h1,bn.2 ⟨d,Nt.mem (Nt.symm h1),rfl⟩⟩,decide_eq_true ⟨h1,h2⟩⟩)
 obtain⟨⟨u,v⟩,huv,hmin⟩:=Dt (λq:V×V=>ev (lin a b) (cmb (-(ev (ln (pt a) P) (pt q.2))) (pt q.1) (ev (ln (pt a) P) (pt q.1)) (pt q.2))) (λq:V×V=>ev (ln (pt a) P) (pt q.1)-ev (ln (pt a) P) (pt q.2)) hl λq hq=>aH;have hs:=of_decide_eq_true (eY.1 huv).2;dsimp only at hs hmin;obtain⟨suv,ru,rv,aq⟩:=hs;have uW:=Nt.mem suv;have vW:=Nt.mem (Nt.symm suv);have qd:(cmb (-(ev (ln (pt a) P) (pt v))) (pt u) (ev (ln (pt a) P) (pt u)) (pt v)).d=ev (ln (pt a) P) (pt u)-ev (ln (pt a) P) (pt v):=by show-(ev (ln (pt a) P) (pt v))*1+ev (ln (pt a) P) (pt u)*1=_;omega
 have qr:ev (ln (pt a) P) (cmb (-(ev (ln (pt a) P) (pt v))) (pt u) (ev (ln (pt a) P) (pt u)) (pt v))=0:=by rw[bB,oV,gu];omega
 have qk:ev (lin v u) (cmb (-(ev (ln (pt a) P) (pt v))) (pt u) (ev (ln (pt a) P) (pt u)) (pt v))=0:=by rw[bB,cN,cU];omega
 have ka:0<ev (lin v u) (pt a):=by have:=aAF u v a P (lin a b);rw[this,cN,fP,Int.zero_sub,<-oV]at aq;rw[jf];rw[gu]at aq;exact kK p1 aq
 have av:ev (lin a b) (pt v)<=0:=by refine FK.1 λg=> ?_;have:=hW v vW g;omega
 have au:0<ev (lin a b) (pt u):=by rw[bB]at aq;have:=mpn (aC:0<=ev (ln (pt a) P) (pt u)) av;exact kK (aC:0< -(ev (ln (pt a) P) (pt v))) aC
 have αX:∀w:V,0<ev (ln (pt a) P) (pt w)->0<=ev (lin a w) (pt u)->0<ev (lin a b) (pt w):=λw h1 h2=>by have:=fan (a:=a) (b:=b) (u:=u) (P:=P) (w:=pt w);rw[aDQ a w u]at this;have g1:=mpp h2 (aC:0<=ev (lin a b) P);have g2:=bJ h1 au;exact kK ru aC
 have hX:(W.filter λw=>decide (0<ev (ln (pt a) P) (pt w))&&decide (0<=ev (lin v u) (pt w))&&decide (0<=ev (lin a w) (pt u)))≠[] :=by refine LR (a:=u) (eY.2 ⟨uW,?_⟩);rw[decide_eq_true ru,cU,cU];rfl
 have memX:∀{w:V},w∈(W.filter λw=>decide (0<ev (ln (pt a) P) (pt w))&&decide (0<=ev (lin v u) (pt w))&&decide (0<=ev (lin a w) (pt u)))↔(w∈W/\0<ev (ln (pt a) P) (pt w)/\0<=ev (lin v u) (pt w)/\0<=ev (lin a w) (pt u)):=λ{w}=>aH;obtain⟨x1,hx1,hm1⟩:=Dt (λw:V=>ev (ln (pt a) P) (pt w)) (λw:V=>ev (lin a b) (pt w)) hX λw hw=>aH;have ang:∀w r:V,ev (lin a b) P*ev (lin a w) (pt r)=ev (lin a b) (pt w)*ev (ln (pt a) P) (pt r)-ev (lin a b) (pt r)*ev (ln (pt a) P) (pt w):=λw r=>around;have hX2:((W.filter λw=>decide (0<ev (ln (pt a) P) (pt w))&&decide (0<=ev (lin v u) (pt w))&&decide (0<=ev (lin a w) (pt u))).filter λw=>decide (ev (lin a x1) (pt w)=0))≠[] :=
  LR (a:=x1) (eY.2 ⟨hx1,by rw[cU];rfl⟩)
 obtain⟨x,hx2,hm2⟩:=EK (λw:V=> -(ev (lin a b) (pt w))) hX2;obtain⟨hx,hx0⟩:=eY.1 hx2;have hx0:ev (lin a x1) (pt x)=0:=of_decide_eq_true hx0;obtain⟨xW,xr,xk,xs⟩:=memX.1 hx;obtain⟨x1W,x1r,x1k,x1s⟩:=memX.1 hx1;have ax:=αX x xr xs;have ax1:=αX x1 x1r x1s;have eq1:ev (lin a b) (pt x1)*ev (ln (pt a) P) (pt x)=ev (lin a b) (pt x)*ev (ln (pt a) P) (pt x1):=by have:=ang x1 x;rw[hx0,fP]at this;omega
 refine⟨N,u,v,x,P,_,hN0,hP,hin,Nt,p1,hW,suv,ru,rv,au,?_,ka,xW,xr,xk,ax,xs,?_,aC,qr,qk,aq,⟨_,_,aC,ru,rfl⟩⟩
 .intro c d hcd rc rd p hpd hpr hpa ⟨x',y',hx',hy',hp⟩;have cW:=Nt.mem hcd;have dW:=Nt.mem (Nt.symm hcd);have eρ:=hpr;rw[hp,bB]at eρ;have prop:∀f:P3,ev (ln (pt a) P) (pt c)*ev f p=y'*ev f (cmb (-(ev (ln (pt a) P) (pt d))) (pt c) (ev (ln (pt a) P) (pt c)) (pt d)):=λf=>by rw[hp,bB,bB];grind
  have pα:=prop (lin a b);have pd:=prop ⟨0,0,1⟩;have ed:∀r:P3,ev ⟨0,0,1⟩ r=r.d:=λr=>by unfold ev;simp
  rw[ed,ed]at pd;have cd':(cmb (-(ev (ln (pt a) P) (pt d))) (pt c) (ev (ln (pt a) P) (pt c)) (pt d)).d=ev (ln (pt a) P) (pt c)-ev (ln (pt a) P) (pt d):=by show-(ev (ln (pt a) P) (pt d))*1+ev (ln (pt a) P) (pt c)*1=_;omega
  have hca:0<ev (lin a b) (cmb (-(ev (ln (pt a) P) (pt d))) (pt c) (ev (ln (pt a) P) (pt c)) (pt d)):=
   kK hy' (by rw[<-pα];exact bJ rc hpa)
  have hm:=hmin (c,d) (eY.2 ⟨dL.2 ⟨c,cW,bn.2 ⟨d,dW,rfl⟩⟩,decide_eq_true ⟨hcd,rc,rd,hca⟩⟩);dsimp only at hm;rw[<-cd',<-qd]at hm;have v1:=EB (a:=a) (b:=b) hpr (lin v u);have v2:=EB (a:=a) (b:=b) qr (lin v u);rw[qk,fP]at v2;have hqd:0<(cmb (-(ev (ln (pt a) P) (pt v))) (pt u) (ev (ln (pt a) P) (pt u)) (pt v)).d:=by rw[qd];omega
  generalize cmb (-(ev (ln (pt a) P) (pt v))) (pt u) (ev (ln (pt a) P) (pt u)) (pt v)=q at*;generalize cmb (-(ev (ln (pt a) P) (pt d))) (pt c) (ev (ln (pt a) P) (pt c)) (pt d)=q' at*;refine FK.1 λhk=> ?_;have e3:ev (lin a b) P*(ev (lin a b) q*ev (lin v u) p)=ev (lin a b) P*(ev (lin v u) (pt a)*(ev (lin a b) q*p.d-ev (lin a b) p*q.d)):=by generalize ev (lin a b) P=A at*;generalize ev (lin v u) (pt a)=K at*;generalize ev (lin a b) q=aq' at*;generalize ev (lin a b) p=ap at*;generalize ev (lin v u) P=KP at*;generalize ev (lin v u) p=kp at*;grind
  have e4:=pY (aC:ev (lin a b) P≠0) e3;have g1:=bJ aq hk;have g2:0<ev (lin a b) q*p.d-ev (lin a b) p*q.d:=kK ka aC;have g3:=dg hm (aC:0<=y');have g4:ev (ln (pt a) P) (pt c)*(ev (lin a b) q*p.d-ev (lin a b) p*q.d)<=0:=by have a1:ev (ln (pt a) P) (pt c)*(ev (lin a b) q*p.d-ev (lin a b) p*q.d)=ev (lin a b) q*(ev (ln (pt a) P) (pt c)*p.d)-(ev (ln (pt a) P) (pt c)*ev (lin a b) p)*q.d:=aH;rw[a1,pα,pd];have a2:ev (lin a b) q*(y'*q'.d)=y'*(ev (lin a b) q*q'.d):=aH;have a3:y'*ev (lin a b) q'*q.d=y'*(ev (lin a b) q'*q.d):=aH;rw[a2,a3];omega
  have:=bJ rc g2;omega
 .intro w wW wr wk ws;have hw:=memX.2 ⟨wW,wr,wk,ws⟩;have aw:=αX w wr ws;have h1:=hm1 w hw;have e1:=ang x w;have e2:ev (lin a b) (pt x1)*(ev (lin a b) (pt x)*ev (ln (pt a) P) (pt w)-ev (lin a b) (pt w)*ev (ln (pt a) P) (pt x))=ev (lin a b) (pt x)*(ev (ln (pt a) P) (pt w)*ev (lin a b) (pt x1)-ev (ln (pt a) P) (pt x1)*ev (lin a b) (pt w)):=by generalize ev (lin a b) (pt x1)=A1 at*;generalize ev (lin a b) (pt x)=A at*;generalize ev (lin a b) (pt w)=Aw at*;generalize ev (ln (pt a) P) (pt x1)=R1 at*;generalize ev (ln (pt a) P) (pt x)=R at*;generalize ev (ln (pt a) P) (pt w)=Rw at*;grind
  constructor
  .have g:=mpp (aC:0<=ev (lin a b) (pt x)) (aC:0<=ev (ln (pt a) P) (pt w)*ev (lin a b) (pt x1)-ev (ln (pt a) P) (pt x1)*ev (lin a b) (pt w));rw[<-e2]at g;have g2:0<=ev (lin a b) (pt x)*ev (ln (pt a) P) (pt w)-ev (lin a b) (pt w)*ev (ln (pt a) P) (pt x):=by rw[gu]at g;exact nnl ax1 g
   rw[<-e1]at g2;rw[gu]at g2;exact nnl p1 g2
  .intro h0;rw[h0,fP]at e1;rw[<-e1,fP]at e2;have z:ev (ln (pt a) P) (pt w)*ev (lin a b) (pt x1)-ev (ln (pt a) P) (pt x1)*ev (lin a b) (pt w)=0:=by
    rcases dI.1 e2.symm with g|g
    .omega
    .exact g
   have e3:=ang x1 w;have z2:ev (lin a x1) (pt w)=0:=by
    have:ev (lin a b) P*ev (lin a x1) (pt w)=0:=by rw[e3,gu (ev (lin a b) (pt x1)),gu (ev (lin a b) (pt w))];exact z
    rcases dI.1 this with g|g
    .omega
    .exact g
   grind
def Af{a b x w:V}(h0:ev (lin a x) (pt w)=0)(f:P3):ev (lin a b) (pt x)*ev f (pt w)=(ev (lin a b) (pt x)-ev (lin a b) (pt w))*ev f (pt a)+ev (lin a b) (pt w)*ev f (pt x):=by unfold ev lin pt at*;grind
def aFN{a b x c d:V}(hA:ev (lin a b) (pt x)≠0)(c0:ev (lin a x) (pt c)=0)(d0:ev (lin a x) (pt d)=0):
  cmb (ev (lin a b) (pt d)) (pt c) (-(ev (lin a b) (pt c))) (pt d)=cmb (ev (lin a b) (pt d)-ev (lin a b) (pt c)) (pt a) 0 (pt a):=by
 have rc1:=Af (b:=b) c0 ⟨1,0,0⟩;have rc2:=Af (b:=b) c0 ⟨0,1,0⟩;have rd1:=Af (b:=b) d0 ⟨1,0,0⟩;have rd2:=Af (b:=b) d0 ⟨0,1,0⟩;have ex:∀w:V,ev ⟨1,0,0⟩ (pt w)=w.x:=λw=>by unfold ev pt;simp
 have ey:∀w:V,ev ⟨0,1,0⟩ (pt w)=w.y:=λw=>by unfold ev pt;simp
 rw[ex,ex,ex]at rc1 rd1;rw[ey,ey,ey]at rc2 rd2;clear c0 d0 ex ey;generalize ev (lin a b) (pt x)=A at*;generalize ev (lin a b) (pt c)=C at*;generalize ev (lin a b) (pt d)=D at*;unfold cmb pt;simp only[P3.mk.injEq];refine⟨?_,?_,aC⟩
 .apply pY hA;grind
 .apply pY hA;grind
def aBB{a x c d:V}{z:P3}{x1 y1 s:Int}(he:cmb x1 (pt c) y1 (pt d)=cmb s (cmb 1 (pt a) 1 (pt x)) 0 z):cmb x1 (pt c) y1 (pt d)=cmb s (pt a) s (pt x):=by rw[he];unfold cmb;grind
def ZP(H:Filled W side ins){a b:V}(hab:side a b)(hL:Lft ins a b):∃x,side a x/\0<ev (lin a b) (pt x):=by
 have Nt:=H.net;have hne:=Nt.ne hab;refine dS λhno=> ?_;obtain⟨N,u,v,x,P,q,hN0,hP,hin,S⟩:=see H hab hL;obtain⟨p0,p1,p2,p3⟩:=n7.1 hP;have hra:ev (ln (pt a) P) (pt a)=0:=JI _ _;have hka:=S.ka;have hax:=S.ax;have hrx:=S.rx;have hkx:=S.kx;have hane:a≠x:=λe=>aH;have vr:∀s t:Int,0<s->0<t->0<ev (ln (pt a) P) (cmb s (pt a) t (pt x)):=λs t hs ht=>by rw[bB,hra];have:=bJ ht hrx;omega
 have vk:∀s t:Int,0<s->0<t->0<ev (lin v u) (cmb s (pt a) t (pt x)):=λs t hs ht=>by rw[bB];have:=bJ hs hka;have:=mpp (aC:0<=t) hkx;omega
 have vg:∀s t:Int,ev (lin a x) (cmb s (pt a) t (pt x))=0:=λs t=>by rw[bB,cN,cU];omega
 have tie:∀w∈W,ev (lin a x) (pt w)=0->0<ev (lin a b) (pt w)->0<=ev (lin v u) (pt w)->ev (lin a b) (pt x)<=ev (lin a b) (pt w):=by
  intro w hw h0 h1 h2;have e1:=S.ang (w:=x) (pt w);rw[h0,fP]at e1;have rw':0<ev (ln (pt a) P) (pt w):=S.thinR w hw h1;have eu:=S.ang (w:=x) (pt u);have ew:=S.ang (w:=w) (pt u);have m1:=mpp (aC:0<=ev (lin a b) P) S.ux;have e2:ev (lin a b) (pt x)*(ev (lin a b) (pt w)*ev (ln (pt a) P) (pt u)-ev (lin a b) (pt u)*ev (ln (pt a) P) (pt w))=ev (lin a b) (pt w)*(ev (lin a b) (pt x)*ev (ln (pt a) P) (pt u)-ev (lin a b) (pt u)*ev (ln (pt a) P) (pt x)):=by generalize ev (lin a b) (pt x)=A at*;generalize ev (lin a b) (pt w)=Aw at*;generalize ev (ln (pt a) P) (pt x)=R at*;generalize ev (ln (pt a) P) (pt w)=Rw at*;generalize ev (ln (pt a) P) (pt u)=Ru at*;generalize ev (lin a b) (pt u)=Au at*;grind
  have g1:=mpp (aC:0<=ev (lin a b) (pt w)) (aC:0<=ev (lin a b) (pt x)*ev (ln (pt a) P) (pt u)-ev (lin a b) (pt u)*ev (ln (pt a) P) (pt x));rw[<-e2,gu]at g1;have g2:=nnl hax g1;rw[<-ew,gu]at g2;exact(S.least w hw rw' h2 (nnl p1 g2)).2 h0
 have hopen:∀c d,side c d->∀x1 y1 s t:Int,0<=x1->0<=y1->0<s->0<t->cmb x1 (pt c) y1 (pt d)≠cmb s (pt a) t (pt x):=by
  intro c d hcd x1 y1 s t hx1 hy1 hs ht he;have zr:=vr s t hs ht;have zk:=vk s t hs ht;have zg:=vg s t;have ed:=congrArg P3.d he;simp only[cmb,pt]at ed;have eα:=congrArg (ev (lin a b)) he;rw[bB,bB,cN]at eα;have m1:=bJ ht hax;rw[<-he]at zr zk zg;have hz:=zg;rw[bB]at hz;have n1:¬(0<x1/\ev (lin a x) (pt c)<0):=λ⟨h1,h2⟩=>S.wedge hcd h1 hy1 zr zk aC h2;have n2:¬(0<y1/\ev (lin a x) (pt d)<0):=λ⟨h1,h2⟩=>by rw[ng]at zr zk zg;exact S.wedge (Nt.symm hcd) h1 hx1 zr zk aC h2
  have t1:0<=x1*ev (lin a x) (pt c):=by
   rcases cH 0 x1 with g|g
   .exact mpp hx1 aC
   .grind
  have t2:0<=y1*ev (lin a x) (pt d):=by
   rcases cH 0 y1 with g|g
   .exact mpp hy1 aC
   .grind
  have kr:=zk;rw[bB]at kr;have alone:∀{w:V} {k:Int},w∈W->0<k->k*ev (lin a x) (pt w)=0->k*ev (lin a b) (pt w)=t*ev (lin a b) (pt x)->0<k*ev (lin v u) (pt w)->k=s+t->False:=by
   intro w k hw hk h1 h2 h3 h4;have g0:ev (lin a x) (pt w)=0:=by
    rcases dI.1 h1 with g|g
    .omega
    .exact g
   have:=tie w hw g0 (kK hk aC) (by have:=kK hk h3;omega);have q1:=dg this (aC:0<=k);rw[h2,h4,rT]at q1;have:=bJ hs hax;omega
  by_cases hx0:x1=0
  .subst x1;exact alone (Nt.mem (Nt.symm hcd)) (aC:0<y1) aC aC aC aC
  by_cases hy0:y1=0
  .subst y1;exact alone (Nt.mem hcd) (aC:0<x1) aC aC aC aC
  have c0:ev (lin a x) (pt c)=0:=by
   rcases dI.1 (aC:x1*ev (lin a x) (pt c)=0)with g|g
   .omega
   .exact g
  have d0:ev (lin a x) (pt d)=0:=by
   rcases dI.1 (aC:y1*ev (lin a x) (pt d)=0)with g|g
   .omega
   .exact g
  have fin:∀{c d:V} {x1 y1:Int},side c d->0<x1->0<y1->ev (lin a x) (pt c)=0->ev (lin a x) (pt d)=0->x1*ev (lin a b) (pt c)+y1*ev (lin a b) (pt d)=t*ev (lin a b) (pt x)->x1+y1=s+t->ev (lin a b) (pt c)<=ev (lin a b) (pt d)->False:=by
   intro c d x1 y1 hcd hx1 hy1 c0 d0 hs1 hs2 hle;have hca:c≠a:=λe=>by subst e;rw[cN]at hs1;exact hno ⟨d,hcd,kK hy1 aC⟩
   have hda:d≠a:=λe=>by subst e;rw[cN]at hs1;exact hno ⟨c,Nt.symm hcd,kK hx1 aC⟩
   rcases cH 0 (ev (lin a b) (pt c))with g|g
   ·
    have hlt:ev (lin a b) (pt c)<ev (lin a b) (pt x):=by
     have q1:=dg hle (aC:0<=y1);have q2:(s+t)*ev (lin a b) (pt c)<=t*ev (lin a b) (pt x):=by rw[<-hs2,rT];omega
     have q3:=bJ hs hax;refine nL.1 λh=> ?_;have q4:=dg h (aC:0<=s+t);have q5:(s+t)*ev (lin a b) (pt x)=s*ev (lin a b) (pt x)+t*ev (lin a b) (pt x):=rT _ _ _;omega
    have hk:0<=ev (lin v u) (pt c):=by have r:=Af (b:=b) c0 (lin v u);have q1:=mpp (aC:0<=ev (lin a b) (pt x)-ev (lin a b) (pt c)) (aC:0<=ev (lin v u) (pt a));have q2:=mpp (aC:0<=ev (lin a b) (pt c)) hkx;exact nnl hax aH
    have:=tie c (Nt.mem hcd) c0 g hk;omega
   ·
    have hd:0<ev (lin a b) (pt d):=by have:=mpn (aC:0<=x1) g;exact kK hy1 aC
    have k:a=c\/a=d:=Nt.clear hcd (Nt.mem hab) (ev (lin a b) (pt d)) (-(ev (lin a b) (pt c))) (ev (lin a b) (pt d)-ev (lin a b) (pt c)) aC aC (aFN aC c0 d0) aC;grind
  rcases yt (ev (lin a b) (pt c)) (ev (lin a b) (pt d))with h|h
  .exact fin (x1:=x1) (y1:=y1) hcd aC aC c0 d0 aC aC h
  .exact fin (x1:=y1) (y1:=x1) (Nt.symm hcd) aC aC d0 c0 aC aC h
 have hG:∀c d,side c d->iC [ln (pt a) P,lin x a,lin v u] ⟨c,d⟩:=by
  intro c d hcd;refine JH λx1 y1 hx1 hy1 hxy hq=> ?_;have e1:∀g:P3,x1*ev g (pt c)+y1*ev g (pt d)=ev g (cmb x1 (pt c) y1 (pt d)):=λg=>(bB _ _ _ _ _).symm;simp only[bO,cp,or_false,forall_eq_or_imp,forall_eq,e1]at hq;obtain⟨h1,h2,h3⟩:=hq;rw[jf]at h2;have h2':=h2;rw[bB]at h2';by_cases hc:x1*ev (lin a x) (pt c)<0
  .have hx0:0<x1:=by
    rcases cH 0 x1 with g|g
    .exact g
    .grind
   exact S.wedge hcd hx0 hy1 h1 h3 aC (zd hx0 hc)
  .have hd:y1*ev (lin a x) (pt d)<0:=aC;have hy0:0<y1:=by
    rcases cH 0 y1 with g|g
    .exact g
    .grind
   rw[ng]at h1 h2 h3;exact S.wedge (Nt.symm hcd) hy0 hx1 h1 h3 aC (zd hy0 hd)
 have hγP:ev (lin a x) P<0:=by have:=S.ang (w:=x) P;rw[show ev (ln (pt a) P) P=0 from Dg _ _,fP]at this;have:=bJ p1 hrx;exact zd p1 aC
 have hL2:=jw hne;have hpt:∃z,In [ln (pt a) P,lin x a,lin v u] z/\In (thin a b N) z:=by
  let K:Int:=1+(ev (pC a b N) (pt x)).natAbs
  have hK:0<K:=by show 0<1+((ev (pC a b N) (pt x)).natAbs:Int);omega
  have hKdef:ev (pC a b N) (pt x)<=K-1/\ -(K-1)<=ev (pC a b N) (pt x):=by show _<=1+((ev (pC a b N) (pt x)).natAbs:Int)-1/\_;omega
  have hFa:1<=ev (pC a b N) P:=by rw[nZ];omega
  generalize K=K at*;obtain⟨M,hM⟩:∃M:Int,0<=M/\0<M*ev (lin v u) (pt a)+(K*ev (lin v u) P+ev (lin v u) (pt x))/\0<M*cL a b+(K*(ev (bG b a) P-N*ev (lin a b) P)+(ev (bG b a) (pt x)-N*ev (lin a b) (pt x))):=by
   refine⟨1+(K*ev (lin v u) P+ev (lin v u) (pt x)).natAbs+(K*(ev (bG b a) P-N*ev (lin a b) P)+(ev (bG b a) (pt x)-N*ev (lin a b) (pt x))).natAbs,aC,?_,?_⟩
   .have:=dg (aC:1<=ev (lin v u) (pt a)) (aC:0<=1+((K*ev (lin v u) P+ev (lin v u) (pt x)).natAbs:Int)+((K*(ev (bG b a) P-N*ev (lin a b) P)+(ev (bG b a) (pt x)-N*ev (lin a b) (pt x))).natAbs:Int));omega
   .have:=dg (aC:1<=cL a b) (aC:0<=1+((K*ev (lin v u) P+ev (lin v u) (pt x)).natAbs:Int)+((K*(ev (bG b a) P-N*ev (lin a b) P)+(ev (bG b a) (pt x)-N*ev (lin a b) (pt x))).natAbs:Int));omega
  obtain⟨hM0,hM1,hM2⟩:=hM;have hzd:0<(cmb 1 (cmb M (pt a) K P) 1 (pt x)).d:=by simp only[cmb,pt];have:=bJ hK p0;omega
  refine⟨cmb 1 (cmb M (pt a) K P) 1 (pt x),⟨hzd,?_⟩,?_⟩
  .simp only[bO,cp,or_false,forall_eq_or_imp,forall_eq];refine⟨?_,?_,?_⟩
   .rw[bB,bB,hra,show ev (ln (pt a) P) P=0 from Dg _ _];omega
   .rw[jf,bB,bB,cN,cU];have:=gr hK hγP;omega
   .rw[bB,bB];omega
  .rw[n7];refine⟨hzd,?_,?_,?_⟩
   .rw[bB,bB,cN];have:=bJ hK p1;omega
   .have g:0<ev (pC a b N) (cmb 1 (cmb M (pt a) K P) 1 (pt x)):=by
     rw[bB,bB];have z:ev (pC a b N) (pt a)=0:=by rw[nZ,mP,cN];omega
     rw[z];have:=dg hFa (aC:0<=K);omega
    rw[nZ]at g;omega
   .rw[bB,bB,bB,bB,sK,Cv,cN];grind
 obtain⟨z,hz1,hz2⟩:=hpt;have hzi:=hin z hz2;refine hno ⟨x,H.max a (Nt.mem hab) x S.mem hane hopen ?_,hax⟩;rw[<-hzi];refine H.same _ _ (by simp only[cmb,pt];omega) hz1.1 λc d hcd hm=> ?_;obtain⟨x1,y1,s,t,hx1,hy1,hxy,hs,ht,he⟩:=hm;rcases cH 0 t with ht0|ht0
 .obtain⟨f,hf,g⟩:=hG c d hcd x1 y1 hx1 hy1 hxy;have eF:=congrArg (ev f) he;rw[bB,bB]at eF;change x1*ev f (pt c)+y1*ev f (pt d)<=0 at g;change x1*ev f (pt c)+y1*ev f (pt d)=_ at eF;have g1:=bJ ht0 (hz1.2 f hf);have g2:0<=s*ev f (cmb 1 (pt a) 1 (pt x)):=mpp hs (by
   simp only[bO,cp,or_false]at hf;rcases hf with rfl|rfl|rfl
   .grind
   .rw[jf,vg];omega
   grind)
  omega
 .have t0:t=0:=aC;subst t0;have hs0:0<s:=by
   have:=congrArg P3.d he;simp only[cmb,pt]at this;rcases cH 0 s with g|g
   .exact g
   .omega
  exact hopen c d hcd x1 y1 s s hx1 hy1 hs0 hs0 (aBB he)
end
section
variable {W:List V} {side:V->V->Prop} {ins:P3->Bool}
structure Tri(W:List V)(side:V->V->Prop)(ins:P3->Bool)(a b c:V):Prop where
 ab:side a b
 bc:side b c
 ca:side c a
 left:0<ev (lin a b) (pt c)
 empty:∀w∈W,0<=ev (lin a b) (pt w)->0<=ev (lin b c) (pt w)->0<=ev (lin c a) (pt w)->w=a\/w=b\/w=c
 mid:ins ⟨a.x+b.x+c.x,a.y+b.y+c.y,3⟩=aE
def ctr(a b c:V):P3:=⟨a.x+b.x+c.x,a.y+b.y+c.y,3⟩
def Tri.rot{a b c:V}(h:Tri W side ins a b c):Tri W side ins b c a:=by
 refine⟨h.bc,h.ca,h.ab,by rw[ik];exact h.left,λw hw h1 h2 h3=> ?_,?_⟩
 .rcases h.empty w hw h3 h1 h2 with e|e|e
  .grind
  .exact .inl e
  grind
 .have:=h.mid;grind
def BA{a b c:V}(h:0<ev (lin a b) (pt c)):In [lin a b,lin b c,lin c a] (ctr a b c):=by
 refine⟨by show(0:Int)<3;omega,?_⟩;have e:∀f:P3,ev f (ctr a b c)=ev f (pt a)+ev f (pt b)+ev f (pt c):=λf=>by unfold ev ctr pt;grind
 have e1:ev (lin c a) (pt b)=ev (lin a b) (pt c):=by unfold ev lin pt;grind
 simp only[bO,cp,or_false,forall_eq_or_imp,forall_eq];refine⟨?_,?_,?_⟩
 .rw[e,cN,cU];omega
 .rw[e,cN,cU,ik a b c];omega
 .rw[e,cN,cU,e1];omega
def aBa(N:Net W side){a b c:V}(hab:side a b)(hbc:side b c)(hca:side c a)(hD:0<ev (lin a b) (pt c))(hv:∀w∈W,0<=ev (lin a b) (pt w)->0<=ev (lin b c) (pt w)->0<=ev (lin c a) (pt w)->w=a\/w=b\/w=c):
  ∀u v,side u v->iC [lin a b,lin b c,lin c a] ⟨u,v⟩:=by
 have sector:∀x,side a x->¬(0<ev (lin a b) (pt x)/\0<ev (lin c a) (pt x)):=by
  rintro x hax ⟨h1,h2⟩;by_cases h3:0<=ev (lin b c) (pt x)
  .rcases hv x (N.mem (N.symm hax)) aC h3 aC with e|e|e<;>subst e
   .rw[cN]at h1;omega
   .rw[cU]at h1;omega
   .rw[cN]at h2;omega
  ·
   have hp:ev (lin b c) (cmb (-(ev (lin b c) (pt x))) (pt a) (ev (lin a b) (pt c)) (pt x))=0:=by rw[bB,ik a b c,oV,gu];omega
   have g:=sJ (a:=b) (b:=c) (c:=a) hp;rw[ik a b c]at g;have p1:=bJ hD h1;have p2:=bJ hD h2;have v1:ev (lin c a) (cmb (-(ev (lin b c) (pt x))) (pt a) (ev (lin a b) (pt c)) (pt x))=ev (lin a b) (pt c)*ev (lin c a) (pt x):=by rw[bB,cU];omega
   have v2:ev (lin a b) (cmb (-(ev (lin b c) (pt x))) (pt a) (ev (lin a b) (pt c)) (pt x))=ev (lin a b) (pt c)*ev (lin a b) (pt x):=by rw[bB,cN];omega
   rw[v1,v2]at g;have:cmb (ev (lin a b) (pt c)* -(ev (lin b c) (pt x))) (pt a) (ev (lin a b) (pt c)*ev (lin a b) (pt c)) (pt x)=cmb (ev (lin a b) (pt c)*ev (lin c a) (pt x)) (pt b) (ev (lin a b) (pt c)*ev (lin a b) (pt x)) (pt c):=by rw[g];unfold cmb;simp only[P3.mk.injEq];refine⟨?_,?_,?_⟩<;>grind
   rcases N.apart hax hbc _ _ _ _ (bJ hD aC) (bJ hD hD) p2 p1 this with⟨rfl,rfl⟩|⟨rfl,rfl⟩
   .exact N.ne hab rfl
   .exact N.ne hca rfl
 have K:Corner W side a b c 0:=by
  refine⟨hab,N.symm hca,hD,sector,kY _,λw hw ha h1 h2=> ?_⟩;refine FK.1 λh3=> ?_;rcases hv w hw h1 aC h2 with e|e|e
  .exact ha e
  .rw[e,cN]at h3;omega
  .rw[e,cU]at h3;omega
 intro u v huv x y hx hy hxy;obtain⟨f,hf,g⟩:=K.free N huv x y hx hy hxy;simp only[bO,cp,or_false]at hf;rcases hf with rfl|rfl|rfl
 .grind
 .grind
 .have e3:∀w:V,ev (over b c 0) (pt w)=ev (lin b c) (pt w):=λw=>by rw[n8];omega
  grind
def Tri.free(N:Net W side){a b c:V}(h:Tri W side ins a b c):∀u v,side u v->iC [lin a b,lin b c,lin c a] ⟨u,v⟩:=aBa N h.ab h.bc h.ca h.left h.empty
open Classical in
def C5(H:Filled W side ins){a b:V}(hab:side a b)(hL:Lft ins a b):∃c,Tri W side ins a b c:=by
 have N:=H.net;have hne:=N.ne hab;have hL2:=jw hne;obtain⟨x0,hx0,hα0⟩:=ZP H hab hL;have hl:(W.filter λx=>decide (side a x/\0<ev (lin a b) (pt x)))≠[] :=LR (eY.2 ⟨N.mem (N.symm hx0),aH⟩);obtain⟨c,hc,hm⟩:=Dt (λx:V=> -(ev (bG a b) (pt x))) (λx:V=>ev (lin a b) (pt x)) hl aH;obtain⟨hac,hD⟩:=of_decide_eq_true (eY.1 hc).2;have ang:∀x:V,cL a b*ev (lin a c) (pt x)=ev (bG a b) (pt c)*ev (lin a b) (pt x)-ev (lin a b) (pt c)*ev (bG a b) (pt x):=λx=>by unfold cL ev bG lin pt;grind
 have hn:∀x,side a x->¬(0<ev (lin a b) (pt x)/\0<ev (lin c a) (pt x)):=by rintro x hx ⟨h1,h2⟩;have:=hm x (eY.2 ⟨N.mem (N.symm hx),aH⟩);have e1:=ang x;rw[jf]at h2;have:=gr hL2 (aC:ev (lin a c) (pt x)<0);rw[oV,oV]at*;have e2:ev (lin a b) (pt c)*ev (bG a b) (pt x)=ev (bG a b) (pt x)*ev (lin a b) (pt c):=gu _ _;omega
 obtain⟨e1,e2,e3,e4⟩:=ear H hab hac hD hn hL;refine⟨c,hab,e4,N.symm hac,hD,e1,e3 _ ?_⟩;obtain⟨c0,c1⟩:=BA hD;refine⟨c0,λf hf=> ?_⟩;simp only[bO,cp,or_false]at hf;rcases hf with rfl|rfl|rfl
 .exact c1 _ af
 .exact c1 _ af
 .have:=c1 (lin b c) af;rw[n8];show 0<ev (lin b c) (ctr a b c)-0*3;omega
def Mz(N:Net W side){a b c c':V}(h:Tri W side ins a b c)(h':Tri W side ins a b c'):c=c':=by
 refine dS λhne=> ?_;have cW:=N.mem h.ca;have cW':=N.mem h'.ca;have d:=h.left;have d':=h'.left;have hca:c≠a:=N.ne h.ca;have hca':c'≠a:=N.ne h'.ca;have hcb:c≠b:=λe=>N.ne h.bc e.symm;have hcb':c'≠b:=λe=>N.ne h'.bc e.symm;have n1:¬(0<=ev (lin b c) (pt c')/\0<=ev (lin c a) (pt c')):=λ⟨h1,h2⟩=>by
  rcases h.empty c' cW' aC h1 h2 with e|e|e
  .exact hca' e
  .exact hcb' e
  grind
 have n2:¬(0<=ev (lin b c') (pt c)/\0<=ev (lin c' a) (pt c)):=λ⟨h1,h2⟩=>by
  rcases h'.empty c cW aC h1 h2 with e|e|e
  .exact hca e
  .exact hcb e
  grind
 have s1:ev (lin b c') (pt c)= -ev (lin b c) (pt c'):=by unfold ev lin pt;grind
 have s2:ev (lin c' a) (pt c)= -ev (lin c a) (pt c'):=by unfold ev lin pt;grind
 have key:∀{c c':V},side c a->side b c->side c' a->side b c'->c≠c'->0<ev (lin a b) (pt c)->0<ev (lin a b) (pt c')->ev (lin b c) (pt c')<0->0<ev (lin c a) (pt c')->False:=by
  intro c c' hca hbc hca' hbc' hne d d' h1 h2;have hp:ev (lin b c) (cmb (-(ev (lin b c) (pt c'))) (pt a) (ev (lin a b) (pt c)) (pt c'))=0:=by rw[bB,ik a b c,oV,gu];omega
  have g:=sJ (a:=b) (b:=c) (c:=a) hp;rw[ik a b c]at g;have v1:ev (lin c a) (cmb (-(ev (lin b c) (pt c'))) (pt a) (ev (lin a b) (pt c)) (pt c'))=ev (lin a b) (pt c)*ev (lin c a) (pt c'):=by rw[bB,cU];omega
  have v2:ev (lin a b) (cmb (-(ev (lin b c) (pt c'))) (pt a) (ev (lin a b) (pt c)) (pt c'))=ev (lin a b) (pt c)*ev (lin a b) (pt c'):=by rw[bB,cN];omega
  rw[v1,v2]at g;have:cmb (ev (lin a b) (pt c)* -(ev (lin b c) (pt c'))) (pt a) (ev (lin a b) (pt c)*ev (lin a b) (pt c)) (pt c')=cmb (ev (lin a b) (pt c)*ev (lin c a) (pt c')) (pt b) (ev (lin a b) (pt c)*ev (lin a b) (pt c')) (pt c):=by rw[g];unfold cmb;simp only[P3.mk.injEq];refine⟨?_,?_,?_⟩<;>grind
  rcases N.apart (N.symm hca') hbc _ _ _ _ (bJ d aC) (bJ d d) (bJ d h2) (bJ d d') this with⟨e,e'⟩|⟨e,e'⟩
  .grind
  .exact N.ne hbc' e'.symm
 by_cases g:ev (lin b c) (pt c')<0
 .refine key h.ca h.bc h'.ca h'.bc hne d d' g ?_;omega
 .have g3:ev (lin b c') (pt c)<0:=aC;exact key h'.ca h'.bc h.ca h.bc aH d' d g3 aC
end
section
variable {W:List V} {side:V->V->Prop} {ins:P3->Bool}
variable{a b:V}
def Net.ray(N:Net W side){v:V}(hab:side a b)(hav:side a v)(h0:ev (lin a b) (pt v)=0)(h1:0<=ev (bG a b) (pt v)):v=b:=by
 have hL:=jw (N.ne hab);have g:=mr h0;by_cases h2:ev (bG a b) (pt v)<=cL a b
 .rcases N.clear hab (N.mem (N.symm hav)) (cL a b*(pt v).d-ev (bG a b) (pt v)) (ev (bG a b) (pt v)) (cL a b) (by show 0<=cL a b*1-_;omega) h1 (by rw[g];unfold cmb pt;simp) hL with e|e
  .exact absurd e.symm (N.ne hav)
  .exact e
 .rcases N.clear hav (N.mem (N.symm hab)) (ev (bG a b) (pt v)-cL a b) (cL a b) (ev (bG a b) (pt v)) aC aC (by unfold cmb pt at g|-;grind) aC with e|e
  .exact absurd e.symm (N.ne hab)
  grind
def xJ(s t:Int)(a b:V):(cmb s (pt a) t (pt b)).d=s+t:=by unfold cmb pt;simp
def Net.off(N:Net W side){u v:V}(hab:side a b)(huv:side u v):Off a b ⟨u,v⟩\/(u=a/\v=b)\/(u=b/\v=a):=by
 have ray:∀{a b v:V},side a b->side a v->v=b\/(ev (lin a b) (pt v)≠0\/ev (bG a b) (pt v)<0):=λ{a b v} hab hav=>by
  by_cases h0:ev (lin a b) (pt v)=0
  .by_cases h1:0<=ev (bG a b) (pt v)
   .exact .inl (N.ray hab hav h0 h1)
   omega
  omega
 have ray':∀{a b v:V},side a b->side b v->v=a\/(ev (lin a b) (pt v)≠0\/ev (bG b a) (pt v)<0):=λ{a b v} hab hbv=>by
  rcases ray (N.symm hab) hbv with e|e|e
  .exact .inl e
  .exact .inr (.inl (by rw[jf]at e;omega))
  omega
 by_cases hm:gp ⟨u,v⟩ (pt a) (pt b)
 .obtain⟨x,y,s,t,hx,hy,hxy,hs,ht,e⟩:=hm;have hd:=congrArg P3.d e;rw[xJ,xJ]at hd;have one:u=a\/u=b\/v=a\/v=b:=by
   rcases cH 0 x with hx'|hx'
   .rcases cH 0 y with hy'|hy'
    .rcases N.same hab huv hx' hy' hs ht e with⟨e1,_⟩|⟨e1,_⟩
     .exact .inl e1
     grind
    .have y0:y=0:=aC;subst y0;rcases N.clear hab (N.mem huv) s t x hs ht (by rw[<-e];unfold cmb;simp) hx' with e1|e1
     .exact .inl e1
     grind
   .have x0:x=0:=aC;subst x0;rcases N.clear hab (N.mem (N.symm huv)) s t y hs ht (by rw[<-e];unfold cmb;simp) aC with e1|e1
    .grind
    grind
  rcases one with rfl|rfl|rfl|rfl
  .rcases ray hab huv with e1|e1
   .grind
   .exact .inl ⟨N.ne huv,.inr (.inl ⟨rfl,e1⟩)⟩
  .rcases ray' hab huv with e1|e1
   .grind
   .exact .inl ⟨N.ne huv,.inr (.inr (.inr (.inl ⟨rfl,e1⟩)))⟩
  .rcases ray hab (N.symm huv)with e1|e1
   .grind
   .exact .inl ⟨N.ne huv,.inr (.inr (.inl ⟨rfl,e1⟩))⟩
  .rcases ray' hab (N.symm huv)with e1|e1
   .grind
   .exact .inl ⟨N.ne huv,.inr (.inr (.inr (.inr ⟨rfl,e1⟩)))⟩
 .exact .inl ⟨N.ne huv,.inl hm⟩
open Classical in
def Net.thin(N:Net W side){a b:V}(hab:side a b):∃N0:Int,1<=N0/\∀n,N0<=n->∀u v,side u v->iC (thin a b n) ⟨u,v⟩:=by
 obtain⟨N0,h1,h2⟩:=PJ (N.ne hab) (l:=(W.flatMap λu=>W.map λv=>(⟨u,v⟩:S)).filter λe=>decide (side e.a e.b)) λe he=>by have:=of_decide_eq_true (eY.1 he).2;exact N.off hab this
 refine⟨N0,h1,λn hn u v huv=>h2 n hn ⟨u,v⟩ (eY.2 ⟨?_,decide_eq_true huv⟩)⟩;exact dL.2 ⟨u,N.mem huv,bn.2 ⟨v,N.mem (N.symm huv),rfl⟩⟩
def ti{n m:Int}(hnm:n<=m){q:P3}(h:In (thin a b m) q):In (thin a b n) q:=by obtain⟨h0,h1,h2,h3⟩:=n7.1 h;have:=nJ hnm (aC:0<=ev (lin a b) q);exact n7.2 ⟨h0,h1,aC,aC⟩
open Classical in
def Gq{c:V}(hne:a≠b)(n:Int){h:Int}(hc:0<ev (lin a b) (pt c))(hh:h<ev (lin a b) (pt c)):∃q,In (thin a b n) q/\In [lin a b,lin c a,over b c h] q:=by obtain⟨q,h1,h2⟩:=Lft.near (ins:=λp=>decide (In (thin a b n) p)) hne ⟨n,λm hm q hq=>decide_eq_true (ti hm hq)⟩ hc hh;grind
def zn(hne:a≠b)(n:Int):∃q,In (thin a b n) q:=by
 have hL2:=jw hne;have e9:(b.x-a.x)*(b.x-a.x)-(b.y-a.y)* -(b.y-a.y)=cL a b:=by unfold cL;grind
 obtain⟨M0,hM0,hI⟩:=qg hne (x:= -(b.y-a.y)) (y:=b.x-a.x) aC n;exact⟨_,hI _ (kY _)⟩
structure Calm(W:List V)(side:V->V->Prop)(ins:P3->Bool):Prop where
 net:Net W side
 same:∀p q:P3,0<p.d->0<q.d->(∀u v,side u v->¬gp ⟨u,v⟩ p q)->ins p=ins q
def Filled.calm(H:Filled W side ins):Calm W side ins:=⟨H.net,H.same⟩
def Calm.const(H:Calm W side ins){F:List P3}(hF:∀u v,side u v->iC F ⟨u,v⟩){p q:P3}(hp:In F p)(hq:In F q):ins p=ins q:=
 H.same p q hp.1 hq.1 λu v huv=>(hF u v huv).no hp hq
def Av(H:Calm W side ins)(hab:side a b)(h:∀n:Int,∃q,In (Geo.thin a b n) q/\ins q=aE):Lft ins a b:=by obtain⟨N0,h1,h2⟩:=H.net.thin hab;obtain⟨q,hq,hi⟩:=h N0;refine⟨N0,λn hn p hp=> ?_⟩;rw[<-hi];exact H.const (h2 N0 (kY _)) (ti hn hp) hq
def Lft.not(hne:a≠b)(h:Lft ins a b):¬Lft (λp=> !ins p) a b:=by obtain⟨n,h⟩:=h;rintro⟨m,h'⟩;obtain⟨q,hq⟩:=zn hne (max n m);grind
def aE5(H:Calm W side ins)(hab:side a b):Lft ins a b\/Lft (λp=> !ins p) a b:=by
 obtain⟨N0,h1,h2⟩:=H.net.thin hab;obtain⟨q,hq⟩:=zn (H.net.ne hab) N0;by_cases hi:ins q=aE
 .exact .inl ⟨N0,λn hn p hp=>by rw[<-hi];exact H.const (h2 N0 (kY _)) (ti hn hp) hq⟩
 .exact .inr ⟨N0,λn hn p hp=>by show(!ins p)=aE;rw[<-H.const (h2 N0 (kY _)) hq (ti hn hp)];grind⟩
def Tri.lft(H:Filled W side ins){c:V}(h:Tri W side ins a b c):Lft ins a b:=by
 have N:=H.net;refine Av H.calm h.ab λn=> ?_;obtain⟨q,hq,hq'⟩:=Gq (N.ne h.ab) n h.left (h:=0) h.left;refine⟨q,hq,?_⟩;have:=h.mid;rw[<-this];refine H.const (h.free N) ⟨hq.1,λf hf=> ?_⟩ (BA h.left);simp only[bO,cp,or_false]at hf;rcases hf with rfl|rfl|rfl
 .exact hq'.2 _ af
 .have:=hq'.2 (over b c 0) af;rw[n8]at this;omega
 .exact hq'.2 _ af
end
def OQ{a b v:V}{s t k:Int}(h1:bF a 4000=aE)(h2:bF b 4000=aE)(hs:0<=s)(ht:0<=t)(hk:0<k)(h:cmb s (pt a) t (pt b)=cmb k (pt v) 0 (pt v)):onS ⟨a,b⟩ v=aE:=by
 have hv:bX ⟨a,b⟩=aE:=by unfold bX;simp[h1,h2]
 rw[ii hv];simp only[cmb,pt,P3.mk.injEq]at h;have box:∀p q r:Int,s*p+t*q=k*r->min p q<=r/\r<=max p q:=λp q r h=>by
  have e:k=s+t:=aC;have l1:k*min p q<=k*r:=by have:=dg (Int.min_le_left p q) hs;have:=dg (Int.min_le_right p q) ht;rw[<-h,e,rT];omega
  have l2:k*r<=k*max p q:=by have:=dg (Int.le_max_left p q) hs;have:=dg (Int.le_max_right p q) ht;rw[<-h,e,rT];omega
  simp_all
 refine⟨?_,?_⟩
 .unfold iO;grind
 .have:k*cross (sub b a) (sub v a)=0:=by have e:k=s+t:=aC;subst e;unfold cross sub;dsimp only;grind
  rcases dI.1 this with g|g
  .omega
  .exact g
def aFM{a b c d:V}(hne:c≠d)(h1:ev (lin c d) (pt a)=0)(h2:ev (lin c d) (pt b)=0):ev (lin a b) (pt c)=0:=by
 have g1:=mr h1;have g2:=mr h2;have hL:=jw hne;have e:cL c d*(cL c d*ev (lin a b) (pt c))=0:=by generalize ev (bG c d) (pt a)=α at*;generalize ev (bG c d) (pt b)=β at*;generalize cL c d=L at*;unfold cmb pt at g1 g2;simp only[P3.mk.injEq]at g1 g2;unfold ev lin pt;dsimp only;grind
 rcases dI.1 e with g|g
 .omega
 .rcases dI.1 g with g|g
  .omega
  .exact g
structure Segs(W:List V)(side:V->V->Prop):Prop where
 symm:∀{a b},side a b->side b a
 ne:∀{a b},side a b->a≠b
 mem:∀{a b},side a b->a∈W
 near:∀v∈W,bF v 4000=aE
 clear:∀{a b v},side a b->v∈W->onS ⟨a,b⟩ v=aE->v=a\/v=b
 cross:∀{a b c d},side a b->side c d->cX ⟨a,b⟩ ⟨c,d⟩≠2
def PG{a b c d:V}{s t:Int}(hs:0<s)(ht:0<t)(h:s*ev (lin a b) (pt c)+t*ev (lin a b) (pt d)=0)(hc:ev (lin a b) (pt c)≠0):turn a b c*turn a b d<0:=by
 unfold turn;rw[zT,<-di,<-di];rcases mc hc with g|g
 .have:=gr hs g;exact .inr ⟨g,V5 (a:=t) aC aC⟩
 .have:=bJ hs g;refine .inl ⟨g,nL.1 λh'=> ?_⟩;have:=mpp (aC:0<=t) h';omega
section
variable {W:List V} {side:V->V->Prop}
def Segs.clear'(H:Segs W side){a b v:V}(hab:side a b)(hv:v∈W)(s t k:Int)(hs:0<=s)(ht:0<=t)(h:cmb s (pt a) t (pt b)=cmb k (pt v) 0 (pt v))(hk:0<k):v=a\/v=b:=
 H.clear hab hv (OQ (H.near _ (H.mem hab)) (H.near _ (H.mem (H.symm hab))) hs ht hk h)
def Segs.beyond(H:Segs W side){a b c d:V}(hab:side a b)(hcd:side c d)(hc:ev (lin a b) (pt c)=0)(hd:ev (lin a b) (pt d)=0)
  (h1:ev (bG a b) (pt c)<ev (bG a b) (pt d)) {x y s t:Int} (hx:0<x) (hy:0<y) (hs:0<s) (ht:0<t) (h:cmb x (pt a) y (pt b)=cmb s (pt c) t (pt d)):a=c/\b=d:=by
 have hL:=jw (H.ne hab);have gc:=mr hc;have gd:=mr hd;have wc:=H.mem hcd;have wd:=H.mem (H.symm hcd);have e1:x*ev (bG a b) (pt a)+y*ev (bG a b) (pt b)=s*ev (bG a b) (pt c)+t*ev (bG a b) (pt d):=by rw[<-bB,<-bB,h]
 rw[mP,sK]at e1;have ed:=congrArg P3.d h;rw[xJ,xJ]at ed;have one:∀v:V,(pt v).d=1:=λ_=>rfl;rw[one]at gc gd;have p1:=bJ hy hL;have c0:ev (bG a b) (pt c)<cL a b:=nL.1 λg=>by
  have:=dg g (aC:0<=s);have:=LU (aC:cL a b<ev (bG a b) (pt d)) ht;have e:(x+y)*cL a b=(s+t)*cL a b:=by rw[ed]
  rw[rT,rT]at e;have:=bJ hx hL;omega
 have d0:0<ev (bG a b) (pt d):=nL.1 λg=>by have:=mpn (aC:0<=t) g;have:=gr hs (aC:ev (bG a b) (pt c)<0);omega
 have hac:a=c:=by
  rcases cH (ev (bG a b) (pt c)) 0 with g|g
  .rcases H.clear' hcd (H.mem hab) (ev (bG a b) (pt d)) (-(ev (bG a b) (pt c))) (ev (bG a b) (pt d)-ev (bG a b) (pt c)) aC aC (by
    unfold cmb pt at gc gd|-;simp only[P3.mk.injEq]at gc gd|-;have hL0:cL a b≠0:=aC;refine⟨?_,?_,?_⟩
    .refine pY hL0 ?_;grind
    .refine pY hL0 ?_;grind
    .omega) aC with e|e
   .exact e
   .rw[<-e,mP]at d0;omega
  .rcases H.clear' hab wc (cL a b-ev (bG a b) (pt c)) (ev (bG a b) (pt c)) (cL a b) aC g (by rw[Bb]at gc;rw[gc];unfold cmb pt;simp) hL with e|e
   .exact e.symm
   .rw[e,sK]at c0;omega
 refine⟨hac,?_⟩;rcases cH (cL a b) (ev (bG a b) (pt d))with g|g
 .rcases H.clear' hcd (H.mem (H.symm hab)) (ev (bG a b) (pt d)-cL a b) (cL a b) (ev (bG a b) (pt d)) aC aC (by unfold cmb pt at gd|-;grind) aC with e|e
  .exact absurd aH (H.ne hab)
  .exact e
 .rcases H.clear' hab wd (cL a b-ev (bG a b) (pt d)) (ev (bG a b) (pt d)) (cL a b) aC aC (by rw[Bb]at gd;rw[gd];unfold cmb pt;simp) hL with e|e
  .grind
  grind
def Segs.net(H:Segs W side):Net W side:=by
 refine⟨H.symm,H.ne,H.mem,λhab hv s t k hs ht h hk=>H.clear' hab hv s t k hs ht h hk,?_⟩;intro a b c d hab hcd x y s t hx hy hs ht h;have na:=H.near _ (H.mem hab);have nb:=H.near _ (H.mem (H.symm hab));have nc:=H.near _ (H.mem hcd);have nd:=H.near _ (H.mem (H.symm hcd));have f1:s*ev (lin a b) (pt c)+t*ev (lin a b) (pt d)=0:=by rw[<-bB,<-h,bB,cN,cU];omega
 have f2:x*ev (lin c d) (pt a)+y*ev (lin c d) (pt b)=0:=by rw[<-bB,h,bB,cN,cU];omega
 by_cases hc:ev (lin a b) (pt c)=0
 .have hd:ev (lin a b) (pt d)=0:=by
   rw[hc,fP,yz]at f1;rcases dI.1 f1 with g|g
   .omega
   .exact g
  rcases cH (ev (bG a b) (pt c)) (ev (bG a b) (pt d))with g|g
  .exact .inl (H.beyond hab hcd hc hd g hx hy hs ht h)
  .rcases cH (ev (bG a b) (pt d)) (ev (bG a b) (pt c))with g'|g'
   .obtain⟨e1,e2⟩:=H.beyond hab (H.symm hcd) hd hc g' hx hy ht hs (by rw[h,ng]);grind
   .exfalso;have gc:=mr hc;have gd:=mr hd;rw[(aC:ev (bG a b) (pt d)=ev (bG a b) (pt c))]at gd;have hL:=jw (H.ne hab);have one:∀v:V,(pt v).d=1:=λ_=>rfl;rw[one]at gc gd;rw[gc]at gd;simp only[P3.mk.injEq,pt]at gd;have q1:=pY aH gd.1;have q2:=pY aH gd.2.1;refine H.ne hcd ?_;cases c;simp_all
 .exfalso;have ha:ev (lin c d) (pt a)≠0:=λg=>by
   have g2:ev (lin c d) (pt b)=0:=by
    rw[g,fP,yz]at f2;rcases dI.1 f2 with g|g
    .omega
    .exact g
   have k1:=aFM (a:=a) (b:=b) (H.ne hcd) g g2;exact hc k1
  have hd:ev (lin a b) (pt d)≠0:=λg=>by
   rw[g,fP,pU]at f1;rcases dI.1 f1 with g|g
   .omega
   .exact hc g
  refine H.cross hab hcd ((qp ⟨a,b⟩ ⟨c,d⟩).cross (by simp[bX,na,nb,nc,nd]) ?_ ⟨PG hs ht f1 hc,PG hx hy f2 ha⟩);rintro p hp ⟨o1,o2⟩;have z1:ev (lin a b) (pt p)=0:=by rw[di];exact((ii (by simp[bX,na,nb])).1 o1).2
  simp only[bO,cp,or_false]at hp;have z2:ev (lin c d) (pt p)=0:=by rw[di];exact((ii (by simp[bX,nc,nd])).1 o2).2
  rcases hp with rfl|rfl|rfl|rfl
  .exact ha z2
  .rw[z2,fP,pU]at f2;rcases dI.1 f2 with g|g
   .omega
   .exact ha g
  .exact hc z1
  omega
end
def aDq{a b:V}{p:P3}(hne:a≠b)(h0:ev (lin a b) p=0)(x1:min a.x b.x*p.d<=p.x)(x2:p.x<=max a.x b.x*p.d)(y1:min a.y b.y*p.d<=p.y)(y2:p.y<=max a.y b.y*p.d):
  ∃x y k:Int,0<=x/\0<=y/\0<k/\x+y=k*p.d/\cmb x (pt a) y (pt b)=⟨k*p.x,k*p.y,k*p.d⟩:=by
 have hL:=jw hne;have g:=mr h0;have one:∀u v q:Int,min u v*p.d<=q->q<=max u v*p.d->0<=(v-u)*(q-u*p.d)/\0<=(v-u)*(v*p.d-q):=λu v q h1 h2=>by
  rcases yt u v with h|h
  .rw[Int.min_eq_left h]at h1;rw[Int.max_eq_right h]at h2;exact⟨mpp aC aC,mpp aC aC⟩
  .rw[Int.min_eq_right h]at h1;rw[Int.max_eq_left h]at h2;exact⟨mnn aC aC,mnn aC aC⟩
 obtain⟨u1,u2⟩:=one _ _ _ x1 x2;obtain⟨v1,v2⟩:=one _ _ _ y1 y2;have ea:ev (bG a b) p=(b.x-a.x)*(p.x-a.x*p.d)+(b.y-a.y)*(p.y-a.y*p.d):=by unfold ev bG;grind
 have eb:cL a b*p.d-ev (bG a b) p=(b.x-a.x)*(b.x*p.d-p.x)+(b.y-a.y)*(b.y*p.d-p.y):=by unfold ev bG cL;grind
 exact⟨cL a b*p.d-ev (bG a b) p,ev (bG a b) p,cL a b,aC,aC,hL,aC,g⟩
def EA{e:S}{p:Pt}(hp:0<p.den)(hne:e.a≠e.b)(h:onP e p=aE):∃x y k:Int,0<=x/\0<=y/\0<k/\x+y=k*p.den/\cmb x (pt e.a) y (pt e.b)=⟨k*p.x,k*p.y,k*p.den⟩:=by rw[KR e p hp]at h;unfold onR at h;simp only[cD,decide_eq_true_eq,beq_iff_eq,oj]at h;obtain⟨⟨⟨⟨h1,h2⟩,h3⟩,h4⟩,h5⟩:=h;exact aDq (p:=p3 p) hne (by rw[<-h5];unfold gi cross sub toV ev lin p3;grind) h1 h2 h3 h4
def I8{e:S}{v:V}(hv:bX e=aE)(hne:e.a≠e.b)(h:onS e v=aE):∃x y k:Int,0<=x/\0<=y/\0<k/\x+y=k/\cmb x (pt e.a) y (pt e.b)=cmb k (pt v) 0 (pt v):=by obtain⟨x,y,k,h1,h2,h3,h4,h5⟩:=EA (p:=fL v) (by show(0:Int)<1;omega) hne ((IA e v).2 ((ii hv).1 h));refine⟨x,y,k,h1,h2,h3,by rw[h4];show k*1=k;omega,?_⟩;rw[h5];unfold cmb pt fL;simp
def Px{a b v:V}(ha:bF a 4000=aE)(hb:bF b 4000=aE):onS ⟨b,a⟩ v=onS ⟨a,b⟩ v:=by
 have v1:bX ⟨a,b⟩=aE:=by simp[bX,ha,hb]
 have v2:bX ⟨b,a⟩=aE:=by simp[bX,ha,hb]
 rw[gR,ii v1,ii v2];have e1:iO ⟨b,a⟩ v=iO ⟨a,b⟩ v:=by unfold iO;dsimp only;rw[Int.min_comm,Int.max_comm,Int.min_comm b.y,Int.max_comm b.y]
 have e2:cross (sub a b) (sub v b)= -cross (sub b a) (sub v a):=Nv b a v;grind
def AU{p:Pt}:∀{l:List S} {ins:Bool},(∃e∈l,onP e p=aE)->fV p l ins=1
 |[],_,⟨e,he,_⟩=>by cases he
 |e::l,ins,⟨e',he',ho⟩=>by
  unfold fV;cases h:onP e p with
  |true=>rfl
  |false=>
   rcases bO.1 he' with rfl|he'
   .grind
   .exact AU ⟨e',he',ho⟩
def aDY{k:Int}(hk:0<k)(p:P3)(e:S):hit ⟨k*p.x,k*p.y,k*p.d⟩ e=hit p e:=by
 have e1:∀w,dn ⟨k*p.x,k*p.y,k*p.d⟩ w=dn p w:=λw=>decide_eq_decide.2 (by rw[(aH:w.y*(k*p.d)=k*(w.y*p.d))];simp_all)
 have e2:decide (0<ev (lin e.a e.b) ⟨k*p.x,k*p.y,k*p.d⟩)=decide (0<ev (lin e.a e.b) p):=decide_eq_decide.2 (by rw[show ev (lin e.a e.b) ⟨k*p.x,k*p.y,k*p.d⟩=k*ev (lin e.a e.b) p by unfold ev;grind];exact⟨λh=>V5 h aC,λh=>bJ hk h⟩)
 unfold hit;grind
def AY{k:Int}(hk:0<k)(r:aU)(p:P3):cY r ⟨k*p.x,k*p.y,k*p.d⟩=cY r p:=by
 unfold cY
 congr 1
 exact lg λe _=>aDY hk p e
def half(c:S):P3:=cmb 1 (pt c.a) 1 (pt c.b)
def SA(c:S):∃k:Int,0<k/\half c=⟨k*(p3 (iW c)).x,k*(p3 (iW c)).y,k*(p3 (iW c)).d⟩:=by
 unfold iW;split
 .refine⟨2,aC,?_⟩;unfold half cmb pt p3;grind
 .refine⟨1,aC,?_⟩;unfold half cmb pt p3;grind
def YY(c:S):0<(iW c).den:=by unfold iW;grind
def ZL{r:aU}(hr:VR r){c:S}(ha:bF c.a 2000=aE)(hb:bF c.b 2000=aE)(h:∀e∈aW r,∀x y s:Int,0<=x->0<=y->0<s->cmb x (pt e.a) y (pt e.b)≠cmb s (pt c.a) s (pt c.b)):
  cE r (iW c)=if cY r (half c)then 2 else 0:=by
 obtain⟨k,hk,e⟩:=SA c;rw[Cd hr (Fr ha hb) λe' he'=> ?_,e,AY hk];refine pZ.2 λho=> ?_;have hne:=hr.p8 he';obtain⟨x,y,m,h1,h2,h3,h4,h5⟩:=EA (YY c) hne ho;refine h e' he' (k*x) (k*y) m (mpp aC h1) (mpp aC h2) h3 ?_;unfold half at e;unfold cmb p3 at*;grind
def Rl{r:aU}(hr:VR r){c:S}(ha:bF c.a 2000=aE)(hb:bF c.b 2000=aE)(h:cE r (iW c)≠1):cE r (iW c)=if cY r (half c)then 2 else 0:=by obtain⟨k,hk,e⟩:=SA c;rw[Cd hr (Fr ha hb) λe' he'=> ?_,e,AY hk];refine pZ.2 λho=>h ?_;unfold cE;rw[(ig _).2 hr,Fr ha hb];exact AU ⟨e',he',ho⟩
structure Most(s:Shape)(v:List V)(acc:List S)(i k:Nat):Prop where
 chord:∀d∈acc,jH s d=aE
 apart:acc.Pairwise λd e=>cK d e≠2
 most:∀a b,a<b->b<aA v->(a<i\/(a=i/\b<k))->jH s ⟨nth v a,nth v b⟩=aE->(⟨nth v a,nth v b⟩:S)∈acc\/∃d∈acc,cK d ⟨nth v a,nth v b⟩=2
def ZU{s:Shape}{v:List V}{acc:List S}{i k:Nat}(h:Most s v acc i k):Most s v (q9 s v acc i k) i (k+1):=by
 have up:∀{acc':List S},(∀d∈acc,d∈acc')->((jH s ⟨nth v i,nth v k⟩=aE)->(⟨nth v i,nth v k⟩:S)∈acc'\/∃d∈acc',cK d ⟨nth v i,nth v k⟩=2)->
   ∀a b,a<b->b<aA v->(a<i\/(a=i/\b<k+1))->jH s ⟨nth v a,nth v b⟩=aE->(⟨nth v a,nth v b⟩:S)∈acc'\/∃d∈acc',cK d ⟨nth v a,nth v b⟩=2:=by
  intro acc' hs hn a b hab hb hl hc;by_cases he:a=i/\b=k
  .grind
  .rcases h.most a b hab hb aC hc with h1|⟨d,h1,h2⟩
   .grind
   grind
 unfold q9;cases hc:jH s ⟨nth v i,nth v k⟩&&(acc.all λd=>cK d ⟨nth v i,nth v k⟩ !=2)with
 |true=>
  rw[if_pos rfl];rw[cD,cC]at hc;refine⟨λd hd=> ?_,?_,aH⟩
  .rcases bz.1 hd with hd|hd
   .exact h.chord d hd
   grind
  .rw[Vz];refine⟨h.apart,aH,λd hd e he=> ?_⟩;grind
 |false=>
  refine⟨h.chord,h.apart,up (λd hd=>hd) λh1=> ?_⟩;grind
def Pd{s:Shape}{v:List V}{acc:List S}{i:Nat}(h:Most s v acc i (i+1)):∀m,Most s v (tH s v acc i m) i (i+1+m)
 |0=>h
 |m+1=>ZU (Pd h m)
def Qm(s:Shape)(v:List V):∀i,Most s v (jG s v i) i (i+1)
 |0=>⟨(λd hd=>by cases hd),wU,aH⟩
 |i+1=>by
  have h:=Pd (Qm s v i) (aA v-(i+1));exact⟨h.chord,h.apart,λa b h1 h2 h3=>h.most a b h1 h2 aC⟩
def Ha(s:Shape)(v:List V):Most s v (oL s v) (aA v) (aA v+1):=Qm s v (aA v)
def IH{s t:S}(h:cX s t=2):(bX s&&bX t)=aE/\(∀p,p∈ends s t->¬cV s t p)/\turn s.a s.b t.a*turn s.a s.b t.b<0/\turn t.a t.b s.a*turn t.a t.b s.b<0:=by
 have M:=qp s t;have hv:(bX s&&bX t)=aE:=by
  cases hv:(bX s&&bX t)with
  |true=>rfl
  |false=>have:=M.none hv;omega
 have hn:∀p,p∈ends s t->¬cV s t p:=by
  intro p hp ho;by_cases hu:∀p q,p∈[s.a,s.b,t.a,t.b]->q∈[s.a,s.b,t.a,t.b]->cV s t p->cV s t q->p=q
  .have:=M.touch hv hu ⟨p,hp,ho⟩;omega
  .refine hu λp q hp hq o1 o2=>dS λhne=> ?_;have:=M.over p q hp hq hne o1 o2;omega
 refine⟨hv,hn,dS λhc=> ?_⟩;have:=M.else_ hv hn hc;omega
def CZ{s t:S}{p:V}(hp:p∈ends s t)(ho:cV s t p):cX s t≠2:=λh=>(IH h).2.1 p hp ho
def Nw(a b c:V):turn b a c= -turn a b c:=by unfold turn;rw[show cross (sub a b) (sub c b)= -cross (sub b a) (sub c a) by have:=Nv a b c;omega];unfold sgn;grind
def zu{a b:V}{t:S}(h:cX ⟨b,a⟩ t=2):cX ⟨a,b⟩ t=2:=by
 obtain⟨h1,h2,h3,h4⟩:=IH h;have hva:bF a 4000=aE/\bF b 4000=aE:=by simp[bX]at h1;grind
 have hv:(bX ⟨a,b⟩&&bX t)=aE:=by simp[bX]at h1|-;grind
 refine(qp ⟨a,b⟩ t).cross hv (λp hp ho=>h2 p ?_ ?_) ⟨?_,?_⟩
 .rw[lv];grind
 .obtain⟨o1,o2⟩:=ho;exact⟨by rw[Px hva.1 hva.2];exact o1,o2⟩
 .rw[Nw b a,Nw b a,Int.neg_mul_neg];exact h3
 grind
def eE(B:List S)(a b:V):Prop:=(⟨a,b⟩:S)∈B\/(⟨b,a⟩:S)∈B
def RA{W:List V}{B:List S}(hn:∀v∈W,bF v 4000=aE)(hw:∀e∈B,e.a∈W/\e.b∈W/\e.a≠e.b)(hc:∀e∈B,∀v∈W,onS e v=aE->v=e.a\/v=e.b)(hx:∀e∈B,∀d∈B,cX e d≠2):Segs W (eE B):=by
 refine⟨λh=>h.symm,λh=> ?_,λh=> ?_,hn,λh hv ho=> ?_,λh h' hm=> ?_⟩
 .rcases h with h|h
  .grind
  grind
 .rcases h with h|h
  .grind
  grind
 .rcases h with h|h
  .grind
  .rw[Px (hn _ (hw _ h).1) aH]at ho;grind
 .rcases h with h|h<;>rcases h' with h'|h'
  .grind
  .exact hx _ h _ h' (by rw[og]at hm|-;exact zu hm)
  .exact hx _ h _ h' (zu hm)
  .exact hx _ h _ h' (by have:=zu hm;rw[og]at this|-;exact zu this)
def VR.nocross{r:aU}(h:VR r){e d:S}(he:e∈aW r)(hd:d∈aW r):cX e d≠2:=by
 obtain⟨_,i,hi,rfl⟩:=iq.1 he;obtain⟨_,k,hk,rfl⟩:=iq.1 hd;have vi:=lH h.near i hi;have main:∀i k,i<aA r->k<aA r->i<k->cX (bh r i) (bh r k)≠2:=λi k hi hk hik=>by
  have vi:=lH h.near i hi;have vk:=lH h.near k hk;by_cases e1:k=i+1
  .have e2:(bh r i).b=(bh r k).a:=by show nth r ((i+1) % (aA r))=nth r k;rw[dK aC,e1]
   exact CZ (p:=(bh r i).b) (by rw[lv];simp) ⟨km vi,by rw[e2];exact gn vk⟩
  .by_cases e1:i=0/\k=aA r-1
   .have e2:(bh r k).b=(bh r i).a:=by show nth r ((k+1) % (aA r))=nth r i;rw[e1.1,e1.2,(aC:aA r-1+1=aA r),io]
    exact CZ (p:=(bh r i).a) (by rw[lv];simp) ⟨gn vi,by rw[<-e2];exact km vk⟩
   .have:=h.apart i k hik hk aC e1;omega
 rcases Bd i k with g|g|g
 .grind
 .subst g;exact CZ (p:=(bh r i).a) (by rw[lv];simp) ⟨gn vi,gn vi⟩
 .rw[og];grind
def DA{α:Type}{R:α->α->Prop}(hs:∀a b,R a b->R b a):∀{l:List α},l.Pairwise R->∀a∈l,∀b∈l,a=b\/R a b
 |[],_,a,ha,_,_=>by cases ha
 |x::l,h,a,ha,b,hb=>by
  rw[jA]at h;rcases bO.1 ha with e|ha'<;>rcases bO.1 hb with e'|hb'
  .grind
  .grind
  .grind
  .exact DA hs h.2 a ha' b hb'
def VS.nocross{s:Shape}(h:VS s){e d:S}(he:e∈ao s)(hd:d∈ao s):cX e d≠2:=by
 obtain⟨r,hr,he⟩:=dL.1 he;obtain⟨q,hq,hd⟩:=dL.1 hd;rcases DA (λa b h=>by rw[xF];exact h) h.pair r hr q hq with rfl|g
 .exact(h.ring hr).nocross he hd
 .unfold gQ at g;grind
def Gh{s:Shape}{e:S}(he:e∈ao s):e.a∈bW s/\e.b∈bW s:=by obtain⟨r,hr,he⟩:=dL.1 he;obtain⟨h1,h2⟩:=jC he;exact⟨ml.2 ⟨r,hr,h1⟩,ml.2 ⟨r,hr,h2⟩⟩
structure Tg(s:Shape)(D:List S):Prop where
 vs:VS s
 chord:∀d∈D,jY s d=aE
 ends:∀d∈D,d.a∈bW s/\d.b∈bW s/\d.a≠d.b
 apart:∀d∈D,∀e∈D,cX d e≠2
 most:∀a∈bW s,∀b∈bW s,a≠b->jY s ⟨a,b⟩=aE->jY s ⟨b,a⟩=aE->(⟨a,b⟩:S)∈D\/(⟨b,a⟩:S)∈D\/∃d∈D,cX d ⟨a,b⟩=2
 once:D.Pairwise λd e=>d≠e/\d≠⟨e.b,e.a⟩
def sides(s:Shape)(D:List S):V->V->Prop:=eE (ao s++D)
def Tg.segs{s:Shape}{D:List S}(T:Tg s D):Segs (bW s) (sides s D):=by
 have h:=T.vs;have hn:∀v∈bW s,bF v 4000=aE:=λv hv=>mM (lF h hv) aC;have ed:∀e∈ao s,∀d∈D,cX e d≠2:=λe he d hd hm=>by have:=T.chord d hd;unfold jY at this;rw[cD,cC]at this;unfold dD at this;grind
 refine RA hn (λe he=> ?_) (λe he v hv ho=> ?_) (λe he d hd=> ?_)
 .rcases bz.1 he with he|he
  .exact⟨(Gh he).1,(Gh he).2,h.p8 he⟩
  .exact T.ends e he
 .rcases bz.1 he with he|he
  .exact h.touch hv he ho
  .exact GP h (T.chord e he) hv ho
 .rcases bz.1 he with he|he<;>rcases bz.1 hd with hd|hd
  .exact h.nocross he hd
  .grind
  .rw[og];grind
  .exact T.apart e he d hd
def cT(s:Shape)(p:P3):Bool:=cY s.outer p&&s.holes.all λh=> !(cY h p)
def ML{a b p:V}{y k:Int}(hk:0<k)(h:cmb 0 (pt a) y (pt b)=cmb k (pt p) 0 (pt p)):p=b:=by simp only[cmb,pt,P3.mk.injEq]at h;have e:y=k:=aC;subst e;have q1:=pY aH (aC:y*b.x=y*p.x);have q2:=pY aH (aC:y*b.y=y*p.y);cases p;cases b;grind
def QZ{a b u w:V}(h1:turn a b u*turn a b w<0)(h2:turn u w a*turn u w b<0):∃x y s t:Int,0<x/\0<y/\0<s/\0<t/\cmb x (pt a) y (pt b)=cmb s (pt u) t (pt w):=by
 unfold turn at h1 h2;rw[zT,<-di,<-di]at h1 h2;have g:=gc a b (pt u) (pt w);rw[<-aE4]at g;have e:ev (lin u w) (pt b)-ev (lin u w) (pt a)=ev (lin a b) (pt u)-ev (lin a b) (pt w):=by unfold ev lin pt;grind
 rcases h1 with⟨p1,p2⟩|⟨p1,p2⟩
 .exact⟨_,_,_,_,aC,aC,aC,aC,g⟩
 .refine⟨-(ev (lin u w) (pt b)),ev (lin u w) (pt a),ev (lin a b) (pt w),-(ev (lin a b) (pt u)),aC,aC,aC,aC,?_⟩;unfold cmb at g|-;grind
def aAY{e c:S}(ve:bX e=aE)(vc:bX c=aE)(hne:e.a≠e.b)(hcne:c.a≠c.b)
  (hno:∀x y s t:Int,0<=x->0<=y->0<s->0<t->cmb x (pt e.a) y (pt e.b)≠cmb s (pt c.a) t (pt c.b)) (hte:∀p,p=c.a\/p=c.b->onS e p=aE->p=e.a\/p=e.b):dD e c=aE:=by
 have A:∀p,cV e c p->p=c.a\/p=c.b:=by
  rintro p ⟨o1,o2⟩;obtain⟨x,y,k,h1,h2,h3,h4,h5⟩:=I8 ve hne o1;obtain⟨s,t,m,g1,g2,g3,g4,g5⟩:=I8 vc hcne o2;rcases cH 0 s with hs|hs
  .rcases cH 0 t with ht|ht
   .refine absurd ?_ (hno (m*x) (m*y) (k*s) (k*t) (mpp aC h1) (mpp aC h2) (bJ h3 hs) (bJ h3 ht));unfold cmb pt at*;grind
   .have:t=0:=aC;subst this;exact .inl (ML g3 (by rw[ng];exact g5))
  .have:s=0:=aC;subst this;exact .inr (ML g3 g5)
 have M:=qp e c;have hv:(bX e&&bX c)=aE:=by rw[ve,vc];rfl
 unfold dD;by_cases hp:∃p,p∈ends e c/\cV e c p
 .obtain⟨p,hp,ho⟩:=hp;have c1:=A p ho;have c2:=hte p c1 ho.1;have k1:cX e c=1:=by
   refine M.touch hv (λq r hq hr oq or=>dS λhqr=> ?_) ⟨p,hp,ho⟩;have q1:=A q oq;have r1:=A r or;have q2:=hte q q1 oq.1;have r2:=hte r r1 or.1;have:(e.a=c.a/\e.b=c.b)\/(e.a=c.b/\e.b=c.a):=aH;rcases this with⟨w1,w2⟩|⟨w1,w2⟩
   .exact hno 1 1 1 1 aC aC aC aC (by rw[w1,w2])
   .exact hno 1 1 1 1 aC aC aC aC (by rw[w1,w2,ng])
  have k2:x6 e c=aE:=by rw[CT];grind
  grind
 .have k0:cX e c=0:=by refine M.else_ hv (λp hp' ho=>hp ⟨p,hp',ho⟩) λ⟨h1,h2⟩=> ?_;obtain⟨x,y,s,t,hx,hy,hs,ht,g⟩:=QZ h1 h2;grind
  rw[k0];rfl
variable{s:Shape}
def Qc(h:VS s){u w:V}(hu:u∈bW s)(hw:w∈bW s)(hne:u≠w)(hno:∀e∈ao s,∀x y s t:Int,0<=x->0<=y->0<s->0<t->cmb x (pt e.a) y (pt e.b)≠cmb s (pt u) t (pt w))
  (hi:cT s (cmb 1 (pt u) 1 (pt w))=aE):jY s ⟨u,w⟩=aE:=by
 have nu:=lF h hu;have nw:=lF h hw;unfold jY;rw[cD,cC];refine⟨λe he=>aAY (Ms h he) (by unfold bX;rw[mM nu aC,mM nw aC];rfl) (h.p8 he) hne (hno e he) λp hp ho=> ?_,?_⟩
 .refine h.touch ?_ he ho;grind
 .rw[beq_iff_eq,CD];have mem:∀r∈aR s,∀e∈aW r,e∈ao s:=λr hr e he=>dL.2 ⟨r,hr,he⟩;have wm:∀r∈aR s,cE r (iW ⟨u,w⟩)=if cY r (half ⟨u,w⟩)then 2 else 0:=λr hr=>
   ZL (h.ring hr) nu nw aH
  unfold cT at hi;rw[cD,cC]at hi;refine⟨(rj s).2 h,?_,λq hq=> ?_⟩
  .rw[wm _ cR];exact if_pos hi.1
  .rw[wm _ (cM _ hq)];have:=hi.2 q hq;exact if_neg (by unfold half;grind)
def aCH(h:VS s){c:S}(ha:c.a∈bW s)(hb:c.b∈bW s)(hc:jY s c=aE):cT s (half c)=aE:=by
 unfold jY at hc;rw[cD,beq_iff_eq,CD]at hc;have na:=lF h ha;have nb:=lF h hb;unfold cT;rw[cD,cC];refine⟨?_,λq hq=> ?_⟩
 .have:=Rl h.outer na nb aC;grind
 .have:=Rl (h.ring (cM _ hq)) na nb aH;grind
def Nu:∀l:List S,fK (l.map λ_=>aK)=aK
 |[] =>rfl
 |e::l=>by show(aK !=fK (l.map λ_=>aK))=aK;rw[Nu l];rfl
def RS{r:aU}(h2:2<=aA r)(hn:∀v∈r,-2000<=v.x/\v.x<=2000/\ -2000<=v.y/\v.y<=2000){q:P3}(hq:0<q.d)(h:2000*q.d<q.x\/q.x< -(2000*q.d)\/2000*q.d<q.y\/q.y< -(2000*q.d)):cY r q=aK:=by
 have flat:∀q:P3,0<q.d->(2000*q.d<q.y\/q.y< -(2000*q.d))->cY r q=aK:=by
  intro q hq h;have dnq:∀v∈r,dn q v=decide (2000*q.d<q.y):=λv hv=>decide_eq_decide.2 (by obtain⟨_,_,h3,h4⟩:=hn v hv;have l1:=nJ h3 (aC:0<=q.d);have l2:=nJ h4 (aC:0<=q.d);omega)
  have:∀e∈aW r,hit q e=aK:=λe he=>by obtain⟨ha,hb⟩:=jC he;unfold hit;grind
  unfold cY;rw[lg (g:=λ_=>aK) this];exact Nu _
 by_cases hy:2000*q.d<q.y\/q.y< -(2000*q.d)
 .grind
 .have hx:2000*q.d<q.x\/q.x< -(2000*q.d):=aC;rw[xd (q:=⟨q.x,q.y+4001*q.d,q.d⟩) h2 hq hq λe he=> ?_]
  .grind
  .rintro⟨x,y,s,t,hx0,hy0,hxy,hs,ht,g⟩;obtain⟨ha,hb⟩:=jC he;simp only[cmb,pt,P3.mk.injEq]at g;have a1:=hn _ ha;have b1:=hn _ hb;have l1:=dg a1.1 hx0;have l2:=dg a1.2.1 hx0;have l3:=dg b1.1 hy0;have l4:=dg b1.2.1 hy0;have hst:0<s+t:=by refine nL.1 λh=> ?_;have:s=0:=aC;have:t=0:=aC;subst s t;omega
   rcases hx with hx|hx
   .have:=LU hx hst;grind
   .have:=LU hx hst;grind
def H3{r:aU}(h:VR r):∀v∈r,-2000<=v.x/\v.x<=2000/\ -2000<=v.y/\v.y<=2000:=λv hv=>by have:=IE h.near hv;unfold bF at this;grind
def IP(h:VS s){p q:P3}(hp:0<p.d)(hq:0<q.d)(hm:∀e∈ao s,¬gp e p q):cT s p=cT s q:=by
 have key:∀r∈aR s,cY r p=cY r q:=λr hr=>xd (by have:=(h.ring hr).three;omega) hp hq λe he=>hm e (dL.2 ⟨r,hr,he⟩);unfold cT;rw[key _ cR]
 congr 1
 rw[gR,cC,cC];constructor
 .intro g r hr;rw[<-key r (cM _ hr)];exact g r hr
 .intro g r hr;rw[key r (cM _ hr)];exact g r hr
def Tg.filled{D:List S}(T:Tg s D):Filled (bW s) (sides s D) (cT s):=by
 have h:=T.vs;refine⟨T.segs.net,λp q hp hq hm=> ?_,λu hu w hw hne hno hi=> ?_,⟨2000,aC,λq hq hf=> ?_⟩⟩
 .exact IP h hp hq λe he=>hm e.a e.b (.inl (iS _ he))
 .have c1:jY s ⟨u,w⟩=aE:=Qc h hu hw hne (λe he x y k m hx hy hk hm'=>hno e.a e.b (.inl (iS _ he)) x y k m hx hy hk hm') hi;have c2:jY s ⟨w,u⟩=aE:=Qc h hw hu hne.symm (λe he x y k m hx hy hk hm'=>by rw[ng k m];exact hno e.a e.b (.inl (iS _ he)) x y m k hx hy hm' hk) (by rw[ng];exact hi)
  rcases T.most u hu w hw hne c1 c2 with g|g|⟨d,hd,hm⟩
  .exact .inl aH
  .exact .inr aH
  .exfalso;obtain⟨_,_,m1,m2⟩:=IH hm;obtain⟨x,y,k,m,hx,hy,hk,hm',g⟩:=QZ m1 m2;exact hno d.a d.b (.inl (iF _ hd)) x y k m aC aC hk hm' g
 .unfold cT;rw[RS (by have:=h.outer.three;omega) (H3 h.outer) hq hf];rfl
def BZ(acc:List (Nat×Nat))(i k:Nat):Prop:=acc.Nodup/\∀p∈acc,p.1<i\/(p.1=i/\p.2<k)
def Z6{v:List V}{acc:List (Nat×Nat)}{i k:Nat}(h:BZ acc i k):BZ (sZ s v acc i k) i (k+1):=by
 unfold sZ;split
 .refine⟨?_,λp hp=> ?_⟩
  .rw[nK];refine⟨h.1,af,λa ha b hb e=> ?_⟩;obtain rfl:=cI.1 hb;subst e;have:=h.2 _ ha;simp at this
  .rcases bz.1 hp with hp|hp
   .have:=h.2 p hp;omega
   grind
 .exact⟨h.1,λp hp=>by have:=h.2 p hp;omega⟩
def Pw{s:Shape}{v:List V}{acc:List (Nat×Nat)}{i:Nat}(h:BZ acc i (i+1)):∀m,BZ (rowP s v acc i m) i (i+1+m)
 |0=>h
 |m+1=>Z6 (Pw h m)
def RZ(s:Shape)(v:List V):∀i,BZ (fo s v i) i (i+1)
 |0=>⟨List.nodup_nil,λp hp=>by cases hp⟩
 |i+1=>by
  have:=Pw (s:=s) (v:=v) (RZ s v i) (aA v-(i+1));exact⟨this.1,λp hp=>by have:=this.2 p hp;omega⟩
def J9(h:VS s){v:List V}(hv:∀x,x∈v↔x∈bW s)(hn:v.Nodup):Tg s (oL s v):=by
 obtain⟨e,F⟩:=Dj h aH hn;have O:=RZ s v (aA v);have hD:∀d∈oL s v,∃p∈eM s v,d=dH v p:=aH;have ends:∀d∈oL s v,d.a∈bW s/\d.b∈bW s/\d.a≠d.b:=λd hd=>by obtain⟨p,hp,rfl⟩:=hD d hd;have:=F.lt p hp;exact⟨(hv _).1 (dh aC),(hv _).1 (dh this.2),λg=>by have:=gU hn aC this.2 g;omega⟩
 refine⟨h,λd hd=> ?_,ends,λd hd d' hd'=> ?_,λa ha b hb hab c1 c2=> ?_,?_⟩
 .obtain⟨p,hp,rfl⟩:=hD d hd;exact F.chord p hp
 .have vd:∀d∈oL s v,bX d=aE:=λd hd=>by obtain⟨h1,h2,_⟩:=ends d hd;unfold bX;rw[mM (lF h h1) aC,mM (lF h h2) aC];rfl
  have ap:(oL s v).Pairwise λd e=>cX d e≠2:=(Ha s v).apart.imp λ{a b} h=>by rw[qq];exact h
  rcases DA (λa b h=>by rw[og];exact h) ap d hd d' hd' with rfl|g
  .exact CZ (p:=d.a) (by rw[lv];simp) ⟨gn (vd d hd),gn (vd d hd)⟩
  .exact g
 .obtain⟨i,hi,rfl⟩:=fC.1 ((hv a).2 ha);obtain⟨k,hk,rfl⟩:=fC.1 ((hv b).2 hb);rcases Bd i k with g|g|g
  .rcases(Ha s v).most i k g hk (.inl hi) (by rw[<-IW h ha hb hab];exact c1)with m|⟨d,hd,m⟩
   .exact .inl m
   .exact .inr (.inr ⟨d,hd,by rw[qq];exact m⟩)
  .grind
  .rcases(Ha s v).most k i g hi (.inl hk) (by rw[<-IW h hb ha hab.symm];exact c2)with m|⟨d,hd,m⟩
   .grind
   .refine .inr (.inr ⟨d,hd,?_⟩);rw[<-qq]at m;rw[og]at m|-;exact zu m
 .rw[<-e,kG];have O1:=O.1;refine(y5.1 O1).imp ?_;rintro p q ⟨hp,hq,hne⟩;have lp:=F.lt p hp;have lq:=F.lt q hq;refine⟨λg=> ?_,λg=> ?_⟩
  .unfold dH at g;simp only[S.mk.injEq]at g;have i1:=gU hn aC aC g.1;have i2:=gU hn aC aC g.2;grind
  .unfold dH at g;simp only[S.mk.injEq]at g;have i1:=gU hn aC aC g.1;have i2:=gU hn aC aC g.2;omega
end Geo
namespace Geo
def M3{a b c:V}(hne:c≠a)(n:Int){h:Int}(hc:0<ev (lin a b) (pt c))(hh:h<ev (lin a b) (pt c)):∃q,In (thin c a n) q/\In [lin a b,lin c a,over b c h] q:=by
 have hL2:=jw hne;have e9:(a.x-c.x)*(a.x-c.x)-(a.y-c.y)* -(a.y-c.y)=cL c a:=by unfold cL;grind
 obtain⟨M0,hM0,hI⟩:=qg hne (x:= -(a.y-c.y)) (y:=a.x-c.x) aC n;have e1:∀M:Int,ev (lin a b) (dR c a M (-(a.y-c.y)) (a.x-c.x))=M*ev (lin a b) (pt c)+ev (lin a b) ⟨-(a.y-c.y),a.x-c.x,0⟩:=λM=>by unfold ev lin dR pt;grind
 generalize hk:ev (lin a b) ⟨-(a.y-c.y),a.x-c.x,0⟩=k at e1;have hP:=hI (M0+k.natAbs) aC;have hβ:0<ev (lin a b) (dR c a (M0+k.natAbs) (-(a.y-c.y)) (a.x-c.x)):=by rw[e1];have:=dg (aC:1<=ev (lin a b) (pt c)) (aC:0<=M0+(k.natAbs:Int));omega
 generalize dR c a (M0+k.natAbs) (-(a.y-c.y)) (a.x-c.x)=P at*;obtain⟨p0,p1,p2,p3⟩:=n7.1 hP;have e0:ev (lin b c) (pt a)=ev (lin a b) (pt c):=ik a b c;refine⟨cmb (1+(ev (over b c h) P).natAbs) (pt a) 1 P,?_,by simp only[cmb,pt];omega,?_⟩
 .rw[n7,bB,bB,bB,cU,sK,mP];have g1:=mpp (aC:0<=1+((ev (over b c h) P).natAbs:Int)) (aC:0<=cL c a);have g2:n*(1*ev (lin c a) P)=n*ev (lin c a) P:=by rw[LQ]
  refine⟨by simp only[cmb,pt];omega,aC,?_,?_⟩<;>rw[fP,yz]at* <;>omega
 .simp only[bO,cp,or_false,forall_eq_or_imp,forall_eq];refine⟨?_,?_,?_⟩
  .rw[bB,cN];omega
  .rw[bB,cU];omega
  .rw[bB];have ho:1<=ev (over b c h) (pt a):=by rw[n8,e0];show 1<=ev (lin a b) (pt c)-h*1;omega
   have:=dg ho (aC:0<=1+((ev (over b c h) P).natAbs:Int));omega
section
variable {W:List V} {side:V->V->Prop} {ins:P3->Bool}
def Corner.both(H:Calm W side ins){a b c:V}{h:Int}(K:Corner W side a b c h)(hab:side a b)(hac:side a c)(hc:0<ev (lin a b) (pt c))(hh:h<ev (lin a b) (pt c)):Lft ins a b↔Lft ins c a:=by
 have N:=H.net;have key:∀{q1 q2:P3},In [lin a b,lin c a,over b c h] q1->In [lin a b,lin c a,over b c h] q2->ins q1=ins q2:=λh1 h2=>H.const (λu v huv=>K.free N huv) h1 h2;constructor
 .rintro⟨n0,hn⟩;obtain⟨q1,g1,g2⟩:=Gq (N.ne hab) n0 hc hh;refine Av H (N.symm hac) λn=> ?_;obtain⟨q2,k1,k2⟩:=M3 (N.ne (N.symm hac)) n hc hh;grind
 .rintro⟨n0,hn⟩;obtain⟨q1,g1,g2⟩:=M3 (N.ne (N.symm hac)) n0 hc hh;refine Av H hab λn=> ?_;obtain⟨q2,k1,k2⟩:=Gq (N.ne hab) n hc hh;grind
open Classical in
def aAJ(_N:Net W side){a b c:V}(hab:side a b)(hac:side a c)(hc:0<ev (lin a b) (pt c))(hs:∀x,side a x->¬(0<ev (lin a b) (pt x)/\0<ev (lin c a) (pt x))):∃h,h<ev (lin a b) (pt c)/\Corner W side a b c h:=by
 have top:∀w∈W,w≠a->0<=ev (lin a b) (pt w)->0<=ev (lin c a) (pt w)->ev (lin b c) (pt w)<ev (lin a b) (pt c):=by intro w _ hwa h1 h2;have:=IY a b c (pt w);rw[show(pt w).d=1 from rfl,Bb]at this;refine nL.1 λg=>hwa ?_;have z1:ev (lin a b) (pt w)=0:=aC;have z2:ev (lin c a) (pt w)=0:=aC;have z3:ev (lin b c) (pt w)=ev (lin a b) (pt c):=aC;have q1:=Vt a b c ⟨1,0,0⟩ (pt w);have q2:=Vt a b c ⟨0,1,0⟩ (pt w);rw[z1,z2,z3,wX,wX,pU,pU]at q1 q2;have r1:=pY aC q1;have r2:=pY aC q2;simp only[ev,pt]at r1 r2;cases w;cases a;simp only[V.mk.injEq];simp only at r1 r2;omega
 obtain⟨M,hM⟩:∃h,0<=h/\h<ev (lin a b) (pt c)/\∀w∈W,w≠a->0<=ev (lin a b) (pt w)->0<=ev (lin c a) (pt w)->ev (lin b c) (pt w)<=h:=by
  by_cases hl:(W.filter λw=>decide (w≠a/\0<=ev (lin a b) (pt w)/\0<=ev (lin c a) (pt w)))=[]
  .refine⟨0,kY _,hc,λw hw h1 h2 h3=> ?_⟩;have:w∈(W.filter λw=>decide (w≠a/\0<=ev (lin a b) (pt w)/\0<=ev (lin c a) (pt w))):=aH;grind
  .obtain⟨w,hw,hm⟩:=EK (λw=>ev (lin b c) (pt w)) hl;obtain⟨w1,w2⟩:=eY.1 hw;have w3:=of_decide_eq_true w2;have:=top w w1 w3.1 w3.2.1 w3.2.2;refine⟨max 0 (ev (lin b c) (pt w)),aC,aC,λu hu h1 h2 h3=> ?_⟩;grind
 exact⟨M,hM.2.1,hab,hac,hc,hs,hM.1,hM.2.2⟩
def OS(H:Calm W side ins){a b c:V}(hab:side a b)(hac:side a c)(hc:0<ev (lin a b) (pt c))(hs:∀x,side a x->x=b\/x=c):Lft ins a b↔Lft ins c a:=by
 obtain⟨h,hh,K⟩:=aAJ H.net hab hac hc λx hx ⟨h1,h2⟩=>by
  rcases hs x hx with rfl|rfl
  .rw[cU]at h1;omega
  .rw[cN]at h2;omega
 exact K.both H hab hac hc hh
end
structure T3 where
 a:V
 b:V
 c:V
deriving DecidableEq
def T3.sides(t:T3):List S:=[⟨t.a,t.b⟩,⟨t.b,t.c⟩,⟨t.c,t.a⟩]
def T3.rot(t:T3):T3:=⟨t.b,t.c,t.a⟩
section
variable {W:List V} {side:V->V->Prop} {ins:P3->Bool}
structure All3(W:List V)(side:V->V->Prop)(ins:P3->Bool)(TL:List T3):Prop where
 tri:∀t∈TL,Tri W side ins t.a t.b t.c
 all:∀a b c,Tri W side ins a b c->(⟨a,b,c⟩:T3)∈TL\/(⟨b,c,a⟩:T3)∈TL\/(⟨c,a,b⟩:T3)∈TL
 once:TL.Pairwise λt u=>t≠u/\t≠u.rot/\t≠u.rot.rot
def zt{t:T3}{e:S}:e∈t.sides↔(e.a=t.a/\e.b=t.b)\/(e.a=t.b/\e.b=t.c)\/(e.a=t.c/\e.b=t.a):=by cases e;unfold T3.sides;grind
def All3.perm(H:Filled W side ins){TL:List T3}(A:All3 W side ins TL){DS:List S}(hn:DS.Nodup)(hm:∀e:S,e∈DS↔side e.a e.b/\Lft ins e.a e.b):(TL.flatMap T3.sides).Perm DS:=by
 have N:=H.net;refine(List.perm_ext_iff_of_nodup ?_ hn).2 λe=> ?_
 .rw[oS,LV,LX];refine⟨λl hl=> ?_,?_⟩
  .obtain⟨t,ht,rfl⟩:=bn.1 hl;have h:=A.tri t ht;have n2:=N.ne h.bc;unfold T3.sides;simp_all
  .rw[kG];refine(y5.1 A.once).imp ?_;rintro t u ⟨ht,hu,h1,h2,h3⟩ e he e' he' rfl;have T:=A.tri t ht;have U:=A.tri u hu;have key:∀{a b c x:V},Tri W side ins a b c->Tri W side ins a b x->c=x:=λh h'=>Mz N h h';cases t;cases u;rw[zt]at he he';rcases he with⟨e1,e2⟩|⟨e1,e2⟩|⟨e1,e2⟩<;>rcases he' with⟨f1,f2⟩|⟨f1,f2⟩|⟨f1,f2⟩<;>rw[e1]at f1<;>rw[e2]at f2<;>subst f1<;>subst f2
   .grind
   .have:=key T U.rot;subst this;exact h2 rfl
   .have:=key T U.rot.rot;subst this;exact h3 rfl
   .have:=key T.rot U;subst this;exact h3 rfl
   .have:=key T.rot U.rot;grind
   .have:=key T.rot U.rot.rot;subst this;exact h2 rfl
   .have:=key T.rot.rot U;subst this;exact h2 rfl
   .have:=key T.rot.rot U.rot;subst this;exact h3 rfl
   .have:=key T.rot.rot U.rot.rot;grind
 .rw[hm,dL];constructor
  .rintro⟨t,ht,he⟩;have T:=A.tri t ht;rcases zt.1 he with⟨e1,e2⟩|⟨e1,e2⟩|⟨e1,e2⟩<;>rw[e1,e2]
   .exact⟨T.ab,T.lft H⟩
   .exact⟨T.bc,T.rot.lft H⟩
   .exact⟨T.ca,T.rot.rot.lft H⟩
  .rintro⟨h1,h2⟩;obtain⟨c,T⟩:=C5 H h1 h2;rcases A.all _ _ _ T with g|g|g
   .exact⟨_,g,zt.2 aH⟩
   .exact⟨_,g,zt.2 aH⟩
   .exact⟨_,g,zt.2 aH⟩
def N4(f:S->Int):∀TL:List T3,((TL.flatMap T3.sides).map f).sum=(TL.map λt=>f ⟨t.a,t.b⟩+f ⟨t.b,t.c⟩+f ⟨t.c,t.a⟩).sum
 |[] =>rfl
 |t::TL=>by
  have:=N4 f TL;rw[fw,dV,nM,this,dU,oT];unfold T3.sides;grind
def All3.sum(H:Filled W side ins){TL:List T3}(A:All3 W side ins TL){DS:List S}(hn:DS.Nodup)(hm:∀e:S,e∈DS↔side e.a e.b/\Lft ins e.a e.b)(f:S->Int):
  (TL.map λt=>f ⟨t.a,t.b⟩+f ⟨t.b,t.c⟩+f ⟨t.c,t.a⟩).sum=(DS.map f).sum:=by
 rw[<-N4];exact xQ ((A.perm H hn hm).map f)
open Classical in
def PC(N:Net W side)(ins:P3->Bool)(hW:W.Nodup):∃TL,All3 W side ins TL:=by
 refine⟨(W.flatMap λa=>W.flatMap λb=>W.map λc=>(⟨a,b,c⟩:T3)).filter λt=>decide (Tri W side ins t.a t.b t.c/\cB t.a t.b=aE/\cB t.a t.c=aE),λt ht=> ?_,λa b c h=> ?_,?_⟩
 .grind
 .have wa:=N.mem h.ab;have wb:=N.mem h.bc;have wc:=N.mem h.ca;have n1:=N.ne h.ab;have n2:=N.ne h.bc;have n3:=N.ne h.ca;have inl:∀{a b c:V},a∈W->b∈W->c∈W->Tri W side ins a b c->cB a b=aE->cB a c=aE->(⟨a,b,c⟩:T3)∈(W.flatMap λa=>W.flatMap λb=>W.map λc=>(⟨a,b,c⟩:T3)).filter λt=>decide (Tri W side ins t.a t.b t.c/\cB t.a t.b=aE/\cB t.a t.c=aE):=
   aH
  by_cases g1:cB a b=aE
  .by_cases g2:cB a c=aE
   .grind
   .have g3:=zy aH n3.symm;exact .inr (.inr (inl wc wa wb h.rot.rot g3 (xC g3 g1)))
  .have g3:=zy aH n1;by_cases g2:cB b c=aE
   .exact .inr (.inl (inl wb wc wa h.rot g2 g3))
   .have g4:=zy aH n2;exact .inr (.inr (inl wc wa wb h.rot.rot (xC g4 g3) g4))
 .have nd:(W.flatMap λa=>W.flatMap λb=>W.map λc=>(⟨a,b,c⟩:T3)).Nodup:=by
   rw[oS]at hW|-;rw[LV,LX];refine⟨λl hl=> ?_,?_⟩
   .grind
   .grind
  refine(y5.1 (oS.1 (nd.filter _))).imp ?_;rintro t u ⟨ht,hu,hne⟩;have T:=(of_decide_eq_true (eY.1 ht).2).2;have U:=(of_decide_eq_true (eY.1 hu).2).2;refine⟨hne,λe=> ?_,λe=> ?_⟩
  .rw[e]at T;have:=xC U.1 T.2;unfold T3.rot at this;rw[zN]at this;cases this
  .rw[e]at T;have:=xC U.2 T.1;unfold T3.rot at this;rw[zN]at this;cases this
end
def swp(e:S):S:=⟨e.b,e.a⟩
def Qx(e:S):swp (swp e)=e:=rfl
section
variable {W:List V} {side:V->V->Prop} {ins:P3->Bool}
def Sp(H:Calm W side ins){a b:V}(hab:side a b):∃N0:Int,1<=N0/\∀n,N0<=n->(∀u v,side u v->iC (thin a b n) ⟨u,v⟩)/\∀q,In (thin a b n) q->(Lft ins a b↔ins q=aE):=by
 obtain⟨N0,h1,h2⟩:=H.net.thin hab;refine⟨N0,h1,λn hn=>⟨h2 n hn,λq hq=>⟨λ⟨m,hm⟩=> ?_,λhi=>Av H hab λm=> ?_⟩⟩⟩
 .obtain⟨p,hp⟩:=zn (H.net.ne hab) (max n m);rw[H.const (h2 n hn) hq (ti aC hp)];grind
 .obtain⟨p,hp⟩:=zn (H.net.ne hab) (max n m);exact⟨p,ti aC hp,by rw[<-hi];exact H.const (h2 n hn) (ti aC hp) hq⟩
end
variable{r:aU}
def VR.CJ(h:VR r):(aW r).Nodup:=by unfold aW;rw[if_neg (by have:=h.three;omega),oS,kG];refine(y5.1 (oS.1 List.nodup_range)).imp ?_;rintro i k ⟨hi,hk,hne⟩ e;exact hne (h.inj aH aH (congrArg S.a e))
def VR.aDD(h:VR r){e:S}(he:e∈aW r):swp e∉aW r:=by
 intro hs;have h3:=h.three;obtain⟨_,i,hi,rfl⟩:=iq.1 he;obtain⟨_,k,hk,e⟩:=iq.1 hs;have e1:nth r ((i+1) % (aA r))=nth r k:=congrArg S.a e;have e2:nth r i=nth r ((k+1) % (aA r)):=congrArg S.b e;have m1:=cG (i+1) (aC:0<aA r);have m2:=cG (k+1) (aC:0<aA r);have i1:=h.inj m1 hk e1;have i2:=h.inj hi m2 e2;by_cases g1:i+1<aA r
 .rw[dK g1]at i1;by_cases g2:k+1<aA r
  .rw[dK g2]at i2;omega
  .rw[(aC:k+1=aA r),io]at i2;omega
 .rw[(aC:i+1=aA r),io]at i1;rw[dK aC]at i2;omega
def VR.calm(h:VR r):Calm r (eE (aW r)) (cY r):=by refine⟨(RA (λv hv=>mM (IE h.near hv) aC) (λe he=>⟨(jC he).1,(jC he).2,h.p8 he⟩) (λe he v hv ho=>h.Nx hv he ho) (λe he d hd=>h.nocross he hd)).net,λp q hp hq hm=> ?_⟩;exact xd (by have:=h.three;omega) hp hq λe he=>hm e.a e.b (.inl he)
def VR.flip{r:aU}(h:VR r){a b:V}(he:(⟨a,b⟩:S)∈aW r):Lft (cY r) a b↔¬Lft (cY r) b a:=by
 have C:=h.calm;have hab:eE (aW r) a b:= .inl he;have hne:=C.net.ne hab;obtain⟨n1,_,h1⟩:=Sp C hab;obtain⟨n2,_,h2⟩:=Sp C (C.net.symm hab);obtain⟨p,q,hp,hq,hpq⟩:=Geo.flip (r:=r) (by have:=h.three;omega) h.CJ hne he (N:=max n1 n2) aC λe he' hn=>by
  have hs:eE (aW r) e.a e.b:= .inl he';refine⟨?_,(h1 _ aC).1 _ _ hs,(h2 _ aC).1 _ _ hs⟩;rcases C.net.off hab hs with g|⟨g1,g2⟩|⟨g1,g2⟩
  .exact g
  .exact absurd (by cases e;grind) hn
  .exfalso;refine h.aDD he ?_;have:swp ⟨a,b⟩=e:=by cases e;simp only at g1 g2;unfold swp;rw[g1,g2]
   grind
 grind
def VR.around(h:VR r){i:Nat}(hi:i<aA r){x:V}(hx:eE (aW r) (nth r ((i+1) % (aA r))) x):x=nth r ((i+1+1) % (aA r))\/x=nth r i:=by
 have hm:=cG (i+1) (aC:0<aA r);rcases hx with hx|hx
 .obtain⟨_,k,hk,e⟩:=iq.1 hx;have e1:=h.inj hm hk (congrArg S.a e);have e2:x=nth r ((k+1) % (aA r)):=congrArg S.b e;refine .inl ?_;rw[e2,<-e1,kW]
 .obtain⟨_,k,hk,e⟩:=iq.1 hx;have e1:=h.inj hm (cG (k+1) aH) (congrArg S.b e);have e2:x=nth r k:=congrArg S.a e;refine .inr ?_;rw[e2]
  congr 1
  by_cases g1:i+1<aA r<;>by_cases g2:k+1<aA r
  .rw[dK g1,dK g2]at e1;omega
  .rw[dK g1,(aC:k+1=aA r),io]at e1;omega
  .rw[dK g2,(aC:i+1=aA r),io]at e1;omega
  .omega
def uN(h:VR r){i:Nat}(hi:i<aA r):bh r i∈aW r:=iq.2 ⟨by have:=h.three;omega,i,hi,rfl⟩
def VR.next(h:VR r){i:Nat}(hi:i<aA r):Lft (cY r) (bh r i).a (bh r i).b↔Lft (cY r) (bh r ((i+1) % (aA r))).a (bh r ((i+1) % (aA r))).b:=by
 have C:=h.calm;have hm:=cG (i+1) (aC:0<aA r);have t:=h.turn' i hi;have ei:bh r i=⟨nth r i,nth r ((i+1) % (aA r))⟩:=rfl;have ek:bh r ((i+1) % (aA r))=⟨nth r ((i+1) % (aA r)),nth r ((i+1+1) % (aA r))⟩:=by show(⟨_,nth r (((i+1) % (aA r)+1) % (aA r))⟩:S)=_;rw[kW]
 have m1:=uN h hi;have m2:=uN h hm;have ar:=λx=>h.around hi (x:=x);rw[ei]at m1|-;rw[ek]at m2|-;unfold Geo.turn at t;rw[Ne,oj,<-di]at t;generalize nth r i=u at*;generalize nth r ((i+1) % (aA r))=v at*;generalize nth r ((i+1+1) % (aA r))=w at*;rcases mc t with g|g
 .have g':0<ev (lin v u) (pt w):=by rw[jf];omega
  have:=OS C (.inr m1) (.inl m2) g' aH;rw[h.flip m1,h.flip m2,this]
 .have g':0<ev (lin v w) (pt u):=by rw[ik];exact g
  exact(OS C (.inl m2) (.inr m1) g' ar).symm
def VR.Ig{r:aU}(h:VR r):∀i,i<aA r->(Lft (cY r) (bh r i).a (bh r i).b↔Lft (cY r) (bh r 0).a (bh r 0).b)
 |0,_=>Iff.rfl
 |i+1,hi=>by
  have:=h.next (i:=i) aC;rw[dK hi]at this;rw[<-this];exact h.Ig i aC
variable{s:Shape}{D:List S}
def Rn(T:Tg s D){a b:V}(hab:sides s D a b)(hi:cT s (cmb 1 (pt a) 1 (pt b))=aE)
  (ho:∀e∈ao s,∀x y k:Int,0<=x->0<=y->0<k->cmb x (pt e.a) y (pt e.b)≠cmb k (pt a) k (pt b)):Lft (cT s) a b:=by
 have H:=T.filled;have hne:=H.net.ne hab;have hL:=jw hne;refine Av H.calm hab λn=> ?_;obtain⟨N0,_,h2⟩:=H.net.thin hab;obtain⟨q,hq⟩:=zn hne (max n N0);refine⟨q,ti aC hq,?_⟩;rw[<-hi];refine IP T.vs hq.1 (by simp[cmb,pt]) λe he hm=> ?_;obtain⟨x,y,t,k,hx,hy,hxy,ht,hk,g⟩:=hm;rcases cH 0 t with ht'|ht'
 .obtain⟨f,hf,hle⟩:=h2 (max n N0) aC e.a e.b (.inl (iS _ he)) x y hx hy hxy;have e1:x*ev f (pt e.a)+y*ev f (pt e.b)=t*ev f q+k*(ev f (pt a)+ev f (pt b)):=by rw[<-bB,g,bB,bB,LQ,LQ]
  dsimp only at hle;have p1:=bJ ht' (hq.2 f hf);have p2:0<=ev f (pt a)+ev f (pt b):=by
   unfold thin at hf;simp only[bO,cp,or_false]at hf;rcases hf with rfl|rfl|rfl
   .rw[cN,cU];omega
   .rw[nZ,nZ,cN,cU,mP,sK];omega
   .rw[qm,qm,cN,cU,mP,sK,Cv];omega
  have:=mpp hk p2;omega
 .have:t=0:=aC;subst this;have hd:=congrArg P3.d g;simp only[cmb,pt]at hd;refine ho e he x y k hx hy aC ?_;rw[g];unfold cmb;grind
def ls(T:Tg s D){d e:S}(hd:d∈D)(he:e∈ao s):e≠d/\e≠swp d:=by
 have h:=T.vs;have hc:=T.chord d hd;obtain⟨d1,d2,d3⟩:=T.ends d hd;have vd:bX d=aE:=by unfold bX;rw[mM (lF h d1) aC,mM (lF h d2) aC];rfl
 have ve:=Ms h he;unfold jY at hc;rw[cD,cC]at hc;have ht:=hc.1 e he;have k:cV e d e.a->cV e d e.b->False:=λo1 o2=>by have:=(qp e d).over e.a e.b af af (h.p8 he) o1 o2;unfold dD at ht;grind
 refine⟨λg=> ?_,λg=> ?_⟩
 .subst g;exact k ⟨gn ve,gn ve⟩ ⟨km ve,km ve⟩
 .subst g;exact k ⟨gn ve,km vd⟩ ⟨km ve,gn vd⟩
def QW(T:Tg s D){a b:V}(hd:(⟨a,b⟩:S)∈D\/(⟨b,a⟩:S)∈D):∀e∈ao s,∀x y k:Int,0<=x->0<=y->0<k->cmb x (pt e.a) y (pt e.b)≠cmb k (pt a) k (pt b):=by
 intro e he x y k hx hy hk g;have N:=T.segs.net;have hab:sides s D a b:=hd.imp aH aH;have hs:sides s D e.a e.b:= .inl (iS _ he);have vt:∀{v:V} {y:Int},v∈bW s->cmb k (pt a) k (pt b)=cmb y (pt v) 0 (pt v)->0<y->False:=λ{v y} hv g hy=>by
  rcases N.clear hab hv k k y aC aC g hy with rfl|rfl
  .have:=xh (a:=v) (b:=b) (s:=k) hk (by rw[g];have:=congrArg P3.d g;simp only[cmb,pt]at this|-;grind);exact N.ne hab this.symm
  .have:=xh (a:=v) (b:=a) (s:=k) hk (by rw[ng,g];have:=congrArg P3.d g;simp only[cmb,pt]at this|-;grind);exact N.ne hab this
 have hd0:=congrArg P3.d g;rw[xJ,xJ]at hd0;have ev:=Gh he;rcases cH 0 x with hx'|hx'
 .rcases cH 0 y with hy'|hy'
  .rcases N.apart hs hab _ _ _ _ hx' hy' hk hk g with⟨e1,e2⟩|⟨e1,e2⟩<;>rcases hd with hd|hd
   .exact(ls T hd he).1 (by cases e;grind)
   .exact(ls T hd he).2 (by cases e;simp only at e1 e2;rw[e1,e2];rfl)
   .exact(ls T hd he).2 (by cases e;simp only at e1 e2;rw[e1,e2];rfl)
   .exact(ls T hd he).1 (by cases e;grind)
  .have:y=0:=aC;subst this;exact vt ev.1 (by rw[<-g];unfold cmb;simp) hx'
 .have:x=0:=aC;subst this;exact vt ev.2 (by rw[<-g];unfold cmb;simp) (aC:0<y)
def qn(T:Tg s D){d:S}(hd:d∈D):Lft (cT s) d.a d.b/\Lft (cT s) d.b d.a:=by obtain⟨d1,d2,_⟩:=T.ends d hd;have hi:=aCH T.vs d1 d2 (T.chord d hd);refine⟨Rn T (.inl (iF _ hd)) hi (QW T (.inl hd)),Rn T (.inr (iF _ hd)) ?_ (QW T (.inr hd))⟩;rw[ng];exact hi
end Geo
namespace Geo
def i7(E D:List S):List S:=E++(D++D.map swp)
def Ip{l:List S}(h:l.Nodup):(l.map swp).Nodup:=by rw[oS]at h|-;rw[kG];exact h.imp λ{a b} hne e=>hne (by rw[<-Qx a,e,Qx])
def lJ{l:List S}{e:S}:e∈l.map swp↔swp e∈l:=by rw[bn];exact⟨λ⟨d,hd,e⟩=>by rw[<-e];exact hd,λh=>⟨swp e,h,rfl⟩⟩
def ze{s:Shape}{D E:List S}(T:Tg s D)(hE:E.Nodup)(hs:∀e∈E,e∈ao s\/swp e∈ao s):(i7 E D).Nodup:=by
 have off:∀e∈E,∀d∈D,e≠d/\e≠swp d:=λe he d hd=>by
  rcases hs e he with g|g
  .exact ls T hd g
  .have:=ls T hd g;exact⟨aH,λh=>this.1 (by rw[h];rfl)⟩
 have hD:D.Nodup:=oS.2 (T.once.imp aH);unfold i7;rw[nK,nK];refine⟨hE,⟨hD,Ip hD,λa ha b hb e=> ?_⟩,λa ha b hb e=> ?_⟩
 .subst e;rw[lJ]at hb;rcases DA (R:=λd e:S=>d≠swp e) (λa b h e=>h (by rw[e];rfl)) (T.once.imp λ{a b} h=>h.2) _ ha _ hb with g|g
  .exact(T.ends a ha).2.2 (congrArg S.a g)
  .exact g rfl
 grind
def DK{s:Shape}{D E:List S}(T:Tg s D)(hm:∀e:S,e∈E↔eE (ao s) e.a e.b/\Lft (cT s) e.a e.b)(e:S):e∈i7 E D↔sides s D e.a e.b/\Lft (cT s) e.a e.b:=by
 unfold i7;rw[bz,bz,lJ,hm];constructor
 .rintro(⟨h1,h2⟩|h|h)
  .exact⟨h1.imp aH aH,h2⟩
  .exact⟨.inl (iF _ h),(qn T h).1⟩
  .exact⟨.inr (iF _ h),(qn T h).2⟩
 .rintro⟨h1,h2⟩;rcases h1 with h|h<;>rcases bz.1 h with h|h
  .exact .inl ⟨.inl h,h2⟩
  .simp_all
  .exact .inl ⟨.inr h,h2⟩
  .exact .inr (.inr h)
def PL(f:S->Int)(E D:List S):((i7 E D).map f).sum=(E.map f).sum+(D.map λd=>f d+f (swp d)).sum:=by unfold i7;rw[dV,dV,nM,nM,du,Q1];rfl
def AC{α:Type}{f:α->Int}:∀{l:List α},(∀x∈l,f x=0)->(l.map f).sum=0
 |[],_=>rfl
 |x::l,h=>by rw[dU,oT,h x aH,AC aH];rfl
def M4{α:Type}{f:α->Int}:∀{l:List α},(∀x∈l,0<=f x)->0<=(l.map f).sum
 |[],_=>kY _
 |x::l,h=>by
  have:=M4 λy hy=>h y (cM _ hy);grind
def aAG(a b c:V):cross a b+cross b c+cross c a=ev (lin a b) (pt c):=by unfold cross ev lin pt;grind
def VR.alone{r:aU}(h:VR r):VS ⟨r,[]⟩:=by refine⟨Nat.zero_le _,h,aH,?_,aH,aH,aH,aH,aH⟩;have:=h.most;unfold jy aR;grind
def VR.left{r:aU}(h:VR r){e:S}(he:e∈aW r):Lft (cY r) e.a e.b:=by
 obtain⟨_,i,hi,rfl⟩:=iq.1 he;rw[h.Ig i hi];refine dS λhn=> ?_;have hv:=h.alone;have hvs:bW ⟨r,[]⟩=r:=by unfold bW aR;simp
 have hes:ao ⟨r,[]⟩=aW r:=by unfold ao aR;simp
 have T:=J9 hv (v:=r) aH h.nodup;have H:=T.filled;have hi':cT ⟨r,[]⟩=cY r:=by funext p;unfold cT;simp
 obtain⟨TL,A⟩:=PC H.net (cT ⟨r,[]⟩) hv.nodup;have no:∀e∈aW r,¬Lft (cY r) e.a e.b:=λe he=>by obtain⟨_,i,hi,rfl⟩:=iq.1 he;rw[h.Ig i hi];exact hn
 have hm:∀e:S,e∈(aW r).map swp↔eE (ao ⟨r,[]⟩) e.a e.b/\Lft (cT ⟨r,[]⟩) e.a e.b:=λe=>by
  rw[lJ,hi',hes];constructor
  .intro g;refine⟨.inr g,dS λhx=>no _ g ?_⟩;exact(h.flip (a:=e.b) (b:=e.a) g).2 hx
  .rintro⟨g|g,g2⟩
   .grind
   .exact g
 have nd:=ze T (Ip h.CJ) λe he=> .inr (by rw[hes];exact lJ.1 he);have S1:=A.sum H nd (DK T hm) (λe=>cross e.a e.b);rw[PL,AC (f:=λd:S=>cross d.a d.b+cross (swp d).a (swp d).b) λd _=>by unfold cross swp;grind,du]at S1;have e1:((aW r).map ((λe:S=>cross e.a e.b)∘swp)).sum= -Geo.area r:=by
  rw[Gm aC];have:((aW r).map λe=>cross e.a e.b+((λe:S=>cross e.a e.b)∘swp) e).sum=0:=AC λd _=>by simp only[FG,cross,swp];grind
  rw[Q1]at this;omega
 have S2:0<=(TL.map λt=>cross t.a t.b+cross t.b t.c+cross t.c t.a).sum:=M4 λt ht=>by rw[aAG];have:=(A.tri t ht).left;omega
 have:=h.area;grind
def VR.right{r:aU}(h:VR r){e:S}(he:e∈aW r):¬Lft (cY r) e.b e.a:=(h.flip he).1 (h.left he)
end Geo
end Go.Proofs.YthbofdolalagjaaGreat
