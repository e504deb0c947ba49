/- What the statement stands on: contracts of functions, plain laws. Part 1 of 7, no condition of its own. (G1 G2 G3 G4 G5 G6 G7 G8 G9 H1 H2 H3 H4 H9 H6 H7 H8 I1 I2 I3 I4 I5 I6 I7 I8 I9 I10 H5 I11 I12 I13 I14 I15 I16) -/

set_option linter.all false
set_option maxRecDepth 100000
set_option maxHeartbeats 8000000
open Int renaming lt_or_gt_of_ne->mR,mul_le_mul_left->Ij,mul_zero->du,lt_or_le->cC,mul_pos_of_neg_of_neg->wh,mul_nonneg->cJ,mul_neg_of_neg_of_pos->nK,mul_eq_zero->cp,le_total->wn,mul_le_mul_of_nonneg_right->ls,zero_mul->zK,mul_one->zL,dvd_iff_tmod_eq_zero->Sz,add_zero->oW,mul_pos->bL,mul_lt_mul_of_pos_right->S6,mul_le_mul_of_nonneg_left->dS,lt_trichotomy->q9,pos_of_mul_pos_right->S7,mul_neg_of_pos_of_neg->fz,lt_or_eq_of_le->uS,le_of_lt->iy,zero_add->zO,mul_neg->nL,mul_nonpos_of_nonpos_of_nonneg->S8,neg_mul->od,not_le->rA,le_refl->kk,mul_comm->gg,sub_neg->Ir,one_mul->Is,eq_of_mul_eq_mul_left->nM,not_lt->DJ,add_mul->pq,mul_lt_mul_of_pos_left->Iu
open Bool renaming and_eq_true->bj,true_and->jM,false_eq_true->lN,not_true->mS,eq_iff_iff->fL,or_eq_true->jQ,false_and->oc,and_true->Il,false_bne->sZ,bne_false->wu,true_bne->zN,bne_true->wv,not_false->se,eq_false_iff->pu
open List renaming mem_cons->bI,not_mem_nil->cq,foldl_cons->zJ,pairwise_cons->iS,Pairwise.nil->wi,mem_filter->fG,length_nil->lr,length_cons->iE,range->bM,all_eq_true->bh,mem_range->cD,not_any_eq_all_not->Sy,getElem_of_mem->jS,perm_append_comm->wo,getD_eq_getElem?_getD->eI,getElem?_append_left->oU,getElem?_drop->wq,getElem?_append_right->lO,nodup_iff_pairwise_ne->oV,pairwise_iff_getElem->sW,getElem?_eq_getElem->dw,flatten_cons->mT,mem_append->bl,flatMap_cons->ff,mem_flatMap->dG,mem_flatten->lu,nodup_append->lv,Perm.refl->DF,mem_map->bR,map_cons->dX,map_nil->po,sum_cons->DG,map_append->dM,mem_singleton->bn,pairwise_append->S3,mem_append_left->ig,any_eq_true->jd,range_succ->q8,mem_cons_self->cI,mem_cons_of_mem->cG,map_map->dU,ext_getElem->uT,getElem_map->kJ,getElem_range->sf,map_congr_left->mU,ne_nil_of_mem->It,mem_append_right->gq,pairwise_map->km,Pairwise.and_mem->DL,sum_append->uU
open Classical renaming byContradiction->dQ
open Nat renaming mod_lt->bz,mod_eq_of_lt->dh,mod_self->kj,gcd->bB,lt_trichotomy->zM,mod_add_mod->lP,add_mod_right->pk,add_assoc->sV,gcd_dvd_right->uQ,le_of_dvd->Ik,lt_or_ge->oZ,gcd_dvd_left->sX,dvd_trans->uR,sub_add_cancel->Io
open Function renaming comp->DH
open Decidable renaming not_not->S5
namespace Go.Proofs.YthbofdolalagjaaGreat.Geo
end Go.Proofs.YthbofdolalagjaaGreat.Geo
open Go.Proofs.YthbofdolalagjaaGreat.Geo
namespace Go.Proofs.YthbofdolalagjaaGreat
@[reducible]def aA{α:Sort _}(a:α)(f:α->Prop):Prop:=f a
namespace Geo
structure V where
 x:Int
 y:Int
deriving DecidableEq,Inhabited
structure S where
 a:V
 b:V
deriving DecidableEq,Inhabited
def sub(p q:V):V:=⟨p.x-q.x,p.y-q.y⟩
def cross(p q:V):Int:=p.x*q.y-p.y*q.x
def sgn(n:Int):Int:=if 0<n then 1 else if n<0 then-1 else 0
def turn(a b c:V):Int:=sgn (cross (sub b a) (sub c a))
def bf(p q:V):Bool:=decide (p.y<q.y)||(p.y==q.y&&decide (p.x<q.x))
def aX(p:V)(m:Int):Bool:=decide (-m<=p.x)&&decide (p.x<=m)&&decide (-m<=p.y)&&decide (p.y<=m)
def bD(s:S):Bool:=aX s.a 4000&&aX s.b 4000
def fW(s:S)(p:V):Bool:=decide (min s.a.x s.b.x<=p.x)&&decide (p.x<=max s.a.x s.b.x)&&decide (min s.a.y s.b.y<=p.y)&&decide (p.y<=max s.a.y s.b.y)
def onS(s:S)(p:V):Bool:=bD s&&fW s p&&turn s.a s.b p==0
def o4(n:Int):sgn n=0↔n=0:=by unfold sgn;grind
def qM(n:Int):0<sgn n↔0<n:=by unfold sgn;grind
def Z0(n:Int):sgn n<0↔n<0:=by unfold sgn;grind
def xT(m n:Int):sgn m*sgn n<0↔(0<m/\n<0)\/(m<0/\0<n):=by unfold sgn;grind
def fE(x y:Int):Int:=if x<y then-1 else if y<x then 1 else 0
def bq(p q:V):Int:=if fE p.y q.y=0 then fE p.x q.x else fE p.y q.y
def pI(s t:S)(d:Int):Int:=
 let a0:=cross (sub t.a s.a) (sub t.b t.a)
 let b0:=cross (sub t.a s.a) (sub s.b s.a)
 let a:=if d<0 then-a0 else a0
 let b:=if d<0 then-b0 else b0
 let e:=if d<0 then-d else d
 if a<0\/e<a\/b<0\/e<b then 0 else if a=0\/a=e\/b=0\/b=e then 1 else 2
def loS(s:S):V:=if bf s.b s.a then s.b else s.a
def hiS(s:S):V:=if bf s.b s.a then s.a else s.b
def fB(s t:S):V:=if bf (loS s) (loS t)then loS t else loS s
def fN(s t:S):V:=if bf (hiS t) (hiS s)then hiS t else hiS s
def cF(s t:S):Int:=
 if !(bD s&&bD t)then 0
 else if cross (sub s.b s.a) (sub t.b t.a)≠0 then pI s t (cross (sub s.b s.a) (sub t.b t.a))
 else if s.a=s.b/\onS t s.a=true then 1
 else if t.a=t.b/\onS s t.a=true then 1
 else if s.a=s.b\/t.a=t.b\/turn s.a s.b t.a≠0 then 0
 else if bq (fB s t) (fN s t)=0 then 1
 else if bq (fB s t) (fN s t)= -1 then 3
 else 0
def cE(s t:S)(p:V):Prop:=onS s p=true/\onS t p=true
structure MeetIs(s t:S)(k:Int):Prop where
 none:(bD s&&bD t)=false->k=0
 over:∀p q,p∈[s.a,s.b,t.a,t.b]->q∈[s.a,s.b,t.a,t.b]->p≠q->cE s t p->cE s t q->k=3
 touch:(bD s&&bD t)=true->(∀p q,p∈[s.a,s.b,t.a,t.b]->q∈[s.a,s.b,t.a,t.b]->cE s t p->cE s t q->p=q)->(∃p,p∈[s.a,s.b,t.a,t.b]/\cE s t p)->k=1
 cross:(bD s&&bD t)=true->(∀p,p∈[s.a,s.b,t.a,t.b]->¬cE s t p)->(turn s.a s.b t.a*turn s.a s.b t.b<0/\turn t.a t.b s.a*turn t.a t.b s.b<0)->k=2
 else_:(bD s&&bD t)=true->(∀p,p∈[s.a,s.b,t.a,t.b]->¬cE s t p)->¬(turn s.a s.b t.a*turn s.a s.b t.b<0/\turn t.a t.b s.a*turn t.a t.b s.b<0)->k=0
def Bs(d b v w:Int)(hd:0<d)(h:d*w=b*v)(hv:v≠0):(min 0 v<=w/\w<=max 0 v)↔(0<=b/\b<=d):=by
 rcases mR hv with hv|hv
 .have e1:w<=0↔0<=b:=by
   rw[<-Ij hd,du,h];constructor
   .intro h1;rcases cC b 0 with h2|h2
    .have:=wh h2 hv;omega
    .exact h2
   .intro h1;have:=cJ h1 (show(0:Int)<= -v by omega);grind
  have e2:v<=w↔b<=d:=by
   rw[<-Ij hd,h];constructor
   .simp_all
   .simp_all
  omega
 .have e1:0<=w↔0<=b:=by
   rw[<-Ij hd,du,h];constructor
   .intro h1;rcases cC b 0 with h2|h2
    .have:=nK h2 hv;omega
    .exact h2
   .intro h1;exact cJ h1 (by omega)
  have e2:w<=v↔b<=d:=by rw[<-Ij hd,h];exact Int.mul_le_mul_right hv
  omega
def pD(s:S)(p:V)(d b:Int)(hd:0<d)(hx:d*(p.x-s.a.x)=b*(s.b.x-s.a.x))(hy:d*(p.y-s.a.y)=b*(s.b.y-s.a.y))(hv:s.a≠s.b):
  fW s p=true↔(0<=b/\b<=d):=by
 obtain⟨⟨ax,ay⟩,⟨bx,b_y⟩⟩:=s;obtain⟨px,py⟩:=p;simp only[fW,bj,decide_eq_true_eq]at*;simp only[ne_eq,V.mk.injEq,not_and]at hv;by_cases h1:bx-ax=0
 .have h2:b_y-ay≠0:=by intro h2;grind
  rw[h1,du]at hx;have h3:px-ax=0:=by
   rcases cp.1 hx with h|h
   .omega
   .exact h
  have:=Bs d b _ _ hd hy h2;omega
 .by_cases h2:b_y-ay=0
  .rw[h2,du]at hy;have h3:py-ay=0:=by
    rcases cp.1 hy with h|h
    .omega
    .exact h
   have:=Bs d b _ _ hd hx h1;omega
  .have e1:=Bs d b _ _ hd hx h1;have e2:=Bs d b _ _ hd hy h2;omega
def gi{s:S}{p:V}(hv:bD s=true):onS s p=true↔(fW s p=true/\cross (sub s.b s.a) (sub p s.a)=0):=by unfold onS turn;rw[hv];simp only[jM,bj,beq_iff_eq,o4]
def fQ{s:S}(hv:bD s=true):onS s s.a=true:=by rw[gi hv];refine⟨?_,by simp[cross,sub]⟩;simp[fW];omega
def jp{s:S}(hv:bD s=true):onS s s.b=true:=by rw[gi hv];refine⟨?_,by simp only[cross,sub];grind⟩;simp[fW];omega
def q1{d a b sa sb ta tb:Int}(h:d*(ta-sa)=a*(sb-sa)-b*(tb-ta))(e:a=0):d*(sa-ta)=b*(tb-ta):=by grind
def q2{d a b sa sb ta tb:Int}(h:d*(ta-sa)=a*(sb-sa)-b*(tb-ta))(e:a=d):d*(sb-ta)=b*(tb-ta):=by grind
def q3{d a b sa sb ta tb:Int}(h:d*(ta-sa)=a*(sb-sa)-b*(tb-ta))(e:b=0):d*(ta-sa)=a*(sb-sa):=by grind
def q4{d a b sa sb ta tb:Int}(h:d*(ta-sa)=a*(sb-sa)-b*(tb-ta))(e:b=d):d*(tb-sa)=a*(sb-sa):=by grind
def z13{d a b sa sb ta tb:Int}(h:d*(ta-sa)=a*(sb-sa)-b*(tb-ta))(e:a=0)(f:b=0):d*(ta-sa)=0:=by grind
def z14{d a b sa sb ta tb:Int}(h:d*(ta-sa)=a*(sb-sa)-b*(tb-ta))(e:a=0)(f:b=d):d*(tb-sa)=0:=by grind
def z23{d a b sa sb ta tb:Int}(h:d*(ta-sa)=a*(sb-sa)-b*(tb-ta))(e:a=d)(f:b=0):d*(ta-sb)=0:=by grind
def z24{d a b sa sb ta tb:Int}(h:d*(ta-sa)=a*(sb-sa)-b*(tb-ta))(e:a=d)(f:b=d):d*(tb-sb)=0:=by grind
def Yx(s t:S)(hs:bD s=true)(ht:bD t=true)(hd:cross (sub s.b s.a) (sub t.b t.a)≠0):
  MeetIs s t (pI s t (cross (sub s.b s.a) (sub t.b t.a))):=by
 have hsab:s.a≠s.b:=by intro h;apply hd;rw[h];simp[cross,sub]
 have htab:t.a≠t.b:=by intro h;apply hd;rw[h];simp[cross,sub]
 obtain⟨a0,ha0⟩:∃a,a=cross (sub t.a s.a) (sub t.b t.a):=⟨_,rfl⟩;obtain⟨b0,hb0⟩:∃a,a=cross (sub t.a s.a) (sub s.b s.a):=⟨_,rfl⟩;obtain⟨d0,hd0⟩:∃a,a=cross (sub s.b s.a) (sub t.b t.a):=⟨_,rfl⟩;have f1:cross (sub t.b t.a) (sub s.a t.a)=a0:=by rw[ha0];simp only[cross,sub];grind
 have f2:cross (sub t.b t.a) (sub s.b t.a)=a0-d0:=by rw[ha0,hd0];simp only[cross,sub];grind
 have f3:cross (sub s.b s.a) (sub t.a s.a)= -b0:=by rw[hb0];simp only[cross,sub];grind
 have f4:cross (sub s.b s.a) (sub t.b s.a)=d0-b0:=by rw[hb0,hd0];simp only[cross,sub];grind
 have gx:d0*(t.a.x-s.a.x)=a0*(s.b.x-s.a.x)-b0*(t.b.x-t.a.x):=by rw[ha0,hb0,hd0];simp only[cross,sub];grind
 have gy:d0*(t.a.y-s.a.y)=a0*(s.b.y-s.a.y)-b0*(t.b.y-t.a.y):=by rw[ha0,hb0,hd0];simp only[cross,sub];grind
 rw[<-hd0]at hd;obtain⟨a,b,d,hdp,hx,hy,hab⟩:∃a b d:Int,0<d/\d*(t.a.x-s.a.x)=a*(s.b.x-s.a.x)-b*(t.b.x-t.a.x)/\d*(t.a.y-s.a.y)=a*(s.b.y-s.a.y)-b*(t.b.y-t.a.y)/\((d0<0/\a= -a0/\b= -b0/\d= -d0)\/(¬d0<0/\a=a0/\b=b0/\d=d0)):=by
  by_cases h:d0<0
  .exact⟨-a0,-b0,-d0,by omega,by grind,by grind,by grind⟩
  .exact⟨a0,b0,d0,by omega,gx,gy,by grind⟩
 have hK:pI s t d0=if a<0\/d<a\/b<0\/d<b then 0 else if a=0\/a=d\/b=0\/b=d then 1 else 2:=by unfold pI;simp only[<-ha0,<-hb0];rcases hab with⟨h,rfl,rfl,rfl⟩|⟨h,rfl,rfl,rfl⟩<;>simp only[h,if_true,if_false]
 have c1:cE s t s.a↔(a=0/\0<=b/\b<=d):=by
  unfold cE;rw[gi ht,f1];have e:a0=0↔a=0:=by clear gx gy hx hy;omega
  rw[e];constructor
  .rintro⟨_,h1,h2⟩;exact⟨h2,(pD t s.a d b hdp (q1 hx h2) (q1 hy h2) htab).1 h1⟩
  .rintro⟨h2,h3⟩;exact⟨fQ hs,(pD t s.a d b hdp (q1 hx h2) (q1 hy h2) htab).2 h3,h2⟩
 have c2:cE s t s.b↔(a=d/\0<=b/\b<=d):=by
  unfold cE;rw[gi ht,f2];have e:a0-d0=0↔a=d:=by clear gx gy hx hy;omega
  rw[e];constructor
  .rintro⟨_,h1,h2⟩;exact⟨h2,(pD t s.b d b hdp (q2 hx h2) (q2 hy h2) htab).1 h1⟩
  .rintro⟨h2,h3⟩;exact⟨jp hs,(pD t s.b d b hdp (q2 hx h2) (q2 hy h2) htab).2 h3,h2⟩
 have c3:cE s t t.a↔(b=0/\0<=a/\a<=d):=by
  unfold cE;rw[gi hs,f3];have e: -b0=0↔b=0:=by clear gx gy hx hy;omega
  rw[e];constructor
  .rintro⟨⟨h1,h2⟩,_⟩;exact⟨h2,(pD s t.a d a hdp (q3 hx h2) (q3 hy h2) hsab).1 h1⟩
  .rintro⟨h2,h3⟩;exact⟨⟨(pD s t.a d a hdp (q3 hx h2) (q3 hy h2) hsab).2 h3,h2⟩,fQ ht⟩
 have c4:cE s t t.b↔(b=d/\0<=a/\a<=d):=by
  unfold cE;rw[gi hs,f4];have e:d0-b0=0↔b=d:=by clear gx gy hx hy;omega
  rw[e];constructor
  .rintro⟨⟨h1,h2⟩,_⟩;exact⟨h2,(pD s t.b d a hdp (q4 hx h2) (q4 hy h2) hsab).1 h1⟩
  .rintro⟨h2,h3⟩;exact⟨⟨(pD s t.b d a hdp (q4 hx h2) (q4 hy h2) hsab).2 h3,h2⟩,jp ht⟩
 have hT:(turn s.a s.b t.a*turn s.a s.b t.b<0/\turn t.a t.b s.a*turn t.a t.b s.b<0)↔(0<a/\a<d/\0<b/\b<d):=by
  unfold turn;rw[xT,xT,f1,f2,f3,f4];clear hx hy gx gy c1 c2 c3 c4 f1 f2 f3 f4 hK ha0 hb0 hd0;rcases hab with⟨h,rfl,rfl,rfl⟩|⟨h,rfl,rfl,rfl⟩
  .omega
  .omega
 rw[<-hd0,hK];clear hK f1 f2 f3 f4;have hone:∀p q,p∈[s.a,s.b,t.a,t.b]->q∈[s.a,s.b,t.a,t.b]->cE s t p->cE s t q->p=q:=by
  have zz:∀x:Int,d*x=0->x=0:=λx h=>by rcases cp.1 h with h|h<;>omega
  have e13:cE s t s.a->cE s t t.a->s.a=t.a:=by rw[c1,c3];rintro⟨h1,_⟩ ⟨h2,_⟩;have h3:=zz _ (z13 hx h1 h2);have h4:=zz _ (z13 hy h1 h2);cases hsa:s.a;cases hta:t.a;simp only[hsa,hta]at h3 h4;simp;omega
  have e14:cE s t s.a->cE s t t.b->s.a=t.b:=by rw[c1,c4];rintro⟨h1,_⟩ ⟨h2,_⟩;have h3:=zz _ (z14 hx h1 h2);have h4:=zz _ (z14 hy h1 h2);cases hsa:s.a;cases hta:t.b;simp only[hsa,hta]at h3 h4;simp;omega
  have e23:cE s t s.b->cE s t t.a->s.b=t.a:=by rw[c2,c3];rintro⟨h1,_⟩ ⟨h2,_⟩;have h3:=zz _ (z23 hx h1 h2);have h4:=zz _ (z23 hy h1 h2);cases hsa:s.b;cases hta:t.a;simp only[hsa,hta]at h3 h4;simp;omega
  have e24:cE s t s.b->cE s t t.b->s.b=t.b:=by rw[c2,c4];rintro⟨h1,_⟩ ⟨h2,_⟩;have h3:=zz _ (z24 hx h1 h2);have h4:=zz _ (z24 hy h1 h2);cases hsa:s.b;cases hta:t.b;simp only[hsa,hta]at h3 h4;simp;omega
  have e12:cE s t s.a->cE s t s.b->False:=by rw[c1,c2];clear hx hy;omega
  have e34:cE s t t.a->cE s t t.b->False:=by rw[c3,c4];clear hx hy;omega
  intro p q hp hq h1 h2;simp only[bI,cq,or_false]at hp hq;rcases hp with rfl|rfl|rfl|rfl<;>rcases hq with rfl|rfl|rfl|rfl
  .rfl
  .grind
  .grind
  .grind
  .grind
  .rfl
  .grind
  .grind
  .grind
  .grind
  .rfl
  .grind
  .grind
  .grind
  .grind
  .rfl
 clear hx hy hd0 hab hd;constructor
 .grind
 .grind
 .grind
 .omega
 grind
def leV(p q:V):Prop:=p.y<q.y\/(p.y=q.y/\p.x<=q.x)
instance(p q:V):Decidable (leV p q):=by unfold leV;infer_instance
def tZ(p:V):leV p p:= .inr (by grind)
def rL{p q r:V}(h1:leV p q)(h2:leV q r):leV p r:=by unfold leV at*;omega
def xz{p q:V}(h1:leV p q)(h2:leV q p):p=q:=by cases p;cases q;unfold leV at*;grind
def xt(p q:V):leV p q\/leV q p:=by unfold leV;omega
def mj(p q:V):bf p q=true↔¬leV q p:=by unfold bf leV;simp;omega
def rG(p q:V):bf p q=false↔leV q p:=by rw[<-Bool.not_eq_true,mj];grind
def xu(p q:V):bq p q=0↔p=q:=by cases p;cases q;unfold bq fE;grind
def Nb(p q:V):bq p q= -1↔bf p q=true:=by unfold bq fE bf;grind
def yO(p q:V):bq p q<0↔bf p q=true:=by unfold bq fE bf;grind
def Ov(s:S):(loS s=s.a/\hiS s=s.b)\/(loS s=s.b/\hiS s=s.a):=by unfold loS hiS;grind
def Ni(s:S)(p:V)(hne:s.a≠s.b)(hc:cross (sub s.b s.a) (sub p s.a)=0):fW s p=true↔(leV (loS s) p/\leV p (hiS s)):=by
 simp only[cross,sub]at hc;by_cases hy:s.b.y=s.a.y
 .have hx:s.b.x≠s.a.x:=by intro hx;apply hne;cases hsa:s.a;cases hsb:s.b;simp only[hsa,hsb]at hx hy;simp[hx,hy]
  unfold loS hiS;cases h:bf s.b s.a
  .have h1:=(rG _ _).1 h;simp only[fW,leV,bj,decide_eq_true_eq]at*;grind
  .have h1:=(mj _ _).1 h;simp only[fW,leV,bj,decide_eq_true_eq]at*;grind
 .have hxy:p.y=s.a.y->p.x=s.a.x:=by
   intro h;have h0:p.y-s.a.y=0:=by omega
   rw[h0]at hc;have:(s.b.y-s.a.y)*(p.x-s.a.x)=0:=by omega
   rcases cp.1 this with h|h<;>omega
  have hxz:p.y=s.b.y->p.x=s.b.x:=by
   intro h;rw[h]at hc;have:(s.b.y-s.a.y)*(p.x-s.b.x)=0:=by grind
   rcases cp.1 this with h|h<;>omega
  rcases mR hy with h|h
  .have hb:=pD s p (s.a.y-s.b.y) (s.a.y-p.y) (by omega) (by grind) (by grind) hne;rw[hb];have h1:bf s.b s.a=true:=by rw[mj];unfold leV;omega
   unfold loS hiS;rw[h1];simp only[if_true,leV];omega
  .have hb:=pD s p (s.b.y-s.a.y) (p.y-s.a.y) (by omega) (by grind) (by grind) hne;rw[hb];have h1:bf s.b s.a=false:=by rw[rG];unfold leV;omega
   unfold loS hiS;rw[h1];simp only[lN,if_false,leV];omega
def AM{s:S}(h:s.a=s.b){p:V}(hp:fW s p=true):p=s.a:=by cases hsa:s.a;cases hsb:s.b;cases p;simp only[fW,hsa,hsb,V.mk.injEq,bj,decide_eq_true_eq]at*;omega
def J4(u v w:V)(h1:cross u v=0)(h2:cross v w=0)(hv:v≠⟨0,0⟩):cross u w=0:=by
 simp only[cross]at*;by_cases hx:v.x=0
 .have hy:v.y≠0:=by intro hy;apply hv;cases v;simp at hx hy;simp[hx,hy]
  have:v.y*(u.x*w.y-u.y*w.x)=0:=by grind
  rcases cp.1 this with h|h
  .omega
  .exact h
 .have:v.x*(u.x*w.y-u.y*w.x)=0:=by grind
  rcases cp.1 this with h|h
  .omega
  .exact h
def PX{p q:V}(h:p≠q):sub q p≠⟨0,0⟩:=by intro h';apply h;cases p;cases q;simp only[sub,V.mk.injEq]at*;omega
def o9(s t:S):MeetIs s t (cF s t):=by
 unfold cF;by_cases hv:(bD s&&bD t)=true
 .have hs:bD s=true:=by simp at hv;exact hv.1
  have ht:bD t=true:=by simp at hv;exact hv.2
  rw[if_neg (by rw[hv];simp)];by_cases hd:cross (sub s.b s.a) (sub t.b t.a)≠0
  .rw[if_pos hd];exact Yx s t hs ht hd
  .rw[if_neg hd];have hd0:cross (sub s.b s.a) (sub t.b t.a)=0:=by omega
   have hnv:∀k,(bD s&&bD t)=false->k=(0:Int):=by intro k h;rw[hv]at h;cases h
   have hside:¬(turn s.a s.b t.a*turn s.a s.b t.b<0/\turn t.a t.b s.a*turn t.a t.b s.b<0):=by
    rintro⟨h,_⟩;unfold turn at h;rw[xT]at h;have e:cross (sub s.b s.a) (sub t.b s.a)=cross (sub s.b s.a) (sub t.a s.a)+cross (sub s.b s.a) (sub t.b t.a):=by simp only[cross,sub];grind
    omega
   have allone:∀z,(∀p,p∈[s.a,s.b,t.a,t.b]->cE s t p->p=z)->cE s t z->z∈[s.a,s.b,t.a,t.b]->MeetIs s t 1:=by intro z hz hzo hzm;refine⟨hnv 1,by grind,λ_ _ _=>rfl,by grind,by grind⟩
   have nothing:(∀p,p∈[s.a,s.b,t.a,t.b]->¬cE s t p)->MeetIs s t 0:=by intro h;exact⟨λ_=>rfl,by grind,by grind,by grind,λ_ _ _=>rfl⟩
   by_cases h1:s.a=s.b/\onS t s.a=true
   .rw[if_pos h1];exact allone s.a (λp _ h=>AM h1.1 ((gi hs).1 h.1).1) ⟨fQ hs,h1.2⟩ (by simp)
   .rw[if_neg h1];by_cases h2:t.a=t.b/\onS s t.a=true
    .rw[if_pos h2];exact allone t.a (λp _ h=>AM h2.1 ((gi ht).1 h.2).1) ⟨h2.2,fQ ht⟩ (by simp)
    .rw[if_neg h2];by_cases h3:s.a=s.b\/t.a=t.b\/turn s.a s.b t.a≠0
     .rw[if_pos h3];apply nothing;rintro p hp ⟨hps,hpt⟩;by_cases hsd:s.a=s.b
      .have:=AM hsd ((gi hs).1 hps).1;grind
      .by_cases htd:t.a=t.b
       .have:=AM htd ((gi ht).1 hpt).1;grind
       .have h4:turn s.a s.b t.a≠0:=by
         rcases h3 with h|h|h
         .grind
         .grind
         .exact h
        have c1:=((gi hs).1 hps).2;have c2:=((gi ht).1 hpt).2;have hv0:=PX htd;have c3:=J4 _ _ _ hd0 c2 hv0;apply h4;unfold turn;rw[o4];have e:cross (sub s.b s.a) (sub t.a s.a)=cross (sub s.b s.a) (sub p s.a)-cross (sub s.b s.a) (sub p t.a):=by simp only[cross,sub];grind
        omega
     .rw[if_neg h3];have hsd:s.a≠s.b:=by grind
      have htd:t.a≠t.b:=by grind
      have hta:cross (sub s.b s.a) (sub t.a s.a)=0:=by
       have:turn s.a s.b t.a=0:=by grind
       unfold turn at this;rwa[o4]at this
      have hl1:∀p,p∈[s.a,s.b,t.a,t.b]->cross (sub s.b s.a) (sub p s.a)=0:=by
       intro p hp;simp only[bI,cq,or_false]at hp;rcases hp with rfl|rfl|rfl|rfl
       .simp[cross,sub]
       .simp only[cross];grind
       .exact hta
       .have e:cross (sub s.b s.a) (sub t.b s.a)=cross (sub s.b s.a) (sub t.a s.a)+cross (sub s.b s.a) (sub t.b t.a):=by simp only[cross,sub];grind
        omega
      have hl2:∀p,p∈[s.a,s.b,t.a,t.b]->cross (sub t.b t.a) (sub p t.a)=0:=by
       intro p hp;have h5:=hl1 p hp;have e:cross (sub s.b s.a) (sub p t.a)=cross (sub s.b s.a) (sub p s.a)-cross (sub s.b s.a) (sub t.a s.a):=by simp only[cross,sub];grind
       have h6:cross (sub s.b s.a) (sub p t.a)=0:=by omega
       have h7:cross (sub t.b t.a) (sub s.b s.a)=0:=by
        have:cross (sub t.b t.a) (sub s.b s.a)= -cross (sub s.b s.a) (sub t.b t.a):=by simp only[cross,sub];grind
        omega
       exact J4 _ _ _ h7 h6 (PX hsd)
      have hlo:leV (loS s) (fB s t)/\leV (loS t) (fB s t)/\(fB s t=loS s\/fB s t=loS t):=by
       unfold fB;cases h:bf (loS s) (loS t)
       .have:=(rG _ _).1 h;simp[this,tZ]
       .have h':=(mj _ _).1 h;have:leV (loS s) (loS t):=(xt _ _).elim id (by grind);simp[this,tZ]
      have hhi:leV (fN s t) (hiS s)/\leV (fN s t) (hiS t)/\(fN s t=hiS s\/fN s t=hiS t):=by
       unfold fN;cases h:bf (hiS t) (hiS s)
       .have:=(rG _ _).1 h;simp[this,tZ]
       .have h':=(mj _ _).1 h;have:leV (hiS t) (hiS s):=(xt _ _).elim id (by grind);simp[this,tZ]
      have hmem:∀p,(p=loS s\/p=hiS s\/p=loS t\/p=hiS t)->p∈[s.a,s.b,t.a,t.b] :=by intro p h;have h5:=Ov s;have h6:=Ov t;simp only[bI,cq,or_false];grind
      have hon:∀p,p∈[s.a,s.b,t.a,t.b]->(cE s t p↔leV (fB s t) p/\leV p (fN s t)):=by
       intro p hp;unfold cE;rw[gi hs,gi ht,Ni s p hsd (hl1 p hp),Ni t p htd (hl2 p hp)];constructor
       .grind
       .rintro⟨a1,a2⟩;exact⟨⟨⟨rL hlo.1 a1,rL a2 hhi.1⟩,hl1 p hp⟩,⟨rL hlo.2.1 a1,rL a2 hhi.2.1⟩,hl2 p hp⟩
      have mlo:fB s t∈[s.a,s.b,t.a,t.b] :=hmem _ (by grind);have mhi:fN s t∈[s.a,s.b,t.a,t.b] :=hmem _ (by grind);by_cases h5:bq (fB s t) (fN s t)=0
      .rw[if_pos h5];have e:=(xu _ _).1 h5;refine allone (fB s t) ?_ (by grind) mlo;intro p hp h;have h6:=(hon p hp).1 h;rw[<-e]at h6;exact xz h6.2 h6.1
      .rw[if_neg h5];by_cases h6:bq (fB s t) (fN s t)= -1
       .rw[if_pos h6];have h7:=(mj _ _).1 ((Nb _ _).1 h6);have h8:leV (fB s t) (fN s t):=(xt _ _).elim id (by grind);have o1:=(hon _ mlo).2 ⟨tZ _,h8⟩;have o2:=(hon _ mhi).2 ⟨h8,tZ _⟩;have hne:fB s t≠fN s t:=by grind
        exact⟨by grind,by grind,by grind,by grind,by grind⟩
       .rw[if_neg h6];apply nothing;intro p hp h;have h7:=(hon p hp).1 h;have h8:=rL h7.1 h7.2;have h9:¬bf (fB s t) (fN s t)=true:=λh=>h6 ((Nb _ _).2 h);rw[mj]at h9;exact h5 ((xu _ _).2 (xz h8 (by grind)))
 .have hv':(bD s&&bD t)=false:=by simpa using hv
  rw[if_pos (by rw[hv'];rfl)];have hv3:¬(bD s&&bD t)=true:=by rw[hv'];simp
  refine⟨λ_=>rfl,λp q _ _ _ h1 _=> ?_,by grind,by grind,by grind⟩;exfalso;obtain⟨h1,h2⟩:=h1;unfold onS at h1 h2;grind
def kF:List V->V->List V
 |[],p=>[p]
 |q::r,p=>if bf q p then q::kF r p else if q=p then q::r else p::q::r
def mC(l:List V):List V:=l.foldl kF []
def M4(l:List V)(p x:V):x∈kF l p↔x=p\/x∈l:=by
 induction l with
 |nil=>simp[kF]
 |cons q r ih=>
  unfold kF;grind
def Tl(l acc:List V)(x:V):x∈l.foldl kF acc↔x∈acc\/x∈l:=by
 induction l generalizing acc with
 |nil=>simp
 |cons q r ih=>rw[zJ,ih,M4];grind
def Ug(l:List V)(x:V):x∈mC l↔x∈l:=by unfold mC;rw[Tl];simp
def ul{p q r:V}(h1:bf p q=true)(h2:bf q r=true):bf p r=true:=by unfold bf at*;grind
def xP(p:V):bf p p=false:=by unfold bf;simp
def A9{p q:V}(h1:bf p q=false)(h2:p≠q):bf q p=true:=by rw[mj];intro h;exact h2 (xz h ((rG _ _).1 h1))
def Um(l:List V)(p:V)(h:l.Pairwise (λa b=>bf a b=true)):(kF l p).Pairwise (λa b=>bf a b=true):=by
 induction l with
 |nil=>simp[kF]
 |cons q r ih=>
  rw[iS]at h;unfold kF;split
  .rename_i hq;rw[iS];refine⟨?_,ih h.2⟩;intro x hx;rcases(M4 _ _ _).1 hx with rfl|hx
   .exact hq
   grind
  .split
   .simp_all
   .rename_i hne;have hpq:=A9 (by grind) hne;rw[iS,iS];refine⟨?_,h⟩;intro x hx;rcases bI.1 hx with rfl|hx
    .exact hpq
    .exact ul hpq (h.1 x hx)
def TR(l acc:List V)(h:acc.Pairwise (λa b=>bf a b=true)):(l.foldl kF acc).Pairwise (λa b=>bf a b=true):=by
 induction l generalizing acc with
 |nil=>exact h
 |cons q r ih=>exact ih _ (Um acc q h)
def JL(l:List V):(mC l).Pairwise (λa b=>bf a b=true):=TR l [] wi
def ends(s t:S):List V:=[s.a,s.b,t.a,t.b]
def dx(s t:S):List V:=mC ((ends s t).filter (λp=>onS s p&&onS t p))
def EA(s t:S)(p:V):p∈dx s t↔p∈ends s t/\cE s t p:=by unfold dx cE;rw[Ug,fG];simp
def gk(s:S)(p:V):Int:=if !(bD s)|| !(aX p 4000)then 0 else turn s.a s.b p
def bi(s t:S):Int:=
 if !(bD s&&bD t)then 0
 else if 1<(dx s t).length then 3
 else if(dx s t).length=1 then 1
 else if gk s t.a*gk s t.b<0/\gk t s.a*gk t s.b<0 then 2
 else 0
def pB(s t:S):cF s t=bi s t:=by
 have h:=o9 s t;obtain⟨k,hk⟩:∃k,k=cF s t:=⟨_,rfl⟩;unfold bi;cases hv:(bD s&&bD t)with
 |false=>simp[h.none hv]
 |true=>
  have hs:bD s=true:=by simp at hv;exact hv.1
  have ht:bD t=true:=by simp at hv;exact hv.2
  have ws:=hs;have wt:=ht;unfold bD at ws wt;simp only[bj]at ws wt;simp only[mS,lN,if_false,gk,hs,ht,ws,wt,Bool.or_self];have hp:=JL ((ends s t).filter (λp=>onS s p&&onS t p));have hm:=EA s t;rw[show mC ((ends s t).filter (λp=>onS s p&&onS t p))=dx s t from rfl]at hp;generalize dx s t=l at hp hm;match l,hp,hm with
  |[],_,hm=>
   have hno:∀p,p∈[s.a,s.b,t.a,t.b]->¬cE s t p:=λp hp ho=>by have:=(hm p).2 ⟨hp,ho⟩;cases this
   simp only[lr];by_cases hc:turn s.a s.b t.a*turn s.a s.b t.b<0/\turn t.a t.b s.a*turn t.a t.b s.b<0
   .rw[if_pos hc];exact h.cross hv hno hc
   .rw[if_neg hc];exact h.else_ hv hno hc
  |[z],_,hm=>
   simp only[List.length_singleton];have hz:=(hm z).1 (by simp);refine h.touch hv ?_ ⟨z,hz⟩;intro p q hp hq h1 h2;have e1:=(hm p).2 ⟨hp,h1⟩;have e2:=(hm q).2 ⟨hq,h2⟩;grind
  |z::y::r,hp,hm=>
   simp only[iE];have hz:=(hm z).1 (by simp);have hy:=(hm y).1 (by simp);refine h.over z y hz.1 hy.1 ?_ hz.2 hy.2;intro e;rw[iS]at hp;have:=hp.1 y (by simp);rw[e,xP]at this;cases this
end Geo
namespace Geo
abbrev aD:=List V
def nth(r:aD)(i:Nat):V:=r.getD i default
def nxt(r:aD)(i:Nat):V:=nth r ((i+1) % r.length)
def prv(r:aD)(i:Nat):V:=nth r ((i+r.length-1) % r.length)
def bO(r:aD)(i:Nat):S:=⟨nth r i,nxt r i⟩
def aJ(r:aD):List S:=if r.length<2 then []else(bM r.length).map (bO r)
def area(r:aD):Int:=((bM r.length).map λi=>cross (nth r i) (nxt r i)).sum
def near(r:aD):Bool:=r.all λv=>aX v 2000
def cY(r:aD):Bool:=
 decide (3<=r.length)&&decide (r.length<=40)&&near r&&decide (0<area r)&&
 ((bM r.length).all λi=>turn (prv r i) (nth r i) (nxt r i) !=0)&&
 ((bM r.length).all λi=>(bM r.length).all λk=>decide (k<=i)||k==i+1||(i==0&&k==r.length-1)||cF (bO r i) (bO r k)==0)
def dj(r:aD):Bool:=
 decide (3<=r.length)&&decide (r.length<=40)&&near r&&
 ((bM r.length).all λi=>turn (nth r i) (nth r ((i+1) % r.length)) (nth r ((i+2) % r.length)) !=0)&&
 ((bM r.length).all λi=>(bM r.length).all λk=>decide (k<=i)||
   (if k=i+1\/(i=0/\k=r.length-1)then bi (bO r i) (bO r k)==1 else bi (bO r i) (bO r k)==0))&&
 decide (0<area r)
def vB(a b c:V):turn a b c=turn b c a:=by unfold turn;simp only[cross,sub];grind
def K4(a b c:V):cross (sub b a) (sub c a)= -cross (sub a b) (sub c b):=by simp only[cross,sub];grind
def M6(s t:S)(hs:bD s=true)(ht:bD t=true)(he:s.b=t.a)(hn:turn s.a s.b t.b≠0):cF s t=1:=by
 have h:=o9 s t;have hb:cE s t s.b:=⟨jp hs,by rw[he];exact fQ ht⟩;refine h.touch (by grind) ?_ (by grind);have key:∀p,p∈[s.a,s.b,t.a,t.b]->cE s t p->p=s.b:=by
  intro p hp ho;simp only[bI,cq,or_false]at hp;rcases hp with rfl|rfl|rfl|rfl
  .exfalso;apply hn;have:=((gi ht).1 ho.2).2;rw[vB];unfold turn;rw[o4,he];exact this
  .rfl
  .exact he.symm
  .exfalso;apply hn;have:=((gi hs).1 ho.1).2;unfold turn;rw[o4];exact this
 grind
def mi(s t:S):cF s t=cF t s:=by
 have h1:=o9 s t;have h2:=o9 t s;have hmem:∀p,p∈[s.a,s.b,t.a,t.b] ↔p∈[t.a,t.b,s.a,s.b] :=by intro p;simp only[bI,cq,or_false];grind
 have hob:∀p,cE s t p↔cE t s p:=λp=>And.comm;cases hv:(bD s&&bD t)with
 |false=>rw[h1.none hv,h2.none (by grind)]
 |true=>
  have hv':(bD t&&bD s)=true:=by rw[Bool.and_comm];exact hv
  by_cases hx:∃p,p∈[s.a,s.b,t.a,t.b]/\cE s t p
  .by_cases hu:∀p q,p∈[s.a,s.b,t.a,t.b]->q∈[s.a,s.b,t.a,t.b]->cE s t p->cE s t q->p=q
   .rw[h1.touch hv hu hx,h2.touch hv' (by grind)];grind
   .have:∃p q,p∈[s.a,s.b,t.a,t.b]/\q∈[s.a,s.b,t.a,t.b]/\p≠q/\cE s t p/\cE s t q:=by apply dQ;intro hno;apply hu;intro p q hp hq a b;apply dQ;intro hne;grind
    obtain⟨p,q,hp,hq,hne,a,b⟩:=this;rw[h1.over p q hp hq hne a b,h2.over p q ((hmem p).1 hp) ((hmem q).1 hq) hne ((hob p).1 a) ((hob q).1 b)]
  .have hno:∀p,p∈[s.a,s.b,t.a,t.b]->¬cE s t p:=by grind
   have hno':∀p,p∈[t.a,t.b,s.a,s.b]->¬cE t s p:=by grind
   by_cases hc:turn s.a s.b t.a*turn s.a s.b t.b<0/\turn t.a t.b s.a*turn t.a t.b s.b<0
   .rw[h1.cross hv hno hc,h2.cross hv' hno' ⟨hc.2,hc.1⟩]
   .rw[h1.else_ hv hno hc,h2.else_ hv' hno' (by grind)]
def ko{v:V}{m n:Int}(h:aX v m=true)(hmn:m<=n):aX v n=true:=by unfold aX at*;simp only[bj,decide_eq_true_eq]at*;omega
def vL{r:aD}(h:near r=true)(i:Nat)(hi:i<r.length):aX (nth r i) 2000=true:=by unfold near at h;unfold nth;grind
def jw{r:aD}(h:near r=true)(i:Nat)(hi:i<r.length):bD (bO r i)=true:=by unfold bD bO nxt;have h2:(i+1) % r.length<r.length:=bz _ (by omega);simp only[bj];exact⟨ko (vL h i hi) (by omega),ko (vL h _ h2) (by omega)⟩
def jh{i n:Nat}(h:i<n):i % n=i:=dh h
def qI{i n:Nat}(h1:n<=i)(h2:i<2*n):i % n=i-n:=by rw[Nat.mod_eq_sub_mod h1,dh (by omega)]
def Eg(r:aD)(hn:3<=r.length):
  ((bM r.length).all λi=>turn (prv r i) (nth r i) (nxt r i) !=0)=((bM r.length).all λi=>turn (nth r i) (nth r ((i+1) % r.length)) (nth r ((i+2) % r.length)) !=0):=by
 rw[fL,bh,bh];constructor
 .intro h i hi;have hi:=cD.1 hi;have:=h ((i+1) % r.length) (cD.2 (bz _ (by omega)));unfold prv nxt at this;by_cases h1:i+1<r.length
  .rw[jh h1]at this|-;have e1:(i+1+r.length-1) % r.length=i:=by rw[show i+1+r.length-1=i+r.length from by omega,qI (by omega) (by omega)];omega
   grind
  .have e0:i+1=r.length:=by omega
   rw[e0,kj]at this|-;have e1:(0+r.length-1) % r.length=i:=by rw[jh (by omega)];omega
   have e2:(i+2) % r.length=(0+1) % r.length:=by rw[qI (by omega) (by omega),jh (by omega)];omega
   grind
 .intro h i hi;have hi:=cD.1 hi;have:=h ((i+r.length-1) % r.length) (cD.2 (bz _ (by omega)));unfold prv nxt;by_cases h1:i=0
  .subst h1;have e1:(0+r.length-1) % r.length=r.length-1:=by rw[jh (by omega)];omega
   have e2:(r.length-1+1) % r.length=0:=by rw[show r.length-1+1=r.length from by omega,kj]
   have e3:(r.length-1+2) % r.length=(0+1) % r.length:=by rw[qI (by omega) (by omega),jh (by omega)];omega
   grind
  .have e1:(i+r.length-1) % r.length=i-1:=by rw[qI (by omega) (by omega)];omega
   have e2:(i-1+1) % r.length=i:=by rw[show i-1+1=i from by omega];exact jh hi
   have e3:i-1+2=i+1:=by omega
   grind
def tW(r:aD):cY r=dj r:=by
 unfold cY dj;by_cases h3:3<=r.length
 case neg=>simp[h3]
 by_cases hn:near r=true
 case neg=>simp[hn]
 rw[Eg r h3];cases ht:((bM r.length).all λi=>turn (nth r i) (nth r ((i+1) % r.length)) (nth r ((i+2) % r.length)) !=0)with
 |false=>simp
 |true=>
  have hpairs:((bM r.length).all λi=>(bM r.length).all λk=>decide (k<=i)||k==i+1||(i==0&&k==r.length-1)||cF (bO r i) (bO r k)==0)=
    ((bM r.length).all λi=>(bM r.length).all λk=>decide (k<=i)||
      (if k=i+1\/(i=0/\k=r.length-1)then bi (bO r i) (bO r k)==1 else bi (bO r i) (bO r k)==0)):=by
   have hturn:∀i,i<r.length->turn (nth r i) (nth r ((i+1) % r.length)) (nth r ((i+2) % r.length))≠0:=by intro i hi;rw[bh]at ht;have:=ht i (cD.2 hi);simpa using this
   have hpt:∀i k,i<r.length->k<r.length->(decide (k<=i)||k==i+1||(i==0&&k==r.length-1)||cF (bO r i) (bO r k)==0)=(decide (k<=i)||
     (if k=i+1\/(i=0/\k=r.length-1)then bi (bO r i) (bO r k)==1 else bi (bO r i) (bO r k)==0)):=by
    intro i k hi hk;rw[<-pB];by_cases hki:k<=i
    .simp[hki]
    .by_cases h1:k=i+1
     .subst h1;have:=M6 (bO r i) (bO r (i+1)) (jw hn i hi) (jw hn _ hk) (by unfold bO nxt;simp[jh hk]) (by have:=hturn i hi;exact this)
      simp[this]
     .by_cases h2:i=0/\k=r.length-1
      .obtain⟨rfl,rfl⟩:=h2;have e1:(r.length-1+1) % r.length=0:=by rw[show r.length-1+1=r.length from by omega,kj]
       have:=M6 (bO r (r.length-1)) (bO r 0) (jw hn _ hk) (jw hn _ hi) (by unfold bO nxt;grind) (by
        have:=hturn (r.length-1) hk;have e3:(r.length-1+2) % r.length=(0+1) % r.length:=by rw[qI (by omega) (by omega),jh (by omega)];omega
        unfold bO nxt;grind)
       rw[mi]at this;simp[this]
      .have h3:(i==0&&k==r.length-1)=false:=by rw[<-Bool.not_eq_true,bj,beq_iff_eq,beq_iff_eq];exact h2
       have h4:(k==i+1)=false:=by rw[beq_eq_false_iff_ne];exact h1
       rw[if_neg (by omega),h3,h4];simp
   rw[fL];simp only[bh,cD];constructor
   .grind
   .grind
  grind
structure Pt where
 x:Int
 y:Int
 den:Int
deriving DecidableEq,Inhabited
def toV(p:Pt)(v:V):V:=⟨p.x-v.x*p.den,p.y-v.y*p.den⟩
def fP(s:S)(p:Pt):Int:=cross (sub s.b s.a) (toV p s.a)
def onP(s:S)(p:Pt):Bool:=
 fP s p==0&&(decide (min (toV p s.a).x (toV p s.b).x<=0)&&decide (0<=max (toV p s.a).x (toV p s.b).x))&&(decide (min (toV p s.a).y (toV p s.b).y<=0)&&decide (0<=max (toV p s.a).y (toV p s.b).y))
def dg(s:S)(p:Pt):Bool:=
 (decide (0<=(toV p s.a).y) !=decide (0<=(toV p s.b).y))&&(decide (0<=(toV p s.a).y)==decide (0<fP s p))
def onR(s:S)(p:Pt):Bool:=
 (decide (min s.a.x s.b.x*p.den<=p.x)&&decide (p.x<=max s.a.x s.b.x*p.den)&&decide (min s.a.y s.b.y*p.den<=p.y)&&decide (p.y<=max s.a.y s.b.y*p.den))&&sgn (fP s p)==0
def kG(s:S)(p:Pt):Bool:=
 ((decide (s.a.y*p.den<=p.y)&&decide (p.y<s.b.y*p.den))&&decide (0<sgn (fP s p)))||((decide (s.b.y*p.den<=p.y)&&decide (p.y<s.a.y*p.den))&&decide (sgn (fP s p)<0))
def Ol(a b d:Int)(h:0<=d):min a b*d=min (a*d) (b*d):=by
 rcases wn a b with h1|h1
 .rw[Int.min_eq_left h1,Int.min_eq_left (ls h1 h)]
 .rw[Int.min_eq_right h1,Int.min_eq_right (ls h1 h)]
def Oq(a b d:Int)(h:0<=d):max a b*d=max (a*d) (b*d):=by
 rcases wn a b with h1|h1
 .rw[Int.max_eq_right h1,Int.max_eq_right (ls h1 h)]
 .rw[Int.max_eq_left h1,Int.max_eq_left (ls h1 h)]
def QX(s:S)(p:Pt)(h:0<p.den):onP s p=onR s p:=by unfold onP onR toV;rw[Ol _ _ _ (by omega),Oq _ _ _ (by omega),Ol _ _ _ (by omega),Oq _ _ _ (by omega),fL];simp only[bj,decide_eq_true_eq,beq_iff_eq,o4];omega
def Vb(s:S)(p:Pt)(h0:fP s p=0)(ha:(toV p s.a).y<0)(hb:0<=(toV p s.b).y)(_hd:0<p.den):onP s p=true:=by
 have e:fP s p*p.den=(toV p s.a).x*(toV p s.b).y-(toV p s.a).y*(toV p s.b).x:=by unfold fP toV cross sub;grind
 rw[h0,zK]at e;unfold onP;rw[h0];generalize (toV p s.a).x=ax at*;generalize (toV p s.b).x=bx at*;simp only[BEq.rfl,jM,bj,decide_eq_true_eq];have hx:(min ax bx<=0/\0<=max ax bx):=by
  rcases cC 0 ax with h1|h1
  .have h2:bx<=0:=by
    rcases cC 0 bx with h2|h2
    .have p1:=nK ha h2;have p2:=cJ (show 0<=ax by omega) hb;omega
    .exact h2
   omega
  .rcases cC ax 0 with h1|h1
   .have h2:0<=bx:=by
     rcases cC bx 0 with h2|h2
     .have p1:=wh ha h2;have p2:=cJ (show 0<= -ax by omega) hb;grind
     .exact h2
    omega
   .omega
 omega
def aBM(s:S)(p:Pt)(h:0<p.den)(ho:onP s p=false):dg s p=kG s p:=by
 have key:(toV p s.a).y<0->0<=(toV p s.b).y->fP s p≠0:=by intro h1 h2 h3;rw[Vb s p h3 h1 h2 h]at ho;cases ho
 unfold dg kG;rw[fL];simp only[bj,jQ,decide_eq_true_eq,bne_iff_ne,ne_eq,beq_iff_eq,qM,Z0,decide_eq_decide];have ey1:(toV p s.a).y=p.y-s.a.y*p.den:=rfl;have ey2:(toV p s.b).y=p.y-s.b.y*p.den:=rfl;omega
def ii(p:Pt)(m:Int):Bool:=decide (1<=p.den)&&decide (p.den<=134217728)&&aX ⟨p.x,p.y⟩ (m*p.den)
def cn(p:Pt):Bool:=ii p 4000&&(bB (bB p.x.natAbs p.y.natAbs) p.den.natAbs==1)
def eE(p:Pt):List S->Bool->Int
 |[],ins=>if ins then 2 else 0
 |s::l,ins=>if onP s p then 1 else eE p l (ins !=dg s p)
def m5(p:Pt):List S->Bool->Int
 |[],ins=>if ins then 2 else 0
 |s::l,ins=>if onR s p then 1 else m5 p l (ins !=kG s p)
def Z1(p:Pt)(h:0<p.den)(l:List S)(ins:Bool):eE p l ins=m5 p l ins:=by
 induction l generalizing ins with
 |nil=>rfl
 |cons s l ih=>
  unfold eE m5;rw[<-QX s p h];cases ho:onP s p with
  |true=>rfl
  |false=>rw[ih,aBM s p h ho]
def bg(r:aD)(p:Pt):Int:=if !(cY r)|| !(cn p)then 0 else eE p (aJ r) false
def dc(r:aD)(p:Pt):Int:=if !(dj r)|| !(cn p)then 0 else m5 p (aJ r) false
def FO(r:aD)(p:Pt):bg r p=dc r p:=by
 unfold bg dc;rw[tW];cases hp:cn p with
 |false=>simp
 |true=>
  have:0<p.den:=by unfold cn ii at hp;simp only[bj,decide_eq_true_eq]at hp;omega
  rw[Z1 p this]
def dq(v:V):Pt:=⟨v.x,v.y,1⟩
def cT(r:aD)(v:V):Int:=if !(aX v 4000)then 0 else bg r (dq v)
def jl(r:aD)(v:V):Int:=if !(aX v 8000)then 0 else dc r (dq v)
def z7(v:V):cn (dq v)=aX v 4000:=by unfold cn ii dq aX;simp
def u4(r:aD)(v:V):cT r v=jl r v:=by
 unfold cT jl;rw[FO];cases h:aX v 4000 with
 |true=>rw[ko h (by omega)]
 |false=>
  unfold dc;rw[z7,h];simp
end Geo
namespace Geo
structure Shape where
 outer:aD
 holes:List aD
deriving DecidableEq,Inhabited
def aE(s:Shape):List aD:=s.outer::s.holes
def aC(l:List aD)(i:Nat):aD:=l.getD i []
def fH(a b:aD):Bool:=(aJ a).all λx=>(aJ b).all λy=>cF x y==0
def bT(r q:aD)(place:Int):Bool:=r.all λv=>cT q v==place
def jA(s:Shape):Nat:=((aE s).map List.length).sum
def bP(s:Shape):Bool:=
 decide (s.holes.length<=6)&&(aE s).all cY&&decide (jA s<=80)&&
 ((bM s.holes.length).all λi=>bT (aC s.holes i) s.outer 2&&fH (aC s.holes i) s.outer&&
   ((bM i).all λk=>fH (aC s.holes i) (aC s.holes k)&&bT (aC s.holes i) (aC s.holes k) 0&&bT (aC s.holes k) (aC s.holes i) 0))
def ip(a b:aD):Bool:=(aJ a).any λx=>(aJ b).any λy=>bi x y !=0
def qD(a b:aD):Bool:=a.all λv=>jl b v==2
def l7(a b:aD):Bool:=a.any λv=>jl b v==2
def ai(s:Shape):Bool:=
 decide (s.holes.length<=6)&&dj s.outer&&
 ((bM s.holes.length).all λi=>dj (aC s.holes i)&& !ip (aC s.holes i) s.outer&&qD (aC s.holes i) s.outer&&
   ((bM i).all λk=> !ip (aC s.holes i) (aC s.holes k)&& !l7 (aC s.holes i) (aC s.holes k)&& !l7 (aC s.holes k) (aC s.holes i)))&&
 decide (jA s<=80)
def U9(a b:aD):fH a b= !ip a b:=by
 unfold fH ip;rw[Sy]
 congr 1;funext x
 rw[Sy]
 congr 1;funext y
 rw[pB];grind
def AC{s t:S}{p:V}(hp:p∈[s.a,s.b,t.a,t.b])(ho:cE s t p):cF s t≠0:=by
 have h:=o9 s t;have hv:(bD s&&bD t)=true:=by obtain⟨h1,h2⟩:=ho;unfold onS at h1 h2;simp only[bj]at h1 h2|-;grind
 by_cases hu:∀p q,p∈[s.a,s.b,t.a,t.b]->q∈[s.a,s.b,t.a,t.b]->cE s t p->cE s t q->p=q
 .rw[h.touch hv hu ⟨p,hp,ho⟩];decide
 .have:∃p q,p∈[s.a,s.b,t.a,t.b]/\q∈[s.a,s.b,t.a,t.b]/\p≠q/\cE s t p/\cE s t q:=by apply dQ;intro hno;apply hu;intro p q hp hq a b;apply dQ;intro hne;grind
  obtain⟨p,q,hp,hq,hne,a,b⟩:=this;rw[h.over p q hp hq hne a b];decide
def i7{r:aD}{s:S}:s∈aJ r↔2<=r.length/\∃i,i<r.length/\s=bO r i:=by unfold aJ;grind
def eL{r:aD}{v:V}:v∈r↔∃i,i<r.length/\v=nth r i:=by
 unfold nth;constructor
 .intro h;obtain⟨i,hi,e⟩:=jS h;exact⟨i,hi,by grind⟩
 grind
structure VR(r:aD):Prop where
 three:3<=r.length
 most:r.length<=40
 near:near r=true
 area:0<area r
 turn:∀i,i<r.length->turn (prv r i) (nth r i) (nxt r i)≠0
 turn':∀i,i<r.length->Geo.turn (nth r i) (nth r ((i+1) % r.length)) (nth r ((i+2) % r.length))≠0
 apart:∀i k,i<k->k<r.length->k≠i+1->¬(i=0/\k=r.length-1)->cF (bO r i) (bO r k)=0
def iF(r:aD):cY r=true↔VR r:=by
 constructor
 .intro h;unfold cY at h;simp only[bj,decide_eq_true_eq,bh,cD]at h;obtain⟨⟨⟨⟨⟨h1,h2⟩,h3⟩,h4⟩,h5⟩,h6⟩:=h;refine⟨h1,h2,h3,h4,by grind,λi hi=> ?_,λi k hik hk h7 h8=> ?_⟩
  .have:=Eg r h1;grind
  grind
 .rintro⟨h1,h2,h3,h4,h5,_,h6⟩;unfold cY;simp only[bj,decide_eq_true_eq,bh,cD];grind
def YX{p:Pt}{l:List S}{ins:Bool}(h:eE p l ins=1):∃s∈l,onP s p=true:=by
 induction l generalizing ins with
 |nil=>unfold eE at h;omega
 |cons s l ih=>
  unfold eE at h;grind
def KJ(p:Pt)(l:List S)(ins:Bool):eE p l ins=0\/eE p l ins=1\/eE p l ins=2:=by
 induction l generalizing ins with
 |nil=>unfold eE;omega
 |cons s l ih=>unfold eE;grind
def JR(r:aD)(v:V):cT r v=0\/cT r v=1\/cT r v=2:=by
 unfold cT bg;split
 .simp
 .split
  .simp
  .exact KJ _ _ _
def Fj(s:S)(v:V):onP s (dq v)=true↔(fW s v=true/\cross (sub s.b s.a) (sub v s.a)=0):=by unfold onP fP toV dq fW;simp only[zL,bj,beq_iff_eq,decide_eq_true_eq];rw[show(⟨v.x-s.a.x,v.y-s.a.y⟩:V)=sub v s.a from rfl];omega
def Ji{r:aD}{v:V}(h:cT r v=1):∃s∈aJ r,onS s v=true:=by
 unfold cT bg at h;split at h
 .omega
 .split at h
  .omega
  .rename_i h2;obtain⟨s,hs,ho⟩:=YX h;refine⟨s,hs,?_⟩;have hv:VR r:=by rw[<-iF];simp at h2;exact h2.1
   obtain⟨_,i,hi,rfl⟩:=i7.1 hs;rw[gi (jw hv.near i hi)];exact(Fj _ _).1 ho
def xO{a b:aD}(ha:VR a)(h:fH a b=true){v:V}(hv:v∈a){s:S}(hs:s∈aJ b)(ho:onS s v=true):False:=by obtain⟨i,hi,rfl⟩:=eL.1 hv;have hm:bO a i∈aJ a:=i7.2 ⟨by have:=ha.three;omega,i,hi,rfl⟩;unfold fH at h;rw[bh]at h;have h1:=h _ hm;rw[bh]at h1;refine AC (s:=bO a i) (t:=s) (p:=nth a i) (by simp[bO]) ⟨?_,ho⟩ (by grind);exact fQ (s:=bO a i) (jw ha.near i hi)
def uo(a b:aD):fH a b=fH b a:=by
 unfold fH;rw[fL];simp only[bh,beq_iff_eq];constructor
 .intro h y hy x hx;rw[mi];grind
 .intro h x hx y hy;rw[mi];grind
def nt{a b:aD}(ha:VR a)(h:fH a b=true):bT a b 0= !l7 a b:=by
 unfold bT l7;rw[Sy,fL];simp only[bh];constructor
 .intro h1 v hv;rw[<-u4];grind
 .intro h1 v hv;have:=h1 v hv;rw[<-u4]at this;rcases JR b v with e|e|e
  .rw[e];rfl
  .exfalso;obtain⟨s,hs,ho⟩:=Ji e;exact xO ha h hv hs ho
  grind
def gH{l:List aD}{i:Nat}(h:i<l.length):aC l i∈l:=by unfold aC;grind
def rN{l:List aD}{r:aD}(h:r∈l):∃i,i<l.length/\r=aC l i:=by obtain⟨i,hi,e⟩:=jS h;exact⟨i,hi,by unfold aC;grind⟩
structure VS(s:Shape):Prop where
 few:s.holes.length<=6
 outer:VR s.outer
 hole:∀i,i<s.holes.length->VR (aC s.holes i)
 corners:jA s<=80
 ins:∀i,i<s.holes.length->bT (aC s.holes i) s.outer 2=true
 apo:∀i,i<s.holes.length->fH (aC s.holes i) s.outer=true
 aph:∀i k,k<i->i<s.holes.length->fH (aC s.holes i) (aC s.holes k)=true
 out1:∀i k,k<i->i<s.holes.length->bT (aC s.holes i) (aC s.holes k) 0=true
 out2:∀i k,k<i->i<s.holes.length->bT (aC s.holes k) (aC s.holes i) 0=true
def qC(s:Shape):bP s=true↔VS s:=by
 unfold bP;simp only[bj,decide_eq_true_eq,bh,cD];constructor
 .rintro⟨⟨⟨h1,h2⟩,h3⟩,h4⟩;exact⟨h1,(iF _).1 (h2 _ (by simp[aE])),λi hi=>(iF _).1 (h2 _ (by simp[aE];exact .inr (gH hi))),h3,by grind,by grind,by grind,by grind,by grind⟩
 .rintro⟨h1,h2,h3,h4,h5,h6,h7,h8,h9⟩;refine⟨⟨⟨h1,?_⟩,h4⟩,by grind⟩;intro r hr;rcases bI.1 hr with rfl|hr
  .exact(iF _).2 h2
  .obtain⟨i,hi,rfl⟩:=rN hr;exact(iF _).2 (h3 i hi)
def ku(s:Shape):bP s=ai s:=by
 rw[fL,qC];unfold ai;simp only[bj,decide_eq_true_eq,bh,cD,<-U9];constructor
 .rintro⟨h1,h2,h3,h4,h5,h6,h7,h8,h9⟩;refine⟨⟨⟨h1,by rw[<-tW];exact(iF _).2 h2⟩,λi hi=>⟨⟨⟨by rw[<-tW];exact(iF _).2 (h3 i hi),h6 i hi⟩,?_⟩,λk hk=>⟨⟨h7 i k hk hi,?_⟩,?_⟩⟩⟩,h4⟩
  .have:=h5 i hi;unfold bT at this;unfold qD;rw[bh]at this|-;intro v hv;rw[<-u4];grind
  .rw[<-nt (h3 i hi) (h7 i k hk hi)];grind
  .rw[<-nt (h3 k (by omega)) (by rw[uo];grind)];grind
 .rintro⟨⟨⟨h1,h2⟩,h3⟩,h4⟩;have hr:∀i,i<s.holes.length->VR (aC s.holes i):=λi hi=>by have:=(h3 i hi).1.1.1;rw[<-tW]at this;exact(iF _).1 this
  refine⟨h1,by rw[<-tW]at h2;exact(iF _).1 h2,hr,h4,λi hi=> ?_,by grind,by grind,λi k hk hi=> ?_,λi k hk hi=> ?_⟩
  .have:=(h3 i hi).1.2;unfold qD at this;unfold bT;rw[bh]at this|-;intro v hv;rw[u4];grind
  .rw[nt (hr i hi) (by grind)];grind
  .rw[nt (hr k (by omega)) (by rw[uo];grind)];grind
end Geo
namespace Geo
def dH(r:aD):Nat->Nat
 |0=>0
 |n+1=>if bf (nth r n) (nth r (dH r n))then n else dH r n
def dP(r:aD):Nat:=dH r r.length
def bw(r:aD):aD:=r.drop (dP r)++r.take (dP r)
def ES(r:aD)(n:Nat)(h:0<n):dH r n<n:=by
 induction n with
 |zero=>omega
 |succ n ih=>
  unfold dH;split
  .omega
  .rcases Nat.eq_zero_or_pos n with rfl|h0
   .simp[dH]
   omega
def tF(r:aD)(n i:Nat)(hi:i<n):leV (nth r (dH r n)) (nth r i):=by
 induction n with
 |zero=>omega
 |succ n ih=>
  unfold dH;split
  .rename_i h;have h:=(mj _ _).1 h;have h':leV (nth r n) (nth r (dH r n)):=(xt _ _).elim id (by grind);by_cases e:i=n
   .subst e;exact tZ _
   .exact rL h' (ih (by omega))
  .rename_i h;have h:=(rG _ _).1 (by simpa using h);grind
def Dr(r:aD)(n i:Nat)(hi:i<dH r n):bf (nth r (dH r n)) (nth r i)=true:=by
 induction n with
 |zero=>simp[dH]at hi
 |succ n ih=>
  unfold dH at hi|-;split
  .rename_i h;rw[if_pos h]at hi;rw[mj];have h1:=(mj _ _).1 h;intro h2;exact h1 (rL (tF r n i hi) h2)
  grind
def nV{r:aD}(h:0<r.length):dP r<r.length:=ES r _ h
def Tm{r:aD}{k:Nat}(hk:k<r.length)(h1:∀i,i<r.length->leV (nth r k) (nth r i))(h2:∀i,i<k->nth r i≠nth r k):k=dP r:=by
 have a:=nV (r:=r) (by omega);have b:=tF r r.length k hk;have e:nth r k=nth r (dP r):=xz (h1 _ a) b;rcases zM k (dP r)with h|h|h
 .have:=Dr r r.length k h;rw[show dH r r.length=dP r from rfl,<-e,xP]at this;cases this
 .exact h
 grind
def tH(r:aD):(bw r).Perm r:=by refine wo.trans ?_;simp_all
def jg(r:aD):(bw r).length=r.length:=(tH r).length_eq
def Ay{r:aD}{i:Nat}(hi:i<r.length):nth (bw r) i=nth r ((i+dP r) % r.length):=by
 have hk:=nV (r:=r) (by omega);unfold bw nth;rw[eI,eI];by_cases h:i<r.length-dP r
 .rw[oU (by simp;omega),wq,jh (by omega)];grind
 .rw[lO (by simp;omega),List.getElem?_take_of_lt (by simp;omega),qI (by omega) (by omega)];grind
def sr(r:aD)(s:S):s∈aJ (bw r)↔s∈aJ r:=by
 rw[i7,i7,jg];constructor
 .rintro⟨h2,i,hi,rfl⟩;refine⟨h2,(i+dP r) % r.length,bz _ (by omega),?_⟩;unfold bO nxt;rw[jg,Ay hi,Ay (bz _ (by omega)),lP,lP];grind
 .rintro⟨h2,i,hi,rfl⟩;have hk:=nV (r:=r) (by omega);refine⟨h2,(i+(r.length-dP r)) % r.length,bz _ (by omega),?_⟩;unfold bO nxt;rw[jg,Ay (bz _ (by omega)),Ay (bz _ (by omega)),lP,lP];have e1:(i+(r.length-dP r)+dP r) % r.length=i:=by rw[show i+(r.length-dP r)+dP r=i+r.length from by omega,pk,jh hi]
  have e2:(i+(r.length-dP r)+1+dP r) % r.length=(i+1) % r.length:=by rw[show i+(r.length-dP r)+1+dP r=i+1+r.length from by omega,pk]
  rw[e1,sV _ 1 (dP r),lP,<-sV _ 1 (dP r),e2]
def VR.touch{r:aD}(h:VR r){i k:Nat}(hi:i<r.length)(hk:k<r.length)(ho:onS (bO r k) (nth r i)=true):i=k\/i=(k+1) % r.length:=by
 have h3:=h.three;have hb:onS (bO r i) (nth r i)=true:=fQ (s:=bO r i) (jw h.near i hi);have hj:(i+r.length-1) % r.length<r.length:=bz _ (by omega);have hje:((i+r.length-1) % r.length+1) % r.length=i:=by rw[lP,show i+r.length-1+1=i+r.length from by omega,pk,jh hi]
 have hb2:onS (bO r ((i+r.length-1) % r.length)) (nth r i)=true:=by have:=jp (s:=bO r ((i+r.length-1) % r.length)) (jw h.near _ hj);unfold bO nxt at this;simp only[hje]at this;unfold bO nxt;rw[hje];exact this
 have meetsE:∀j,j<r.length->onS (bO r j) (nth r i)=true->(nth r i=nth r j\/nth r i=nxt r j)->j=k\/(j+1) % r.length=k\/(k+1) % r.length=j:=by
  intro j hj hoj hend;rcases zM j k with hlt|he|hgt
  .by_cases h1:k=j+1
   .right;left;rw[jh (by omega)];exact h1.symm
   .by_cases h2:j=0/\k=r.length-1
    .right;right;rw[h2.2,h2.1,show r.length-1+1=r.length from by omega,kj]
    .exfalso;have:=h.apart j k hlt hk h1 h2;exact AC (s:=bO r j) (t:=bO r k) (p:=nth r i) (by rcases hend with e|e<;>simp[bO,e]) ⟨hoj,ho⟩ this
  .exact .inl he
  .by_cases h1:j=k+1
   .right;right;rw[jh (by omega)];exact h1.symm
   .by_cases h2:k=0/\j=r.length-1
    .right;left;rw[h2.2,h2.1,show r.length-1+1=r.length from by omega,kj]
    .exfalso;have:=h.apart k j hgt hj h1 h2;exact AC (s:=bO r k) (t:=bO r j) (p:=nth r i) (by rcases hend with e|e<;>simp[bO,e]) ⟨ho,hoj⟩ this
 have c1:=meetsE i hi hb (.inl rfl);rcases c1 with e|e|e
 .exact .inl e
 ·
  have c2:=meetsE _ hj hb2 (.inr (by unfold nxt;rw[hje]));rcases c2 with e2|e2|e2
  .grind
  .omega
  ·
   exfalso;have hk1:(k+1) % r.length=(i+2) % r.length:=by rw[<-e,lP]
   apply h.turn' i hi;have:=((gi (jw h.near k hk)).1 ho).2;rw[vB];unfold Geo.turn;rw[o4];unfold bO nxt at this;grind
 omega
def VR.inj{r:aD}(h:VR r){i k:Nat}(hi:i<r.length)(hk:k<r.length)(he:nth r i=nth r k):i=k:=by
 have ho:onS (bO r k) (nth r i)=true:=by rw[he];exact fQ (s:=bO r k) (jw h.near k hk)
 rcases h.touch hi hk ho with e|e
 .exact e
 ·
  exfalso;have ht:=h.turn' k hk;apply ht;rw[<-e,he];unfold Geo.turn;rw[o4];simp[cross,sub]
def VR.nodup{r:aD}(h:VR r):r.Nodup:=by rw[oV,sW];intro i j hi hj hij e;have:=h.inj hi hj (by unfold nth;grind);omega
def VR.K6{r:aD}(h:VR r){v:V}(hv:v∈r){s:S}(hs:s∈aJ r)(ho:onS s v=true):v=s.a\/v=s.b:=by
 obtain⟨i,hi,rfl⟩:=eL.1 hv;obtain⟨_,k,hk,rfl⟩:=i7.1 hs;rcases h.touch hi hk ho with e|e
 .left;rw[e];rfl
 .right;rw[e];rfl
def bk(s:Shape):List V:=(aE s).flatten
def ao(s:Shape):List S:=(aE s).flatMap aJ
def VS.ring{s:Shape}(h:VS s){r:aD}(hr:r∈aE s):VR r:=by
 rcases bI.1 hr with rfl|hr
 .exact h.outer
 .obtain⟨i,hi,rfl⟩:=rN hr;exact h.hole i hi
def VS.pair{s:Shape}(h:VS s):(aE s).Pairwise (λa b=>fH a b=true):=by
 unfold aE;rw[iS];refine⟨λr hr=> ?_,?_⟩
 .obtain⟨i,hi,rfl⟩:=rN hr;rw[uo];exact h.apo i hi
 .rw[sW];intro i k hi hk hik;have:=h.aph k i hik hk;unfold aC at this;rw[eI,eI,dw hi,dw hk]at this;rw[uo];exact this
def KS:∀(l:List aD),(∀r∈l,VR r)->l.Pairwise (λa b=>fH a b=true)->∀v∈l.flatten,∀e∈l.flatMap aJ,onS e v=true->v=e.a\/v=e.b
 |[],_,_,v,hv,_,_,_=>by simp at hv
 |r::l,hr,hp,v,hv,e,he,ho=>by
  rw[iS]at hp;rw[mT,bl]at hv;rw[ff,bl]at he;rcases hv with hv|hv<;>rcases he with he|he
  .exact(hr r (by simp)).K6 hv he ho
  .rw[dG]at he;obtain⟨q,hq,he⟩:=he;exact(xO (hr r (by simp)) (hp.1 q hq) hv he ho).elim
  .rw[lu]at hv;obtain⟨q,hq,hv⟩:=hv;exact(xO (by grind) (by rw[uo];grind) hv he ho).elim
  .exact KS l (by grind) hp.2 v hv e he ho
def KT:∀(l:List aD),(∀r∈l,VR r)->l.Pairwise (λa b=>fH a b=true)->l.flatten.Nodup
 |[],_,_=>by simp
 |r::l,hr,hp=>by
  rw[iS]at hp;rw[mT,lv];refine⟨(hr r (by simp)).nodup,KT l (by grind) hp.2,?_⟩;rintro a ha b hb rfl;rw[lu]at hb;obtain⟨q,hq,hb⟩:=hb;have hvq:=hr q (by simp[hq]);obtain⟨i,hi,rfl⟩:=eL.1 hb;exact xO (hr r (by simp)) (hp.1 q hq) ha (i7.2 ⟨by have:=hvq.three;omega,i,hi,rfl⟩) (fQ (s:=bO q i) (jw hvq.near i hi))
def VS.touch{s:Shape}(h:VS s){v:V}(hv:v∈bk s){e:S}(he:e∈ao s)(ho:onS e v=true):v=e.a\/v=e.b:=
 KS _ (λ_ hr=>h.ring hr) h.pair v hv e he ho
def VS.nodup{s:Shape}(h:VS s):(bk s).Nodup:=KT _ (λ_ hr=>h.ring hr) h.pair
end Geo
namespace Geo
def lm:List aD->aD->List aD
 |[],h=>[h]
 |q::l,h=>if bf (nth q 0) (nth h 0)then q::lm l h else h::q::l
def qg(l:List aD):List aD:=l.foldl lm []
def cO(s:Shape):Shape:=⟨bw s.outer,qg (s.holes.map bw)⟩
def Lo(l:List aD)(h:aD):(lm l h).Perm (h::l):=by
 induction l with
 |nil=>exact DF _
 |cons q l ih=>
  unfold lm;grind
def Ta(l acc:List aD):(l.foldl lm acc).Perm (acc++l):=by
 induction l generalizing acc with
 |nil=>simp
 |cons q l ih=>
  refine(ih _).trans ?_;refine((Lo acc q).append_right l).trans ?_;grind
def l6(l:List aD):(qg l).Perm l:=by unfold qg;have:=Ta l [];grind
def leH(a b:aD):Prop:=leV (nth a 0) (nth b 0)
def Uo(l:List aD)(h:aD)(hl:l.Pairwise leH):(lm l h).Pairwise leH:=by
 induction l with
 |nil=>simp[lm]
 |cons q l ih=>
  rw[iS]at hl;unfold lm;split
  .rename_i hq;rw[iS];refine⟨λx hx=> ?_,ih hl.2⟩;have hx:=(Lo l h).subset hx;rcases bI.1 hx with rfl|hx
   .exact(xt _ _).elim id (λe=>absurd e ((mj _ _).1 hq))
   grind
  .rename_i hq;have hq:=(rG _ _).1 (by simpa using hq);rw[iS,iS];refine⟨λx hx=> ?_,hl⟩;rcases bI.1 hx with rfl|hx
   .exact hq
   .exact rL hq (hl.1 x hx)
def TT(l acc:List aD)(h:acc.Pairwise leH):(l.foldl lm acc).Pairwise leH:=by
 induction l generalizing acc with
 |nil=>exact h
 |cons q l ih=>exact ih _ (Uo acc q h)
def UC(l:List aD):(qg l).Pairwise leH:=TT l [] wi
def zy:∀(l:List aD),l.flatten.Nodup->∀a∈l,∀b∈l,∀x,x∈a->x∈b->a=b
 |[],_,a,ha,_,_,_,_,_=>by cases ha
 |r::l,h,a,ha,b,hb,x,hxa,hxb=>by
  rw[mT,lv]at h;obtain⟨h1,h2,h3⟩:=h;rcases bI.1 ha with ea|ha'<;>rcases bI.1 hb with eb|hb'
  .rw[ea,eb]
  .rw[ea]at hxa;exact(h3 x hxa x (lu.2 ⟨_,hb',hxb⟩) rfl).elim
  .rw[eb]at hxb;exact(h3 x hxb x (lu.2 ⟨_,ha',hxa⟩) rfl).elim
  .exact zy l h2 a ha' b hb' x hxa hxb
def JI(l:List aD):((l.map bw).flatten).Perm l.flatten:=by
 induction l with
 |nil=>grind
 |cons r l ih=>
  exact(tH r).append ih
def oi(s:Shape):(bk (cO s)).Perm (bk s):=by unfold bk aE cO;refine(tH _).append ?_;exact((l6 _).flatten).trans (JI _)
def xN(s:Shape)(e:S):e∈ao (cO s)↔e∈ao s:=by
 unfold ao aE cO;simp only[ff,bl,dG,sr];constructor
 .rintro(h|⟨r,hr,he⟩)
  .exact .inl h
  .have hr:=(l6 _).subset hr;obtain⟨q,hq,rfl⟩:=bR.1 hr;exact .inr ⟨q,hq,(sr q e).1 he⟩
 .rintro(h|⟨r,hr,he⟩)
  .exact .inl h
  .refine .inr ⟨bw r,(l6 _).symm.subset (by grind),(sr r e).2 he⟩
def j8(p:Pt):List aD->Int->Int
 |[],w=>w
 |h::l,w=>if bg h p=2 then 0 else if bg h p=1 then 1 else j8 p l w
def eR(s:Shape)(p:Pt):Int:=
 if !(bP s)then 0 else if bg s.outer p≠2 then bg s.outer p else j8 p s.holes 2
def mG(p:Pt):List aD->Int->Int
 |[],w=>w
 |h::l,w=>if dc h p=2 then 0 else if dc h p=1 then 1 else mG p l w
def ik(s:Shape)(p:Pt):Int:=if !(ai s)then 0 else mG p s.holes (dc s.outer p)
def Y8(p:Pt)(l:List aD)(w:Int):j8 p l w=mG p l w:=by
 induction l with
 |nil=>rfl
 |cons h l ih=>unfold j8 mG;rw[FO,ih]
def Vo(p:Pt)(l:List aD)(w:Int):mG p l w=2->w=2:=by
 induction l with
 |nil=>exact id
 |cons h l ih=>unfold mG;omega
def J8(s:Shape)(p:Pt):(eR s p==2)=(ik s p==2):=by
 unfold eR ik;rw[ku,FO];cases ai s with
 |false=>rfl
 |true=>
  simp only[mS,lN,if_false];by_cases h:dc s.outer p=2
  .rw[if_neg (by omega),h,Y8]
  .rw[if_pos h,fL,beq_iff_eq,beq_iff_eq];exact⟨by grind,λe=>absurd (Vo _ _ _ e) h⟩
def gP(c:S):Pt:=
 if(c.a.x+c.b.x).tmod 2=0/\(c.a.y+c.b.y).tmod 2=0 then⟨(c.a.x+c.b.x).tdiv 2,(c.a.y+c.b.y).tdiv 2,1⟩else⟨c.a.x+c.b.x,c.a.y+c.b.y,2⟩
def gU(l:List V):Int:=(l.map V.x).sum
def gR(l:List V):Int:=(l.map V.y).sum
def kS(l:List V):Pt:=
 let g:Int:=bB (bB (gU l).natAbs (gR l).natAbs) l.length
 ⟨(gU l).tdiv g,(gR l).tdiv g,(l.length:Int).tdiv g⟩
def vC(x:Int)(k:Nat):x.tmod k=0↔k∣x.natAbs:=by rw[<-Sz,Int.ofNat_dvd_left]
def Vd(a b:V):kS [a,b] =gP ⟨a,b⟩:=by
 unfold kS gP gU gR;simp only[dX,po,DG,List.sum_nil,oW,iE,lr];generalize a.x+b.x=x;generalize a.y+b.y=y;have hd:bB (bB x.natAbs y.natAbs) 2∣2:=uQ _ _;have hle:=Ik (by omega) hd;have hpos:0<bB (bB x.natAbs y.natAbs) 2:=by grind
 by_cases h:x.tmod 2=0/\y.tmod 2=0
 .have e:bB (bB x.natAbs y.natAbs) 2=2:=Nat.gcd_eq_right (Nat.dvd_gcd (by grind) (by grind));grind
 .have e:bB (bB x.natAbs y.natAbs) 2=1:=by
   rcases oZ (bB (bB x.natAbs y.natAbs) 2) 2 with h1|h1
   .omega
   .exfalso;have e2:bB (bB x.natAbs y.natAbs) 2=2:=by omega
    have d1:2∣bB x.natAbs y.natAbs:=by have:=sX (bB x.natAbs y.natAbs) 2;rwa[e2]at this
    exact h ⟨(vC x 2).2 (uR d1 (sX _ _)),(vC y 2).2 (uR d1 (uQ _ _))⟩
  simp_all
def fT(a b c:V):Pt:=
 if(a.x+b.x+c.x).tmod 3=0/\(a.y+b.y+c.y).tmod 3=0 then⟨(a.x+b.x+c.x).tdiv 3,(a.y+b.y+c.y).tdiv 3,1⟩else⟨a.x+b.x+c.x,a.y+b.y+c.y,3⟩
def EP(a b c:V):kS [a,b,c] =fT a b c:=by
 unfold kS fT gU gR;simp only[dX,po,DG,List.sum_nil,oW,iE,lr];rw[<-Int.add_assoc,<-Int.add_assoc];generalize a.x+b.x+c.x=x;generalize a.y+b.y+c.y=y;have hd:bB (bB x.natAbs y.natAbs) 3∣3:=uQ _ _;have hle:=Ik (by omega) hd;have hpos:0<bB (bB x.natAbs y.natAbs) 3:=by grind
 have h13:bB (bB x.natAbs y.natAbs) 3=1\/bB (bB x.natAbs y.natAbs) 3=3:=by
  generalize bB (bB x.natAbs y.natAbs) 3=g at*;obtain⟨q,hq⟩:=hd;match g,hle,hpos with
  |1,_,_=>omega
  |2,_,_=>omega
  |3,_,_=>omega
 by_cases h:x.tmod 3=0/\y.tmod 3=0
 .have e:bB (bB x.natAbs y.natAbs) 3=3:=Nat.gcd_eq_right (Nat.dvd_gcd (by grind) (by grind));grind
 .have e:bB (bB x.natAbs y.natAbs) 3=1:=by
   rcases h13 with h1|e2
   .exact h1
   .exfalso;have d1:3∣bB x.natAbs y.natAbs:=by have:=sX (bB x.natAbs y.natAbs) 3;rwa[e2]at this
    exact h ⟨(vC x 3).2 (uR d1 (sX _ _)),(vC y 3).2 (uR d1 (uQ _ _))⟩
  simp_all
end Geo
namespace Geo
def vh(s t:S):Bool:=s.a==t.a||s.a==t.b||s.b==t.a||s.b==t.b
def cU(s t:S):Bool:=cF s t==0||(cF s t==1&&vh s t)
def ia(s:Shape)(c:S):Bool:=(ao s).all (λe=>cU e c)&&eR s (gP c)==2
def fU(d e:S):Bool:=
 if bi d e=2\/bi d e=3 then false
 else if bi d e=1 then(nth (dx d e) 0==d.a||nth (dx d e) 0==d.b)else true
def iK(s:Shape)(c:S):Bool:=(ao s).all (λe=>fU c e)&&(c.a !=c.b&&ik s (kS [c.a,c.b])==2)
def Ju(s t:S):cF s t=0\/cF s t=1\/cF s t=2\/cF s t=3:=by unfold cF pI;grind
def Ak{s t:S}(h:cF s t=1):(bD s=true/\bD t=true)/\∃z,z∈ends s t/\cE s t z/\(∀p,p∈ends s t->cE s t p->p=z)/\dx s t=[z] :=by
 rw[pB]at h;have hm:=EA s t;unfold bi at h;split at h
 .omega
 .split at h
  .omega
  .split at h
   .rename_i h1;match hc:dx s t,h1 with
    |[z],_=>
     grind
   omega
def Yl{s t:S}(h:cF s t=3):∃p q,p≠q/\p∈ends s t/\q∈ends s t/\cE s t p/\cE s t q:=by
 rw[pB]at h;have hm:=EA s t;have hs:=JL ((ends s t).filter (λp=>onS s p&&onS t p));rw[show mC ((ends s t).filter (λp=>onS s p&&onS t p))=dx s t from rfl]at hs;unfold bi at h;split at h
 .omega
 .split at h
  .rename_i h1;match hc:dx s t,h1 with
   |z::y::r,_=>
    rw[hc]at hm hs;have hz:=(hm z).1 (by simp);have hy:=(hm y).1 (by simp);refine⟨z,y,?_,hz.1,hy.1,hz.2,hy.2⟩;rintro rfl;rw[iS]at hs;have:=hs.1 z (by simp);rw[xP]at this;cases this
  omega
def kR(s t:S)(p:V):p∈ends s t↔p=s.a\/p=s.b\/p=t.a\/p=t.b:=by unfold ends;simp
def AU(s t:S):vh s t=true↔(s.a=t.a\/s.a=t.b\/s.b=t.a\/s.b=t.b):=by unfold vh;grind
def L6{s:Shape}(h:VS s){c e:S}(ha:c.a∈bk s)(hb:c.b∈bk s)(he:e∈ao s):cU e c=fU c e:=by
 unfold cU fU;rw[mi e c,<-pB];rcases Ju c e with hk|hk|hk|hk
 .rw[hk];simp
 .rw[if_neg (by omega),if_pos hk,hk];obtain⟨⟨vc,ve⟩,z,hz,ho,hu,hcom⟩:=Ak hk;rw[hcom];rw[fL];simp only[jQ,beq_iff_eq,bj,AU];constructor
  .rintro(h1|⟨_,h1⟩)
   .omega
   .rcases h1 with h1|h1|h1|h1
    .left;exact(hu c.a (by rw[kR];simp) ⟨fQ vc,by rw[<-h1];exact fQ ve⟩).symm
    .right;exact(hu c.b (by rw[kR];simp) ⟨jp vc,by rw[<-h1];exact fQ ve⟩).symm
    .left;exact(hu c.a (by rw[kR];simp) ⟨fQ vc,by rw[<-h1];exact jp ve⟩).symm
    .right;exact(hu c.b (by rw[kR];simp) ⟨jp vc,by rw[<-h1];exact jp ve⟩).symm
  .rintro(h1|h1)
   .right;have:=h.touch ha he (by rw[<-h1];exact ho.2);grind
   .right;have:=h.touch hb he (by rw[<-h1];exact ho.2);grind
 .rw[hk];simp
 grind
def F7{s:Shape}(h:VS s){c:S}(ha:c.a∈bk s)(hb:c.b∈bk s)(hne:c.a≠c.b):ia s c=iK s c:=by
 unfold ia iK;rw[Vd,J8];have e1:((ao s).all λe=>cU e c)=((ao s).all λe=>fU c e):=by
  rw[fL,bh,bh];constructor
  .intro h1 e he;rw[<-L6 h ha hb he];exact h1 e he
  .intro h1 e he;rw[L6 h ha hb he];exact h1 e he
 rw[e1];have e2:(c.a !=c.b)=true:=by simpa using hne
 rw[e2,jM]
def EJ{s:Shape}(h:VS s){c:S}(hc:ia s c=true){p:V}(hp:p∈bk s)(ho:onS c p=true):p=c.a\/p=c.b:=by
 unfold bk at hp;rw[lu]at hp;obtain⟨r,hr,hpr⟩:=hp;have hvr:=h.ring hr;obtain⟨i,hi,rfl⟩:=eL.1 hpr;have he:bO r i∈ao s:=dG.2 ⟨r,hr,i7.2 ⟨by have:=hvr.three;omega,i,hi,rfl⟩⟩;have ve:=jw hvr.near i hi;unfold ia at hc;rw[bj,bh]at hc;have ht:=hc.1 _ he;have hob:cE (bO r i) c (nth r i):=⟨fQ (s:=bO r i) ve,ho⟩;have hnz:=AC (s:=bO r i) (t:=c) (p:=nth r i) (by simp[bO]) hob;unfold cU at ht;simp only[jQ,beq_iff_eq,bj,AU]at ht;rcases ht with ht|⟨ht,hsh⟩
 .omega
 .obtain⟨⟨_,vc⟩,z,_,_,hu,_⟩:=Ak ht;have e1:=hu (nth r i) (by rw[kR];simp[bO]) hob;rw[e1];rcases hsh with h1|h1|h1|h1
  .left;exact(hu c.a (by rw[kR];simp) ⟨by rw[<-h1];exact fQ ve,fQ vc⟩).symm
  .right;exact(hu c.b (by rw[kR];simp) ⟨by rw[<-h1];exact fQ ve,jp vc⟩).symm
  .left;exact(hu c.a (by rw[kR];simp) ⟨by rw[<-h1];exact jp ve,fQ vc⟩).symm
  .right;exact(hu c.b (by rw[kR];simp) ⟨by rw[<-h1];exact jp ve,jp vc⟩).symm
def U4{s:Shape}(h:VS s){c d:S}(hc:ia s c=true)(hd:ia s d=true)(c1:c.a∈bk s)(c2:c.b∈bk s)(d1:d.a∈bk s)(d2:d.b∈bk s)
  (hne:¬((c.a=d.a/\c.b=d.b)\/(c.a=d.b/\c.b=d.a))):cU c d=(bi d c !=2):=by
 rw[<-pB,mi d c];unfold cU;have hends:∀p,p∈ends c d->cE c d p->(p=c.a\/p=c.b)/\(p=d.a\/p=d.b):=by
  intro p hp ho;have hpv:p∈bk s:=by rcases(kR _ _ _).1 hp with rfl|rfl|rfl|rfl<;>assumption
  exact⟨EJ h hc hpv ho.1,EJ h hd hpv ho.2⟩
 rcases Ju c d with hk|hk|hk|hk
 .rw[hk];rfl
 .have:vh c d=true:=by obtain⟨_,z,hz,ho,_,_⟩:=Ak hk;obtain⟨h1,h2⟩:=hends z hz ho;rw[AU];grind
  grind
 .rw[hk];rfl
 .obtain⟨p,q,hpq,hp,hq,op,oq⟩:=Yl hk;grind
end Geo
namespace Geo
def c7(v:List V)(p:Nat×Nat):S:=⟨nth v p.1,nth v p.2⟩
def qe(s:Shape)(v:List V)(acc:List (Nat×Nat))(i k:Nat):List (Nat×Nat):=
 if !(acc.any λd=> !(cU ⟨nth v i,nth v k⟩ (c7 v d)))&&ia s ⟨nth v i,nth v k⟩then acc++[(i,k)]else acc
def rowP(s:Shape)(v:List V)(acc:List (Nat×Nat))(i:Nat):Nat->List (Nat×Nat)
 |0=>acc
 |m+1=>qe s v (rowP s v acc i m) i (i+1+m)
def eW(s:Shape)(v:List V):Nat->List (Nat×Nat)
 |0=>[]
 |i+1=>rowP s v (eW s v i) i (v.length-(i+1))
def dK(s:Shape)(v:List V):List (Nat×Nat):=eW s v v.length
def pP(s:Shape)(v:List V)(acc:List S)(i k:Nat):List S:=
 if iK s ⟨nth v i,nth v k⟩&&(acc.all λd=>bi d ⟨nth v i,nth v k⟩ !=2)then acc++[⟨nth v i,nth v k⟩]else acc
def qv(s:Shape)(v:List V)(acc:List S)(i:Nat):Nat->List S
 |0=>acc
 |m+1=>pP s v (qv s v acc i m) i (i+1+m)
def iJ(s:Shape)(v:List V):Nat->List S
 |0=>[]
 |i+1=>qv s v (iJ s v i) i (v.length-(i+1))
def nA(s:Shape)(v:List V):List S:=iJ s v v.length
def dO{v:List V}{i:Nat}(h:i<v.length):nth v i∈v:=eL.2 ⟨i,h,rfl⟩
def fS{v:List V}(hn:v.Nodup){i k:Nat}(hi:i<v.length)(hk:k<v.length)(e:nth v i=nth v k):i=k:=by unfold nth at e;rw[eI,eI,dw hi,dw hk]at e;rw[oV,sW]at hn;grind
structure Found(s:Shape)(v:List V)(acc:List (Nat×Nat))(i k:Nat):Prop where
 lt:∀p∈acc,p.1<p.2/\p.2<v.length
 ahead:∀p∈acc,p.1<i\/(p.1=i/\p.2<k)
 chord:∀p∈acc,ia s (c7 v p)=true
 apart:acc.Pairwise λp q=>bi (c7 v p) (c7 v q)≠2
def V9{s:Shape}(h:VS s){v:List V}(hv:∀x∈v,x∈bk s)(hn:v.Nodup){acc:List (Nat×Nat)}{i k:Nat}(hF:Found s v acc i k)(hik:i<k)(hk:k<v.length)(hc:ia s ⟨nth v i,nth v k⟩=true):
  (!(acc.any λd=> !(cU ⟨nth v i,nth v k⟩ (c7 v d))))=((acc.map (c7 v)).all λd=>bi d ⟨nth v i,nth v k⟩ !=2):=by
 have key:∀d∈acc,cU ⟨nth v i,nth v k⟩ (c7 v d)=(bi (c7 v d) ⟨nth v i,nth v k⟩ !=2):=by
  intro d hd;obtain⟨h1,h2⟩:=hF.lt d hd;refine U4 h hc (hF.chord d hd) (hv _ (dO (by omega))) (hv _ (dO hk)) (hv _ (dO (by omega))) (hv _ (dO (by omega))) ?_;rintro(⟨e1,e2⟩|⟨e1,e2⟩)
  .have a1:=fS hn (by omega) (by omega) e1;have a2:=fS hn (by omega) (by omega) e2;rcases hF.ahead d hd with h3|h3<;>omega
  .have a1:=fS hn (by omega) (by omega) e1;have a2:=fS hn (by omega) (by omega) e2;omega
 grind
def Zt{s:Shape}(h:VS s){v:List V}(hv:∀x∈v,x∈bk s)(hn:v.Nodup){acc:List (Nat×Nat)}{i k:Nat}(hF:Found s v acc i k)(hik:i<k)(hk:k<v.length):
  (qe s v acc i k).map (c7 v)=pP s v (acc.map (c7 v)) i k/\Found s v (qe s v acc i k) i (k+1):=by
 have hne:nth v i≠nth v k:=λe=>by have:=fS hn (by omega) hk e;omega
 have hce:=F7 h (c:=⟨nth v i,nth v k⟩) (hv _ (dO (by omega))) (hv _ (dO hk)) hne;unfold qe pP;cases hc:ia s ⟨nth v i,nth v k⟩with
 |false=>
  rw[hc]at hce;rw[<-hce];simp only[Bool.and_false,oc,lN,if_false];exact⟨by trivial,hF.lt,λp hp=>by have:=hF.ahead p hp;omega,hF.chord,hF.apart⟩
 |true=>
  rw[hc]at hce;rw[<-hce,V9 h hv hn hF hik hk hc,Il,jM];by_cases hx:((acc.map (c7 v)).all λd=>bi d ⟨nth v i,nth v k⟩ !=2)=true
  .rw[if_pos hx,if_pos hx];refine⟨by rw[dM];rfl,?_,?_,?_,?_⟩
   .intro p hp;rcases bl.1 hp with hp|hp
    .exact hF.lt p hp
    grind
   .intro p hp;rcases bl.1 hp with hp|hp
    .have:=hF.ahead p hp;omega
    grind
   .intro p hp;rcases bl.1 hp with hp|hp
    .exact hF.chord p hp
    .obtain rfl:=bn.1 hp;exact hc
   .rw[S3];refine⟨hF.apart,by grind,?_⟩;intro p hp q hq;obtain rfl:=bn.1 hq;rw[List.all_map,bh]at hx;have:=hx p hp;simp only[DH,bne_iff_ne]at this;exact this
  .rw[if_neg hx,if_neg hx];exact⟨rfl,hF.lt,λp hp=>by have:=hF.ahead p hp;omega,hF.chord,hF.apart⟩
def aBs{s:Shape}(h:VS s){v:List V}(hv:∀x∈v,x∈bk s)(hn:v.Nodup){acc:List (Nat×Nat)}{i:Nat}(hF:Found s v acc i (i+1))(m:Nat)(hm:i+1+m<=v.length):
  (rowP s v acc i m).map (c7 v)=qv s v (acc.map (c7 v)) i m/\Found s v (rowP s v acc i m) i (i+1+m):=by
 induction m with
 |zero=>exact⟨rfl,hF⟩
 |succ m ih=>
  obtain⟨h1,h2⟩:=ih (by omega);unfold rowP qv;rw[<-h1];exact Zt h hv hn h2 (by omega) (by omega)
def aB5{s:Shape}(h:VS s){v:List V}(hv:∀x∈v,x∈bk s)(hn:v.Nodup)(i:Nat)(hi:i<=v.length):
  (eW s v i).map (c7 v)=iJ s v i/\Found s v (eW s v i) i (i+1):=by
 induction i with
 |zero=>exact⟨rfl,⟨by simp[eW],by simp[eW],by simp[eW],by simp[eW]⟩⟩
 |succ i ih=>
  obtain⟨h1,h2⟩:=ih (by omega);unfold eW iJ;rw[<-h1];obtain⟨h3,h4⟩:=aBs h hv hn h2 (v.length-(i+1)) (by omega);exact⟨h3,h4.lt,λp hp=>by have:=h4.ahead p hp;omega,h4.chord,h4.apart⟩
def Bo{s:Shape}(h:VS s){v:List V}(hv:∀x∈v,x∈bk s)(hn:v.Nodup):(dK s v).map (c7 v)=nA s v/\Found s v (dK s v) v.length (v.length+1):=
 aB5 h hv hn _ (Nat.le_refl _)
end Geo
namespace Geo
abbrev Tab:=Nat->Nat->Bool
def yy(t:Tab)(i k:Nat):Tab:=λa b=>if(a=i/\b=k)\/(a=k/\b=i)then true else t a b
def v7(t:Tab)(n at_:Nat):Nat->Tab
 |0=>t
 |m+1=>yy (v7 t n at_ m) (at_+m) (at_+(m+1) % n)
def yV(t:Tab)(at_:Nat):List aD->Tab
 |[] =>t
 |r::l=>yV (v7 t r.length at_ r.length) (at_+r.length) l
def HF(l:List (Nat×Nat)):Tab:=l.foldl (λt p=>yy t p.1 p.2) (λ_ _=>false)
def Gf(s:Shape)(v:List V):Tab:=yV (HF (dK s v)) 0 (aE (cO s))
def VZ(l:List (Nat×Nat))(t:Tab)(a b:Nat):l.foldl (λt p=>yy t p.1 p.2) t a b=true↔(t a b=true\/(a,b)∈l\/(b,a)∈l):=by
 induction l generalizing t with
 |nil=>simp
 |cons p l ih=>
  rw[zJ,ih];unfold yy;grind
def Wr(t:Tab)(n at_ m a b:Nat):v7 t n at_ m a b=true↔(t a b=true\/∃q,q<m/\((a=at_+q/\b=at_+(q+1) % n)\/(b=at_+q/\a=at_+(q+1) % n))):=by
 induction m with
 |zero=>simp[v7]
 |succ m ih=>
  unfold v7 yy;by_cases h:(a=at_+m/\b=at_+(m+1) % n)\/(a=at_+(m+1) % n/\b=at_+m)
  .rw[if_pos h];refine⟨λ_=> .inr ⟨m,by omega,?_⟩,λ_=>rfl⟩;omega
  .rw[if_neg h,ih];constructor
   .rintro(h1|⟨q,hq,h1⟩)
    .exact .inl h1
    .exact .inr ⟨q,by omega,h1⟩
   .rintro(h1|⟨q,hq,h1⟩)
    .exact .inl h1
    .by_cases e:q=m
     .grind
     .exact .inr ⟨q,by omega,h1⟩
def TY{l m:List V}{i:Nat}(h:i<l.length):nth (l++m) i=nth l i:=by unfold nth;grind
def TU{l m:List V}{i:Nat}:nth (l++m) (l.length+i)=nth m i:=by unfold nth;grind
def KK:∀(L:List aD) (pre:List V) (t:Tab),(pre++L.flatten).Nodup->(∀r∈L,2<=r.length)->∀a b,a<(pre++L.flatten).length->b<(pre++L.flatten).length->
  (yV t pre.length L a b=true↔(t a b=true\/∃e∈L.flatMap aJ,(e.a=nth (pre++L.flatten) a/\e.b=nth (pre++L.flatten) b)\/(e.a=nth (pre++L.flatten) b/\e.b=nth (pre++L.flatten) a)))
 |[],pre,t,_,_,a,b,_,_=>by simp[yV]
 |r::L,pre,t,hn,h2,a,b,ha,hb=>by
  have hr2:=h2 r (by simp);have e0:pre++(r::L).flatten=(pre++r)++L.flatten:=by rw[mT,List.append_assoc]
  rw[e0]at hn ha hb|-;unfold yV;have ih:=KK L (pre++r) (v7 t r.length pre.length r.length) hn (by grind) a b ha hb;rw[List.length_append]at ih;rw[ih,Wr,ff];have hin:∀q,q<r.length->nth ((pre++r)++L.flatten) (pre.length+q)=nth r q:=by intro q hq;rw[TY (by simp;omega),TU]
  have hlt:∀q,q<r.length->pre.length+q<((pre++r)++L.flatten).length:=by intro q hq;simp;omega
  have hmod:∀q,(q+1) % r.length<r.length:=λq=>bz _ (by omega);constructor
  .rintro((h|⟨q,hq,h⟩)|⟨e,he,h⟩)
   .exact .inl h
   .refine .inr ⟨bO r q,ig _ (i7.2 (by grind)),?_⟩;rcases h with⟨rfl,rfl⟩|⟨rfl,rfl⟩
    .left;rw[hin q hq,hin _ (hmod q)];exact⟨rfl,rfl⟩
    .right;rw[hin q hq,hin _ (hmod q)];exact⟨rfl,rfl⟩
   grind
  .rintro(h|⟨e,he,h⟩)
   .grind
   .rcases bl.1 he with he|he
    .obtain⟨_,q,hq,rfl⟩:=i7.1 he;left;right;refine⟨q,hq,?_⟩;have e1:(bO r q).a=nth ((pre++r)++L.flatten) (pre.length+q):=(hin q hq).symm;have e2:(bO r q).b=nth ((pre++r)++L.flatten) (pre.length+(q+1) % r.length):=(hin _ (hmod q)).symm;rw[e1,e2]at h;rcases h with⟨h1,h2⟩|⟨h1,h2⟩
     .left;exact⟨(fS hn (hlt q hq) ha h1).symm,(fS hn (hlt _ (hmod q)) hb h2).symm⟩
     .right;exact⟨(fS hn (hlt q hq) hb h1).symm,(fS hn (hlt _ (hmod q)) ha h2).symm⟩
    grind
def il(l:List S)(a b:V):Bool:=l.any λe=>(e.a==a&&e.b==b)||(e.a==b&&e.b==a)
def XF{s:Shape}(h:VS s){i k:Nat}(hi:i<(bk (cO s)).length)(hk:k<(bk (cO s)).length):
  Gf s (bk (cO s)) i k=il (nA s (bk (cO s))++ao s) (nth (bk (cO s)) i) (nth (bk (cO s)) k):=by
 have hn:(bk (cO s)).Nodup:=(oi s).nodup_iff.2 h.nodup;have hv:∀x∈bk (cO s),x∈bk s:=λx hx=>(oi s).subset hx;obtain⟨hd,hF⟩:=Bo h hv hn;have h2:∀r∈aE (cO s),2<=r.length:=by
  intro r hr;unfold aE cO at hr;rcases bI.1 hr with rfl|hr
  .rw[jg];have:=h.outer.three;omega
  .obtain⟨q,hq,rfl⟩:=bR.1 ((l6 _).subset hr);rw[jg];have:=(h.ring (show q∈aE s by simp[aE,hq])).three;omega
 have hr:=KK (aE (cO s)) [] (HF (dK s (bk (cO s)))) (by exact hn) h2 i k (by exact hi) (by exact hk);rw[List.nil_append,lr]at hr;rw[fL];unfold Gf;rw[hr];unfold il;rw[jd,<-hd];unfold HF;rw[VZ];simp only[lN,false_or,bl,jQ,bj,beq_iff_eq];have hm:∀e,e∈(aE (cO s)).flatMap aJ↔e∈ao s:=λe=>xN s e;constructor
 .rintro((hp|hp)|⟨e,he,hx⟩)
  .exact⟨c7 _ (i,k),by grind,.inl ⟨rfl,rfl⟩⟩
  .exact⟨c7 _ (k,i),by grind,.inr ⟨rfl,rfl⟩⟩
  .exact⟨e,by grind,hx⟩
 .rintro⟨e,he|he,hx⟩
  .obtain⟨p,hp,rfl⟩:=bR.1 he;obtain⟨l1,l2⟩:=hF.lt p hp;left;rcases hx with⟨x1,x2⟩|⟨x1,x2⟩
   .have a1:=fS hn (by omega) hi x1;have a2:=fS hn (by omega) hk x2;grind
   .have a1:=fS hn (by omega) hk x1;have a2:=fS hn (by omega) hi x2;grind
  .exact .inr ⟨e,(hm e).2 he,hx⟩
end Geo
namespace Geo
def cN:aD->aD->Int
 |[],[] =>0
 |[],_::_=> -1
 |_::_,[] =>1
 |a::l,b::m=>if bq a b≠0 then bq a b else cN l m
def L8(x y:Int):fE x y= -fE y x:=by unfold fE;grind
def Xj(p q:V):bq p q= -bq q p:=by unfold bq;rw[L8 p.y,L8 p.x];grind
def rF:∀(l m:aD),cN l m= -cN m l
 |[],[] =>rfl
 |[],_::_=>rfl
 |_::_,[] =>rfl
 |a::l,b::m=>by
  unfold cN;have:=Xj a b;by_cases h:bq a b=0
  .rw[if_neg (by omega),if_neg (by omega)];exact rF l m
  omega
def AF:∀(l m:aD),cN l m=0->l=m
 |[],[],_=>rfl
 |[],_::_,h=>by unfold cN at h;omega
 |_::_,[],h=>by unfold cN at h;omega
 |a::l,b::m,h=>by
  unfold cN at h;by_cases h0:bq a b=0
  .rw[if_neg (by omega)]at h;rw[(xu a b).1 h0,AF l m h]
  omega
def UM(l:aD):cN l l=0:=by have:=rF l l;omega
def WA{p q r:V}(h1:bq p q<0)(h2:bq q r<0):bq p r<0:=by rw[yO]at*;exact ul h1 h2
def Du:∀(l m n:aD),cN l m<0->cN m n<0->cN l n<0
 |[],[],_,h,_=>by omega
 |[],_::_,[],_,h=>by unfold cN at h;omega
 |[],_::_,_::_,_,_=>by unfold cN;omega
 |_::_,[],_,h,_=>by unfold cN at h;omega
 |_::_,_::_,[],_,h=>by unfold cN at h;omega
 |a::l,b::m,c::n,h1,h2=>by
  unfold cN at*;by_cases e1:bq a b=0
  .rw[if_neg (by omega)]at h1;have:=(xu a b).1 e1;subst this;by_cases e2:bq a c=0
   .rw[if_neg (by omega)]at h2|-;exact Du l m n h1 h2
   omega
  .rw[if_pos e1]at h1;by_cases e2:bq b c=0
   .have:=(xu b c).1 e2;grind
   .rw[if_pos e2]at h2;have:=WA h1 h2;omega
def jm(a b:aD):Prop:=cN a b<=0
def Ui{a b:aD}(h1:jm a b)(h2:jm b a):a=b:=by unfold jm at*;apply AF;have:=rF a b;omega
def Jb{a b c:aD}(h1:jm a b)(h2:jm b c):jm a c:=by
 unfold jm at*;by_cases e1:cN a b=0
 .rw[AF _ _ e1];exact h2
 .by_cases e2:cN b c=0
  .rw[<-AF _ _ e2];exact h1
  .have:=Du a b c (by omega) (by omega);omega
def gn:List aD->aD->List aD
 |[],r=>[r]
 |q::l,r=>if cN q r<0 then q::gn l r else r::q::l
def Ln(l:List aD)(r:aD):(gn l r).Perm (r::l):=by
 induction l with
 |nil=>exact DF _
 |cons q l ih=>
  unfold gn;grind
def Un(l:List aD)(r:aD)(hl:l.Pairwise jm):(gn l r).Pairwise jm:=by
 induction l with
 |nil=>simp[gn]
 |cons q l ih=>
  rw[iS]at hl;unfold gn;split
  .rw[iS];refine⟨λx hx=> ?_,ih hl.2⟩;have hx:=(Ln l r).subset hx;rcases bI.1 hx with rfl|hx
   .unfold jm;omega
   grind
  .have hq':jm r q:=by unfold jm;have:=rF r q;omega
   rw[iS,iS];refine⟨λx hx=> ?_,hl⟩;rcases bI.1 hx with rfl|hx
   .exact hq'
   .exact Jb hq' (hl.1 x hx)
def TZ(l acc:List aD):(l.foldl gn acc).Perm (acc++l):=by
 induction l generalizing acc with
 |nil=>simp
 |cons q l ih=>
  refine(ih _).trans ?_;refine((Ln acc q).append_right l).trans ?_;grind
def TS(l acc:List aD)(h:acc.Pairwise jm):(l.foldl gn acc).Pairwise jm:=by
 induction l generalizing acc with
 |nil=>exact h
 |cons q l ih=>exact ih _ (Un acc q h)
def cV(l:List aD):List aD:=l.foldl gn []
def rH(l:List aD):(cV l).Perm l:=by unfold cV;have:=TZ l [];grind
def UA{l m:List aD}(hp:m.Perm l)(hs:m.Pairwise jm):m=cV l:=
 List.Perm.eq_of_pairwise (λ_ _ _ _ h1 h2=>Ui h1 h2) hs (TS l [] wi) (hp.trans (rH l).symm)
def dD(r:aD):aD:=if cY r then bw r else []
def c5(a b c:V):aD:=if turn a b c<0 then dD [a,c,b]else dD [a,b,c]
def lW(s:Shape)(v:List V)(i j k:Nat):Bool:=
 turn (nth v i) (nth v j) (nth v k) !=0&&
 ((bM v.length).all λn=> !(n !=i&&n !=j&&n !=k&&cT (c5 (nth v i) (nth v j) (nth v k)) (nth v n) !=0))&&
 eR s (fT (nth v i) (nth v j) (nth v k))==2
def mI(r:aD)(v:List V):Bool:=v.all λp=> !(p !=nth r 0&&p !=nth r 1&&p !=nth r 2&&jl r p !=0)
def kB(s:Shape)(v:List V)(r:aD):Bool:=r.length==3&&mI r v&&ik s (kS r)==2
def rr{a b c:V}(ha:aX a 2000=true)(hb:aX b 2000=true)(hc:aX c 2000=true):near [a,b,c] =true:=by unfold near;grind
def Qn(a b c:V):area [a,b,c] =cross (sub b a) (sub c a):=by
 have e:area [a,b,c] =cross a b+(cross b c+(cross c a+0)):=by unfold area;simp[q8,nth,nxt]
 rw[e];simp only[cross,sub];grind
def rh{a b c:V}(hn:near [a,b,c] =true):cY [a,b,c] =true↔0<turn a b c:=by
 rw[iF];constructor
 .intro h;have:=h.area;rw[Qn]at this;unfold turn;rw[qM];exact this
 .intro h;have hp:0<cross (sub b a) (sub c a):=by unfold turn at h;rwa[qM]at h
  have t1:turn b c a≠0:=by rw[<-vB];omega
  have t2:turn c a b≠0:=by rw[vB];omega
  refine⟨by simp,by simp,hn,by rw[Qn];exact hp,?_,?_,?_⟩
  .intro i hi;match i,hi with
   |0,_=>simpa[prv,nth,nxt]using t2
   |1,_=>
    have:turn a b c≠0:=by omega
    simpa[prv,nth,nxt]using this
   |2,_=>simpa[prv,nth,nxt]using t1
  .intro i hi;match i,hi with
   |0,_=>
    have:turn a b c≠0:=by omega
    simpa[prv,nth,nxt]using this
   |1,_=>simpa[prv,nth,nxt]using t1
   |2,_=>simpa[prv,nth,nxt]using t2
  grind
def Wz{l m:List V}(h:l.Perm m):gU l=gU m:=by
 unfold gU;induction h with
 |nil=>rfl
 |cons x _ ih=>simp[ih]
 |swap x y l=>grind
 |trans _ _ h1 h2=>omega
def Wy{l m:List V}(h:l.Perm m):gR l=gR m:=by
 unfold gR;induction h with
 |nil=>rfl
 |cons x _ ih=>simp[ih]
 |swap x y l=>grind
 |trans _ _ h1 h2=>omega
def Ja{l m:List V}(h:l.Perm m):kS l=kS m:=by unfold kS;rw[Wz h,Wy h,h.length_eq]
def tL(a b c:V):turn a c b= -turn a b c:=by
 unfold turn;have:cross (sub c a) (sub b a)= -cross (sub b a) (sub c a):=by simp only[cross,sub];grind
 unfold sgn;grind
def VI{a b c:V}(ha:aX a 2000=true)(hb:aX b 2000=true)(hc:aX c 2000=true):
  (turn a b c=0/\c5 a b c=[])\/(turn a b c≠0/\(c5 a b c).Perm [a,b,c]):=by
 unfold c5 dD;by_cases h:turn a b c<0
 .right;refine⟨by omega,?_⟩;have:cY [a,c,b] =true:=(rh (rr ha hc hb)).2 (by rw[tL];omega);rw[if_pos h,if_pos this];exact(tH _).trans (by grind)
 .rw[if_neg h];by_cases h0:turn a b c=0
  .left;have:¬cY [a,b,c] =true:=λe=>by have:=(rh (rr ha hb hc)).1 e;omega
   grind
  .right;refine⟨h0,?_⟩;have:cY [a,b,c] =true:=(rh (rr ha hb hc)).2 (by omega);rw[if_pos this];exact tH _
def ZQ{s:Shape}{v:List V}(hw:∀x∈v,aX x 2000=true)(hn:v.Nodup){i j k:Nat}(hi:i<v.length)(hj:j<v.length)(hk:k<v.length):
  lW s v i j k=kB s v (c5 (nth v i) (nth v j) (nth v k)):=by
 unfold lW kB;rcases VI (hw _ (dO hi)) (hw _ (dO hj)) (hw _ (dO hk))with⟨h0,h1⟩|⟨h0,h1⟩
 .grind
 .have hl:(c5 (nth v i) (nth v j) (nth v k)).length=3:=by rw[h1.length_eq];rfl
  have e1:(turn (nth v i) (nth v j) (nth v k) !=0)=true:=by simpa using h0
  have e2:((c5 (nth v i) (nth v j) (nth v k)).length==3)=true:=by rw[hl];rfl
  rw[e1,e2,jM,jM,J8,Ja h1,EP];have hme:∀x,(x=nth (c5 (nth v i) (nth v j) (nth v k)) 0\/x=nth (c5 (nth v i) (nth v j) (nth v k)) 1\/x=nth (c5 (nth v i) (nth v j) (nth v k)) 2)↔(x=nth v i\/x=nth v j\/x=nth v k):=by
   intro x;have a1:x∈c5 (nth v i) (nth v j) (nth v k)↔x∈[nth v i,nth v j,nth v k] :=h1.mem_iff;generalize c5 (nth v i) (nth v j) (nth v k)=r at*;match r,hl with
   |[x0,x1,x2],_=>simpa[nth]using a1
  have hall:((bM v.length).all λn=> !(n !=i&&n !=j&&n !=k&&cT (c5 (nth v i) (nth v j) (nth v k)) (nth v n) !=0))=mI (c5 (nth v i) (nth v j) (nth v k)) v:=by
   unfold mI;have key:∀n,n<v.length->((n !=i&&n !=j&&n !=k)=(nth v n !=nth (c5 (nth v i) (nth v j) (nth v k)) 0&&nth v n !=nth (c5 (nth v i) (nth v j) (nth v k)) 1&&nth v n !=nth (c5 (nth v i) (nth v j) (nth v k)) 2)):=by
    intro n hn';have a2:=hme (nth v n);have b1:nth v n=nth v i↔n=i:=⟨λe=>fS hn hn' hi e,by grind⟩;have b2:nth v n=nth v j↔n=j:=⟨λe=>fS hn hn' hj e,by grind⟩;have b3:nth v n=nth v k↔n=k:=⟨λe=>fS hn hn' hk e,by grind⟩;rw[b1,b2,b3]at a2;rw[fL];simp only[bj,bne_iff_ne,ne_eq];constructor
    .grind
    .grind
   rw[fL,bh,bh];constructor
   .intro h x hx;obtain⟨n,hn',rfl⟩:=eL.1 hx;have:=h n (cD.2 hn');rw[<-key n hn',<-u4];exact this
   .intro h n hn';have hn':=cD.1 hn';have:=h (nth v n) (dO hn');rw[key n hn',u4];exact this
  rw[hall]
end Geo
namespace Geo
structure P3 where
 x:Int
 y:Int
 d:Int
def ev(h p:P3):Int:=h.x*p.x+h.y*p.y+h.d*p.d
def cmb(m:Int)(p:P3)(n:Int)(q:P3):P3:=⟨m*p.x+n*q.x,m*p.y+n*q.y,m*p.d+n*q.d⟩
def ag(h p q:P3)(m n:Int):ev h (cmb m p n q)=m*ev h p+n*ev h q:=by unfold ev cmb;grind
def Sat(L:List P3):Prop:=∃p:P3,0<p.d/\∀h∈L,0<ev h p
def IL(u v:Int):∃a b:Int,(a≠0\/b≠0)/\a*u+b*v=0:=by
 by_cases h:u=0
 .exact⟨1,0,.inl (by omega),by omega⟩
 .exact⟨v,-u,.inr (by omega),by grind⟩
def aCI(x1 y1 x2 y2 x3 y3:Int):∃a b c:Int,(a≠0\/b≠0\/c≠0)/\a*x1+b*x2+c*x3=0/\a*y1+b*y2+c*y3=0:=by
 by_cases h3:x3=0
 .by_cases h2:x2=0
  .obtain⟨b,c,hne,hy⟩:=IL y2 y3;exact⟨0,b,c,by omega,by grind,by omega⟩
  .obtain⟨a,c,hne,hy⟩:=IL (x2*y1-x1*y2) (x2*y3-x3*y2);refine⟨a*x2,-(a*x1+c*x3),c*x2,?_,by grind,by grind⟩;rcases hne with h|h
   .simp_all
   simp_all
 .obtain⟨a,b,hne,hy⟩:=IL (x3*y1-x1*y3) (x3*y2-x2*y3);refine⟨a*x3,b*x3,-(a*x1+b*x2),?_,by grind,by grind⟩;rcases hne with h|h
  .simp_all
  simp_all
def aCH(p q r s:P3)(hs:0<s.d):∃a b c e:Int,(a≠0\/b≠0\/c≠0\/e≠0)/\a*p.x+b*q.x+c*r.x+e*s.x=0/\a*p.y+b*q.y+c*r.y+e*s.y=0/\a*p.d+b*q.d+c*r.d+e*s.d=0:=by
 obtain⟨a,b,c,hne,hx,hy⟩:=aCI (s.d*p.x-p.d*s.x) (s.d*p.y-p.d*s.y) (s.d*q.x-q.d*s.x) (s.d*q.y-q.d*s.y) (s.d*r.x-r.d*s.x) (s.d*r.y-r.d*s.y);have hd:s.d≠0:=by omega
 refine⟨a*s.d,b*s.d,c*s.d,-(a*p.d+b*q.d+c*r.d),?_,by grind,by grind,by grind⟩;rcases hne with h|h|h
 .simp_all
 .simp_all
 simp_all
def pos(n:Int):Int:=if 0<n then n else 0
def mix(a b c e:Int)(p q r s:P3):P3:=⟨a*p.x+b*q.x+c*r.x+e*s.x,a*p.y+b*q.y+c*r.y+e*s.y,a*p.d+b*q.d+c*r.d+e*s.d⟩
def n8(h p q r s:P3)(a b c e:Int):ev h (mix a b c e p q r s)=a*ev h p+b*ev h q+c*ev h r+e*ev h s:=by unfold ev mix;grind
def wK(p q r s:P3)(a b c e:Int):(mix a b c e p q r s).d=a*p.d+b*q.d+c*r.d+e*s.d:=rfl
def mo{a b c e u v x y:Int}(ha:0<=a)(hb:0<=b)(hc:0<=c)(he:0<=e)(hne:a≠0\/b≠0\/c≠0\/e≠0)(h1:a≠0->0<u)(h2:b≠0->0<v)(h3:c≠0->0<x)(h4:e≠0->0<y):0<a*u+b*v+c*x+e*y:=by
 have t:∀{m z:Int},0<=m->(m≠0->0<z)->0<=m*z/\(m≠0->0<m*z):=by
  intro m z hm hz;by_cases h:m=0
  .grind
  .have:=bL (show 0<m by omega) (hz h);omega
 have:=t ha h1;have:=t hb h2;have:=t hc h3;have:=t he h4;omega
def aCa{h1 h2 h3 h4:P3}{R:List P3}(s1:Sat (h2::h3::h4::R))(s2:Sat (h1::h3::h4::R))(s3:Sat (h1::h2::h4::R))(s4:Sat (h1::h2::h3::R)):Sat (h1::h2::h3::h4::R):=by
 obtain⟨p,hp,fp⟩:=s1;obtain⟨q,hq,fq⟩:=s2;obtain⟨r,hr,fr⟩:=s3;obtain⟨s,hs,fs⟩:=s4;obtain⟨a,b,c,e,hne,hx,hy,hd⟩:=aCH p q r s hs;simp only[bI,forall_eq_or_imp]at fp fq fr fs;obtain⟨p2,p3,p4,pR⟩:=fp;obtain⟨q1,q3,q4,qR⟩:=fq;obtain⟨r1,r2,r4,rR⟩:=fr;obtain⟨s1,s2,s3,sR⟩:=fs;have pn:∀n:Int,pos n-pos (-n)=n:=by intro n;unfold pos;split<;>split<;>omega
 have p0:∀n:Int,0<=pos n:=by intro n;unfold pos;split<;>omega
 have pz:∀n:Int,pos n≠0->pos (-n)=0:=by intro n;unfold pos;split<;>split<;>omega
 have key:∀h:P3,ev h (mix (pos a) (pos b) (pos c) (pos e) p q r s)=ev h (mix (pos (-a)) (pos (-b)) (pos (-c)) (pos (-e)) p q r s):=by
  intro h;have hz:a*ev h p+b*ev h q+c*ev h r+e*ev h s=0:=by unfold ev;grind
  rw[n8,n8];have ea:=pn a;have eb:=pn b;have ec:=pn c;have ee:=pn e;grind
 have kd:(mix (pos a) (pos b) (pos c) (pos e) p q r s).d=(mix (pos (-a)) (pos (-b)) (pos (-c)) (pos (-e)) p q r s).d:=by rw[wK,wK];have ea:=pn a;have eb:=pn b;have ec:=pn c;have ee:=pn e;grind
 have dne:pos a≠0\/pos b≠0\/pos c≠0\/pos e≠0:=by
  apply dQ;intro hno;simp only[not_or,S5]at hno;obtain⟨z1,z2,z3,z4⟩:=hno;have:0<pos (-a)*p.d+pos (-b)*q.d+pos (-c)*r.d+pos (-e)*s.d:=by refine mo (p0 _) (p0 _) (p0 _) (p0 _) ?_ (λ_=>hp) (λ_=>hq) (λ_=>hr) (λ_=>hs);have ea:=pn a;have eb:=pn b;have ec:=pn c;have ee:=pn e;omega
  rw[wK,wK,z1,z2,z3,z4]at kd;omega
 have dne':pos (-a)≠0\/pos (-b)≠0\/pos (-c)≠0\/pos (-e)≠0:=by apply dQ;intro hno;simp only[not_or,S5]at hno;obtain⟨z1,z2,z3,z4⟩:=hno;have:0<pos a*p.d+pos b*q.d+pos c*r.d+pos e*s.d:=mo (p0 _) (p0 _) (p0 _) (p0 _) dne (λ_=>hp) (λ_=>hq) (λ_=>hr) (λ_=>hs);rw[wK,wK,z1,z2,z3,z4]at kd;omega
 refine⟨mix (pos a) (pos b) (pos c) (pos e) p q r s,?_,?_⟩
 .exact mo (p0 _) (p0 _) (p0 _) (p0 _) dne (λ_=>hp) (λ_=>hq) (λ_=>hr) (λ_=>hs)
 .intro h hm;simp only[bI]at hm;rcases hm with rfl|rfl|rfl|rfl|hm
  .by_cases z:pos a=0
   .rw[n8];exact mo (p0 _) (p0 _) (p0 _) (p0 _) dne (by grind) (λ_=>q1) (λ_=>r1) (λ_=>s1)
   .rw[key,n8];exact mo (p0 _) (p0 _) (p0 _) (p0 _) dne' (by grind) (λ_=>q1) (λ_=>r1) (λ_=>s1)
  .by_cases z:pos b=0
   .rw[n8];exact mo (p0 _) (p0 _) (p0 _) (p0 _) dne (λ_=>p2) (by grind) (λ_=>r2) (λ_=>s2)
   .rw[key,n8];exact mo (p0 _) (p0 _) (p0 _) (p0 _) dne' (λ_=>p2) (by grind) (λ_=>r2) (λ_=>s2)
  .by_cases z:pos c=0
   .rw[n8];exact mo (p0 _) (p0 _) (p0 _) (p0 _) dne (λ_=>p3) (λ_=>q3) (by grind) (λ_=>s3)
   .rw[key,n8];exact mo (p0 _) (p0 _) (p0 _) (p0 _) dne' (λ_=>p3) (λ_=>q3) (by grind) (λ_=>s3)
  .by_cases z:pos e=0
   .rw[n8];exact mo (p0 _) (p0 _) (p0 _) (p0 _) dne (λ_=>p4) (λ_=>q4) (λ_=>r4) (by grind)
   .rw[key,n8];exact mo (p0 _) (p0 _) (p0 _) (p0 _) dne' (λ_=>p4) (λ_=>q4) (λ_=>r4) (by grind)
  .rw[n8];exact mo (p0 _) (p0 _) (p0 _) (p0 _) dne (by grind) (by grind) (by grind) (by grind)
def Sat.sub{L M:List P3}(h:Sat L)(hs:∀x∈M,x∈L):Sat M:=by obtain⟨p,hp,f⟩:=h;exact⟨p,hp,by grind⟩
def aCk:∀(n:Nat) (L:List P3),L.length=n->(∀a∈L,∀b∈L,∀c∈L,Sat [a,b,c])->Sat L:=by
 intro n;induction n using Nat.strongRecOn with
 |ind n ih=>
  intro L hn h;match L,hn with
  |[],_=>exact⟨⟨0,0,1⟩,by decide,by grind⟩
  |[a],_=>exact(h a (by simp) a (by simp) a (by simp)).sub (by simp)
  |[a,b],_=>exact(h a (by simp) b (by simp) a (by simp)).sub (by simp)
  |[a,b,c],_=>simp_all
  |a::b::c::e::R,hn=>
   have g:∀M:List P3,(∀x∈M,x∈a::b::c::e::R)->M.length<n->Sat M:=by grind
   simp only[iE]at hn;refine aCa (g _ ?_ ?_) (g _ ?_ ?_) (g _ ?_ ?_) (g _ ?_ ?_);all_goals first
    |(simp only[iE];omega)
    |(intro x hx;simp only[bI]at hx|-;grind)
end Geo
namespace Geo
def lin(u v:V):P3:=⟨-(v.y-u.y),v.x-u.x,(v.y-u.y)*u.x-(v.x-u.x)*u.y⟩
def pt(v:V):P3:=⟨v.x,v.y,1⟩
def dt(u v w:V):ev (lin u v) (pt w)=cross (sub v u) (sub w u):=by unfold ev lin pt cross sub;grind
def cH(u v:V):ev (lin u v) (pt u)=0:=by unfold ev lin pt;grind
def cX(u v:V):ev (lin u v) (pt v)=0:=by unfold ev lin pt;grind
def Ea{n1 d1 n2 d2 n3 d3:Int}(h1:0<d1)(h2:0<d2)(h3:0<d3)(a:n1*d2<=n2*d1)(b:n2*d3<n3*d2):n1*d3<n3*d1:=by
 have e1:=ls a (show 0<=d3 by omega);have e2:=S6 b h1;have:(n1*d3)*d2<(n3*d1)*d2:=by grind
 simp_all
def EZ{n1 d1 n2 d2 n3 d3:Int}(h1:0<d1)(h2:0<d2)(h3:0<d3)(a:n1*d2<n2*d1)(b:n2*d3<=n3*d2):n1*d3<n3*d1:=by
 have e1:=S6 a h3;have e2:=ls b (show 0<=d1 by omega);have:(n1*d3)*d2<(n3*d1)*d2:=by grind
 simp_all
def kU:List (Int×Int)->Int->Int->Int->Int->Bool
 |[],ln,ld,hn,hd=>decide (ln*hd<hn*ld)
 |(a,b)::l,ln,ld,hn,hd=>
  if a<=0/\b<=0 then false
  else if a<0 then(if ln*(b-a)< -a*ld then kU l (-a) (b-a) hn hd else kU l ln ld hn hd)
  else if b<0 then(if a*hd<hn*(a-b)then kU l ln ld a (a-b)else kU l ln ld hn hd)
  else kU l ln ld hn hd
def tG:∀(l:List (Int×Int)) (ln ld hn hd:Int),0<=ln->0<ld->0<hd->hn<=hd->
  (kU l ln ld hn hd=true↔∃x y:Int,0<x/\0<y/\(∀p∈l,0<p.1*x+p.2*y)/\ln*(x+y)<y*ld/\y*hd<hn*(x+y))
 |[],ln,ld,hn,hd,h1,h2,h3,h4=>by
  simp only[kU,decide_eq_true_eq,cq,false_imp_iff,implies_true,true_and];constructor
  .intro h;have hn0:0<hn:=by
    rcases cC 0 hn with h5|h5
    .exact h5
    .have:=cJ h1 (show 0<=hd by omega);have:=cJ (show 0<= -hn by omega) (show 0<=ld by omega);grind
   have hl:ln<ld:=by
    rcases cC ln ld with h5|h5
    .exact h5
    .have e1:=ls h5 (show 0<=hd by omega);have e2:=ls h4 (show 0<=ld by omega);grind
   refine⟨(ld-ln)+(hd-hn),ln+hn,by omega,by omega,?_,?_⟩
   .grind
   grind
  .rintro⟨x,y,hx,hy,a,b⟩;have a':ln*(x+y)<=y*ld:=by omega
   exact Ea (n2:=y) (d2:=x+y) h2 (by omega) h3 a' b
 |(a,b)::l,ln,ld,hn,hd,h1,h2,h3,h4=>by
  have e1:∀x y:Int,(∀p∈(a,b)::l,0<p.1*x+p.2*y)↔(0<a*x+b*y/\∀p∈l,0<p.1*x+p.2*y):=by intro x y;simp
  simp only[e1];unfold kU;by_cases c1:a<=0/\b<=0
  .constructor
   .grind
   .rintro⟨x,y,hx,hy,⟨h5,_⟩,_⟩;have:=cJ (show 0<= -a by omega) (show 0<=x by omega);have:=cJ (show 0<= -b by omega) (show 0<=y by omega);grind
  .rw[if_neg c1];by_cases c2:a<0
   .have hba:0<b-a:=by omega
    have e2:∀x y:Int,0<a*x+b*y↔ -a*(x+y)<y*(b-a):=by intro x y;constructor<;>intro h<;>grind
    rw[if_pos c2];by_cases c3:ln*(b-a)< -a*ld
    .rw[if_pos c3,tG l (-a) (b-a) hn hd (by omega) hba h3 h4];constructor
     .rintro⟨x,y,hx,hy,h5,h6,h7⟩;exact⟨x,y,hx,hy,by grind,Ea (n2:= -a) (d2:=b-a) h2 hba (by omega) (by omega) h6,h7⟩
     .rintro⟨x,y,hx,hy,⟨h5,h6⟩,h7,h8⟩;exact⟨x,y,hx,hy,h6,(e2 x y).1 h5,h8⟩
    .rw[if_neg c3,tG l ln ld hn hd h1 h2 h3 h4];constructor
     .rintro⟨x,y,hx,hy,h5,h6,h7⟩;exact⟨x,y,hx,hy,⟨(e2 x y).2 (Ea (n2:=ln) (d2:=ld) hba h2 (by omega) (by omega) h6),h5⟩,h6,h7⟩
     .rintro⟨x,y,hx,hy,⟨h5,h6⟩,h7,h8⟩;exact⟨x,y,hx,hy,h6,h7,h8⟩
   .rw[if_neg c2];by_cases c4:b<0
    .have hab:0<a-b:=by omega
     have e2:∀x y:Int,0<a*x+b*y↔y*(a-b)<a*(x+y):=by intro x y;constructor<;>intro h<;>grind
     rw[if_pos c4];by_cases c3:a*hd<hn*(a-b)
     .rw[if_pos c3,tG l ln ld a (a-b) h1 h2 hab (by omega)];constructor
      .rintro⟨x,y,hx,hy,h5,h6,h7⟩;exact⟨x,y,hx,hy,by grind,h6,EZ (n2:=a) (d2:=a-b) (by omega) hab h3 h7 (by omega)⟩
      .rintro⟨x,y,hx,hy,⟨h5,h6⟩,h7,h8⟩;exact⟨x,y,hx,hy,h6,h7,(e2 x y).1 h5⟩
     .rw[if_neg c3,tG l ln ld hn hd h1 h2 h3 h4];constructor
      .rintro⟨x,y,hx,hy,h5,h6,h7⟩;exact⟨x,y,hx,hy,⟨(e2 x y).2 (EZ (n2:=hn) (d2:=hd) (by omega) h3 hab h7 (by omega)),h5⟩,h6,h7⟩
      .rintro⟨x,y,hx,hy,⟨h5,h6⟩,h7,h8⟩;exact⟨x,y,hx,hy,h6,h7,h8⟩
    .rw[if_neg c4,tG l ln ld hn hd h1 h2 h3 h4];constructor
     .rintro⟨x,y,hx,hy,h5,h6,h7⟩;refine⟨x,y,hx,hy,⟨?_,h5⟩,h6,h7⟩;have g1:=cJ (show 0<=a by omega) (show 0<=x by omega);have g2:=cJ (show 0<=b by omega) (show 0<=y by omega);rcases cC 0 a with h|h
      .have:=bL h hx;omega
      .have:=bL (show 0<b by omega) hy;omega
     .rintro⟨x,y,hx,hy,⟨h5,h6⟩,h7,h8⟩;exact⟨x,y,hx,hy,h6,h7,h8⟩
structure Poly(F:List P3)(Vs:List V)(Es:List S)(c:P3):Prop where
 nonneg:∀f∈F,∀v∈Vs,0<=ev f (pt v)
 cd:0<c.d
 cin:∀f∈F,0<ev f c
 ends:∀s∈Es,s.a∈Vs/\s.b∈Vs
 side:∀q:P3,0<q.d->(∃f∈F,ev f q=0)->(∀f∈F,0<=ev f q)->∃s∈Es,∃x y k:Int,0<=x/\0<=y/\0<k/\∀h:P3,k*ev h q=x*ev h (pt s.a)+y*ev h (pt s.b)
 hull:∀q:P3,(∀f∈F,0<ev f q)->∀h:P3,(∀v∈Vs,ev h (pt v)<=0)->ev h q<=0
def big(q c:P3):∀(G:List P3),(∀g∈G,0<ev g q)->∃N:Int,1<=N/\∀g∈G,0<N*ev g q+ev g c
 |[],_=>⟨1,by decide,by grind⟩
 |g::G,h=>by
  obtain⟨N,h1,h2⟩:=big q c G (by grind);have hg:=h g cI;refine⟨N+(ev g c).natAbs,by omega,?_⟩;intro f hf;rcases bI.1 hf with rfl|hf
  .have:(N+(ev f c).natAbs)*1<=(N+(ev f c).natAbs)*ev f q:=dS (by omega) (by omega);omega
  .have h3:=h f (cG _ hf);have:=cJ (show 0<=((ev g c).natAbs:Int) by omega) (show 0<=ev f q by omega);grind
def vE{F:List P3}{Vs:List V}{Es:List S}{c:P3}(A:Poly F Vs Es c){g:P3}(h:∃v∈Vs,0<ev g (pt v)):Sat (g::F):=by
 obtain⟨v,hv,hg⟩:=h;obtain⟨N,h1,h2⟩:=big (pt v) c [g] (by grind);refine⟨cmb N (pt v) 1 c,?_,?_⟩
 .have:=A.cd;simp only[cmb,pt];omega
 .intro f hf;rw[ag];rcases bI.1 hf with rfl|hf
  .grind
  .have e1:=A.nonneg f hf v hv;have e2:=A.cin f hf;have:=cJ (show 0<=N by omega) e1;omega
def UD{F G:List P3}{Vs Us:List V}{Es Ds:List S}{c e:P3}(A:Poly F Vs Es c)(B:Poly G Us Ds e)
  (h1:∀g∈G,∃v∈Vs,0<ev g (pt v)) (h2:∀f∈F,∃u∈Us,0<ev f (pt u)):Sat (F++G):=by
 have hF:Sat F:=⟨c,A.cd,A.cin⟩;have hG:Sat G:=⟨e,B.cd,B.cin⟩;refine aCk _ _ rfl ?_;intro x hx y hy z hz;simp only[bl]at hx hy hz;rcases hx with hx|hx<;>rcases hy with hy|hy<;>rcases hz with hz|hz
 .exact hF.sub (by grind)
 .exact(vE A (h1 z hz)).sub (by grind)
 .exact(vE A (h1 y hy)).sub (by grind)
 .exact(vE B (h2 x hx)).sub (by grind)
 .exact(vE A (h1 x hx)).sub (by grind)
 .exact(vE B (h2 y hy)).sub (by grind)
 .exact(vE B (h2 z hz)).sub (by grind)
 .exact hG.sub (by grind)
def tu(G:List P3)(s:S):Prop:=∃x y:Int,0<x/\0<y/\∀g∈G,0<ev g (pt s.a)*x+ev g (pt s.b)*y
def JU{F G:List P3}{Vs:List V}{Es:List S}{c:P3}(A:Poly F Vs Es c){s:S}(hs:s∈Es)(h:tu G s):Sat (F++G):=by
 obtain⟨x,y,hx,hy,hg⟩:=h;have hq:∀g∈G,0<ev g (cmb x (pt s.a) y (pt s.b)):=by intro g h;rw[ag];have:=hg g h;grind
 obtain⟨N,h1,h2⟩:=big _ c G hq;refine⟨cmb N (cmb x (pt s.a) y (pt s.b)) 1 c,?_,?_⟩
 .have e1:=A.cd;have e2:=bL (show 0<N by omega) (show 0<x*1+y*1 by omega);simp only[cmb,pt];omega
 .intro f hf;rw[ag];rcases bl.1 hf with hf|hf
  .have e1:=A.nonneg f hf _ (A.ends s hs).1;have e2:=A.nonneg f hf _ (A.ends s hs).2;have e3:=A.cin f hf;have e4:0<=ev f (cmb x (pt s.a) y (pt s.b)):=by rw[ag];have:=cJ (show 0<=x by omega) e1;have:=cJ (show 0<=y by omega) e2;omega
   have:=cJ (show 0<=N by omega) e4;omega
  grind
def Qd(p c:P3)(hp:0<p.d)(hc:0<c.d):∀(G:List P3),(∀g∈G,0<ev g p)->
  ∃m n:Int,0<=m/\0<=n/\0<m+n/\(∀g∈G,0<=ev g (cmb m p n c))/\((∃g∈G,ev g (cmb m p n c)=0)\/(m=0/\∀g∈G,0<ev g c))
 |[],_=>⟨0,1,by omega,by omega,by omega,(by grind),by grind⟩
 |g::G,h=>by
  obtain⟨m,n,hm,hn,hmn,h1,h2⟩:=Qd p c hp hc G (by grind);have hg:=h g cI;rcases q9 (ev g (cmb m p n c)) 0 with h3|h3|h3
  ·
   have hq:=ag g p c m n;refine⟨-(ev g (cmb m p n c))+ev g p*m,ev g p*n,?_,?_,?_,?_,.inl ⟨g,by grind,?_⟩⟩
   .have:=cJ (show 0<=ev g p by omega) hm;omega
   .exact cJ (by omega) hn
   .have e1:=cJ (show 0<=ev g p by omega) hm;have e2:=cJ (show 0<=ev g p by omega) hn;omega
   .intro f hf;rcases bI.1 hf with rfl|hf
    .rw[ag];have:(-(ev f (cmb m p n c))+ev f p*m)*ev f p+ev f p*n*ev f c=0:=by rw[hq];grind
     omega
    .have e1:=h1 f hf;have e2:=h f (cG _ hf);have e3:=cJ (show 0<=ev g p by omega) e1;have e4:=cJ (show 0<= -(ev g (cmb m p n c)) by omega) (show 0<=ev f p by omega);have e5:=ag f p c m n;rw[ag];have:(-(ev g (cmb m p n c))+ev g p*m)*ev f p+ev g p*n*ev f c= -(ev g (cmb m p n c))*ev f p+ev g p*ev f (cmb m p n c):=by rw[e5];grind
     omega
   .rw[ag,hq];grind
  .refine⟨m,n,hm,hn,hmn,?_,by grind⟩;grind
  .refine⟨m,n,hm,hn,hmn,?_,?_⟩
   .grind
   .rcases h2 with⟨f,hf,h4⟩|⟨rfl,h4⟩
    .grind
    .refine .inr ⟨rfl,?_⟩;intro f hf;rcases bI.1 hf with rfl|hf
     .rw[ag]at h3;have hn0:0<n:=by omega
      have:0<n*ev f c:=by omega
      exact S7 this hn0|>λh=>h
     grind
def TV{F:List P3}{s:S}{x y:Int}(hx:0<=x)(hy:0<=y)(h:∀f∈F,0<x*ev f (pt s.a)+y*ev f (pt s.b)):tu F s:=by
 have hq:∀f∈F,0<ev f (cmb x (pt s.a) y (pt s.b)):=by intro f hf;rw[ag];exact h f hf
 obtain⟨N,h1,h2⟩:=big _ (cmb 1 (pt s.a) 1 (pt s.b)) F hq;have e1:=cJ (show 0<=N by omega) hx;have e2:=cJ (show 0<=N by omega) hy;refine⟨N*x+1,N*y+1,by omega,by omega,?_⟩;intro f hf;have:=h2 f hf;rw[ag,ag]at this;grind
def TX{F G:List P3}{Vs Us:List V}{Es Ds:List S}{c e:P3}(A:Poly F Vs Es c)(B:Poly G Us Ds e):
  Sat (F++G)↔((∃s∈Es,tu G s)\/(∃s∈Ds,tu F s)\/∀g∈G,0<ev g c):=by
 constructor
 .rintro⟨p,hp,h⟩;obtain⟨m,n,hm,hn,hmn,h1,h2⟩:=Qd p c hp A.cd G (by grind);rcases h2 with h2|⟨_,h2⟩
  .refine .inr (.inl ?_);have hd:0<(cmb m p n c).d:=by
    have:=A.cd;have e1:=cJ hm (show 0<=p.d by omega);have e2:=cJ hn (show 0<=c.d by omega);show 0<m*p.d+n*c.d;rcases cC 0 m with h3|h3
    .have:=bL h3 hp;omega
    .have:=bL (show 0<n by omega) this;omega
   obtain⟨s,hs,x,y,k,hx,hy,hk,hq⟩:=B.side _ hd h2 h1;refine⟨s,hs,TV hx hy ?_⟩;intro f hf;rw[<-hq f];refine bL hk ?_;rw[ag];have e1:=h f (ig _ hf);have e2:=A.cin f hf;have e3:=cJ hm (show 0<=ev f p by omega);have e4:=cJ hn (show 0<=ev f c by omega);rcases cC 0 m with h3|h3
   .have:=bL h3 e1;omega
   .have:=bL (show 0<n by omega) e2;omega
  grind
 .rintro(⟨s,hs,h⟩|⟨s,hs,h⟩|h)
  .exact JU A hs h
  .exact(JU B hs h).sub (by grind)
  .refine⟨c,A.cd,?_⟩;intro f hf;rcases bl.1 hf with hf|hf
   .exact A.cin f hf
   grind
def JV{F G:List P3}{Vs Us:List V}{Es Ds:List S}{c e:P3}(A:Poly F Vs Es c)(B:Poly G Us Ds e):
  Sat (F++G)↔((∀g∈G,∃v∈Vs,0<ev g (pt v))/\(∀f∈F,∃u∈Us,0<ev f (pt u))):=by
 constructor
 .rintro⟨p,hp,h⟩;constructor
  .intro g hg;apply dQ;intro hno;have:=A.hull p (by grind) g (by grind);grind
  .intro f hf;apply dQ;intro hno;have:=B.hull p (by grind) f (by grind);grind
 .rintro⟨h1,h2⟩;exact UD A B h1 h2
end Geo
section
set_option linter.unusedSimpArgs false
namespace Geo
def iq(a b:Int):(0<a->0<b->0<a*b)/\(a<0->b<0->0<a*b)/\(0<a->b<0->a*b<0)/\(a<0->0<b->a*b<0)/\(a=0->a*b=0)/\(b=0->a*b=0):=
 ⟨bL,wh,fz,nK,λh=>by grind,λh=>by grind⟩
def onC(x1 y1 x2 y2 c:Int):Bool:=c==0&&(decide (min x1 x2<=0)&&decide (0<=max x1 x2))&&(decide (min y1 y2<=0)&&decide (0<=max y1 y2))
def mN(y1 y2 c:Int):Bool:=(decide (0<=y1) !=decide (0<=y2))&&(decide (0<=y1)==decide (0<c))
def Gx{y1 y2 y3 c1 c2 c3:Int}(h0:c2*y1+c3*y2+c1*y3=0)(hs:0<c1+c2+c3)(h1:0<=y1)(h2:y2<0)(h3:y3<0)(hc1:c1≠0)(hc3:c3≠0):
  ((0<c1↔0<c3))↔(0<c1/\0<c2/\0<c3):=by
 constructor
 .intro h;rcases mR hc1 with h4|h4
  .have h5:c3<0:=by omega
   have e1:=(iq c3 y2).2.1 h5 h2;have e2:=(iq c1 y3).2.1 h4 h3;have h6:0<c2:=by omega
   rcases uS h1 with h7|h7
   .have:=(iq c2 y1).1 h6 h7;omega
   grind
  .have h5:=h.1 h4;have e1:=(iq c3 y2).2.2.1 h5 h2;have e2:=(iq c1 y3).2.2.1 h4 h3;refine⟨h4,?_,h5⟩;rcases q9 c2 0 with h6|h6|h6
   .rcases uS h1 with h7|h7
    .have:=(iq c2 y1).2.2.2.1 h6 h7;omega
    grind
   .grind
   .exact h6
 omega
def FT{x1 x2 x3 y1 y2 y3:Int}(hs:0<(x1*y2-y1*x2)+(x2*y3-y2*x3)+(x3*y1-y3*x1))(h1:y1<0)(h2:0<=y2)(h3:0<=y3)
  (hc1:x1*y2-y1*x2≠0) (hc3:x3*y1-y3*x1≠0) (hn:onC x2 y2 x3 y3 (x2*y3-y2*x3)=false):
  ((0<x1*y2-y1*x2↔0<x3*y1-y3*x1))↔(0<x1*y2-y1*x2/\0<x2*y3-y2*x3/\0<x3*y1-y3*x1):=by
 have h0:(x2*y3-y2*x3)*y1+(x3*y1-y3*x1)*y2+(x1*y2-y1*x2)*y3=0:=by grind
 have f1:y2=0->x1*y2-y1*x2= -(y1*x2):=by intro h;subst h;omega
 have f3:y3=0->x3*y1-y3*x1=x3*y1:=by intro h;subst h;omega
 generalize x1*y2-y1*x2=c1 at*;generalize x2*y3-y2*x3=c2 at*;generalize x3*y1-y3*x1=c3 at*;constructor
 .intro h;have hQ:(c3<0->c3*y2<=0)/\(0<c3->0<=c3*y2):=by
   rcases uS h2 with h7|h7
   .exact⟨λh=>iy ((iq c3 y2).2.2.2.1 h h7),λh=>iy ((iq c3 y2).1 h h7)⟩
   .grind
  have hR:(c1<0->c1*y3<=0)/\(0<c1->0<=c1*y3):=by
   rcases uS h3 with h7|h7
   .exact⟨λh=>iy ((iq c1 y3).2.2.2.1 h h7),λh=>iy ((iq c1 y3).1 h h7)⟩
   .grind
  rcases mR hc1 with h4|h4
  .have h6:0<c2:=by omega
   have:=(iq c2 y1).2.2.1 h6 h1;omega
  .have h5:=h.1 h4;refine⟨h4,?_,h5⟩;rcases q9 c2 0 with h6|h6|h6
   .have:=(iq c2 y1).2.1 h6 h1;omega
   .have hP:=(iq c2 y1).2.2.2.2.1 h6;have z2:y2=0:=by
     rcases uS h2 with h7|h7
     .have:=(iq c3 y2).1 h5 h7;omega
     .exact h7.symm
    have z3:y3=0:=by
     rcases uS h3 with h7|h7
     .have:=(iq c1 y3).1 h4 h7;omega
     .exact h7.symm
    have m2:0<x2:=by
     rcases q9 x2 0 with h8|h8|h8
     .have:=(iq y1 x2).2.1 h1 h8;omega
     .grind
     .exact h8
    have m3:x3<0:=by
     rcases q9 x3 0 with h8|h8|h8
     .exact h8
     .grind
     .have:=(iq x3 y1).2.2.1 h8 h1;omega
    have:onC x2 y2 x3 y3 c2=true:=by unfold onC;simp;omega
    grind
   .exact h6
 omega
def aBz{x1 y1 x2 y2:Int}(h:x1*y2-y1*x2=0)(h1:0<=y1)(h2:y2<0):onC x1 y1 x2 y2 (x1*y2-y1*x2)=true:=by unfold onC;obtain⟨a1,a2,a3,a4,a5,a6⟩:=iq x1 y2;obtain⟨b1,b2,b3,b4,b5,b6⟩:=iq y1 x2;grind
def Yo(x1 y1 x2 y2:Int):onC x1 y1 x2 y2 (x1*y2-y1*x2)=onC x2 y2 x1 y1 (x2*y1-y2*x1):=by unfold onC;grind
def ti{x1 y1 x2 y2:Int}(h1:0<=y1)(h2:y2<0)(hn:onC x1 y1 x2 y2 (x1*y2-y1*x2)=false):x1*y2-y1*x2≠0:=λh=>by rw[aBz h h1 h2]at hn;cases hn
def vJ{x1 y1 x2 y2:Int}(h1:y1<0)(h2:0<=y2)(hn:onC x1 y1 x2 y2 (x1*y2-y1*x2)=false):x1*y2-y1*x2≠0:=λh=>by rw[Yo]at hn;exact ti h2 h1 hn (by grind)
def Hs(x1 y1 x2 y2 x3 y3:Int):Int:=
 if onC x1 y1 x2 y2 (x1*y2-y1*x2)then 1 else if onC x2 y2 x3 y3 (x2*y3-y2*x3)then 1 else if onC x3 y3 x1 y1 (x3*y1-y3*x1)then 1
 else if((false !=mN y1 y2 (x1*y2-y1*x2)) !=mN y2 y3 (x2*y3-y2*x3)) !=mN y3 y1 (x3*y1-y3*x1)then 2 else 0
def X6(x1 y1 x2 y2 x3 y3:Int)(hs:0<(x1*y2-y1*x2)+(x2*y3-y2*x3)+(x3*y1-y3*x1)):
  Hs x1 y1 x2 y2 x3 y3=2↔(0<x1*y2-y1*x2/\0<x2*y3-y2*x3/\0<x3*y1-y3*x1):=by
 have h0:(x2*y3-y2*x3)*y1+(x3*y1-y3*x1)*y2+(x1*y2-y1*x2)*y3=0:=by grind
 have onpos:∀a b c d e:Int,onC a b c d e=true->e=0:=by intro a b c d e h;unfold onC at h;simp at h;exact h.1.1
 unfold Hs;cases o1:onC x1 y1 x2 y2 (x1*y2-y1*x2)with
 |true=>grind
 |false=>
  cases o2:onC x2 y2 x3 y3 (x2*y3-y2*x3)with
  |true=>grind
  |false=>
   cases o3:onC x3 y3 x1 y1 (x3*y1-y3*x1)with
   |true=>grind
   |false=>
    simp only[lN,if_false,sZ];have if2:∀b:Bool,(if b=true then(2:Int)else 0)=2↔b=true:=by intro b;cases b<;>simp
    rw[if2];by_cases p1:0<=y1<;>by_cases p2:0<=y2<;>by_cases p3:0<=y3
    ·
     simp only[mN,p1,p2,p3,decide_true,bne_self_eq_false,oc,lN,false_iff];rintro⟨q1,q2,q3⟩;have e1:=cJ (show 0<=x2*y3-y2*x3 by omega) p1;have e2:=cJ (show 0<=x3*y1-y3*x1 by omega) p2;have e3:=cJ (show 0<=x1*y2-y1*x2 by omega) p3;have z1:y1=0:=by
      rcases uS p1 with h|h
      .have:=bL q2 h;omega
      .exact h.symm
     have z2:y2=0:=by
      rcases uS p2 with h|h
      .have:=bL q3 h;omega
      .exact h.symm
     grind
    .have c2:=ti p2 (by omega) o2;have c3:=vJ (by omega) p1 o3;have:=FT (x1:=x3) (x2:=x1) (x3:=x2) (y1:=y3) (y2:=y1) (y3:=y2) (by omega) (by omega) p1 p2 c3 c2 o1;simp only[mN,p1,p2,p3,decide_true,decide_false,bne_self_eq_false,oc,sZ,wu,zN,wv,mS,se,jM];grind
    .have c1:=ti p1 (by omega) o1;have c2:=vJ (by omega) p3 o2;have:=FT (x1:=x2) (x2:=x3) (x3:=x1) (y1:=y2) (y2:=y3) (y3:=y1) (by omega) (by omega) p3 p1 c2 c1 o3;simp only[mN,p1,p2,p3,decide_true,decide_false,bne_self_eq_false,oc,sZ,wu,zN,wv,mS,se,jM];grind
    .have c1:=ti p1 (by omega) o1;have c3:=vJ (by omega) p1 o3;have:=Gx h0 hs p1 (by omega) (by omega) c1 c3;simp only[mN,p1,p2,p3,decide_true,decide_false,bne_self_eq_false,oc,sZ,wu,zN,wv,mS,se,jM];grind
    .have c1:=vJ (by omega) p2 o1;have c3:=ti p3 (by omega) o3;have:=FT hs (by omega) p2 p3 c1 c3 o2;simp only[mN,p1,p2,p3,decide_true,decide_false,bne_self_eq_false,oc,sZ,wu,zN,wv,mS,se,jM];grind
    .have c1:=vJ (by omega) p2 o1;have c2:=ti p2 (by omega) o2;have:=Gx (y1:=y2) (y2:=y3) (y3:=y1) (c1:=x2*y3-y2*x3) (c2:=x3*y1-y3*x1) (c3:=x1*y2-y1*x2) (by omega) (by omega) p2 (by omega) (by omega) c2 c1;simp only[mN,p1,p2,p3,decide_true,decide_false,bne_self_eq_false,oc,sZ,wu,zN,wv,mS,se,jM];grind
    .have c2:=vJ (by omega) p3 o2;have c3:=ti p3 (by omega) o3;have:=Gx (y1:=y3) (y2:=y1) (y3:=y2) (c1:=x3*y1-y3*x1) (c2:=x1*y2-y1*x2) (c3:=x2*y3-y2*x3) (by omega) (by omega) p3 (by omega) (by omega) c3 c2;simp only[mN,p1,p2,p3,decide_true,decide_false,bne_self_eq_false,oc,sZ,wu,zN,wv,mS,se,jM];grind
    ·
     simp only[mN,p1,p2,p3,decide_false,bne_self_eq_false,oc,lN,false_iff];rintro⟨q1,q2,q3⟩;have e1:=fz q2 (show y1<0 by omega);have e2:=fz q3 (show y2<0 by omega);have e3:=fz q1 (show y3<0 by omega);omega
def dC(s:S)(r:aD):Bool:=kU ((aJ r).map λe=>(cross (sub e.b e.a) (sub s.a e.a),cross (sub e.b e.a) (sub s.b e.a))) 0 1 1 1
def j0(r:aD):List P3:=(aJ r).map λe=>lin e.a e.b
def Uy(s:S)(r:aD):dC s r=true↔tu (j0 r) s:=by
 unfold dC tu j0;rw[tG _ _ _ _ _ (by omega) (by omega) (by omega) (by omega)];constructor
 .rintro⟨x,y,hx,hy,h,_⟩;refine⟨x,y,hx,hy,?_⟩;intro g hg;obtain⟨e,he,rfl⟩:=bR.1 hg;rw[dt,dt];simp_all
 .rintro⟨x,y,hx,hy,h⟩;refine⟨x,y,hx,hy,?_,by omega,by omega⟩;intro p hp;obtain⟨e,he,rfl⟩:=bR.1 hp;have:=h _ (bR.2 ⟨e,he,rfl⟩);rw[dt,dt]at this;exact this
def rp(u v w:V):aJ [u,v,w] =[⟨u,v⟩,⟨v,w⟩,⟨w,u⟩] :=by simp[aJ,bO,nth,nxt,q8]
def aA7{u v w:V}(hv:cY [u,v,w] =true)(p:Pt)(hp:cn p=true)(h:0<cross (sub v u) (sub w u)):
  bg [u,v,w] p=2↔∀g∈j0 [u,v,w],0<ev g ⟨p.x,p.y,p.den⟩:=by
 have hd:0<p.den:=by unfold cn ii at hp;simp only[bj,decide_eq_true_eq]at hp;omega
 have e:∀a b:V,ev (lin a b) ⟨p.x,p.y,p.den⟩*p.den=(toV p a).x*(toV p b).y-(toV p a).y*(toV p b).x:=by intro a b;unfold ev lin toV;grind
 have sg:∀a b:V,0<ev (lin a b) ⟨p.x,p.y,p.den⟩↔0<(toV p a).x*(toV p b).y-(toV p a).y*(toV p b).x:=by
  intro a b;rw[<-e];constructor
  .intro h;exact bL h hd
  .intro h;exact Int.pos_of_mul_pos_left h hd|>λh=>h
 have sz:∀a b:V,fP ⟨a,b⟩ p*p.den=(toV p a).x*(toV p b).y-(toV p a).y*(toV p b).x:=by intro a b;unfold fP toV cross sub;grind
 have so:∀a b:V,onP ⟨a,b⟩ p=onC (toV p a).x (toV p a).y (toV p b).x (toV p b).y ((toV p a).x*(toV p b).y-(toV p a).y*(toV p b).x):=by
  intro a b;unfold onP onC;have:(fP ⟨a,b⟩ p==0)=((toV p a).x*(toV p b).y-(toV p a).y*(toV p b).x==0):=by
   rw[fL];simp only[beq_iff_eq];rw[<-sz];constructor
   .grind
   .intro h;rcases cp.1 h with h|h
    .exact h
    .omega
  rw[this]
 have sh:∀a b:V,dg ⟨a,b⟩ p=mN (toV p a).y (toV p b).y ((toV p a).x*(toV p b).y-(toV p a).y*(toV p b).x):=by
  intro a b;unfold dg mN;have:decide (0<fP ⟨a,b⟩ p)=decide (0<(toV p a).x*(toV p b).y-(toV p a).y*(toV p b).x):=by
   rw[decide_eq_decide,<-sz];constructor
   .intro h;exact bL h hd
   .intro h;exact Int.pos_of_mul_pos_left h hd|>λh=>h
  rw[this]
 have hs:0<((toV p u).x*(toV p v).y-(toV p u).y*(toV p v).x)+((toV p v).x*(toV p w).y-(toV p v).y*(toV p w).x)+((toV p w).x*(toV p u).y-(toV p w).y*(toV p u).x):=by
  have:((toV p u).x*(toV p v).y-(toV p u).y*(toV p v).x)+((toV p v).x*(toV p w).y-(toV p v).y*(toV p w).x)+((toV p w).x*(toV p u).y-(toV p w).y*(toV p u).x)=cross (sub v u) (sub w u)*(p.den*p.den):=by unfold toV cross sub;grind
  rw[this];exact bL h (bL hd hd)
 have key:=X6 (toV p u).x (toV p u).y (toV p v).x (toV p v).y (toV p w).x (toV p w).y hs;have:bg [u,v,w] p=Hs (toV p u).x (toV p u).y (toV p v).x (toV p v).y (toV p w).x (toV p w).y:=by unfold bg;rw[hv,hp,rp];simp only[mS,Bool.or_self,lN,if_false,eE,so,sh];rfl
 rw[this,key,<-sg,<-sg,<-sg];unfold j0;rw[rp];simp
def j6(a b:aD):Bool:=(bM a.length).any λi=>b.all λv=>decide (turn (nth a i) (nxt a i) v<=0)
def j5(a b:aD):Bool:=j6 a b||j6 b a
def AW(a b:aD)(ha:2<=a.length):j6 a b=true↔∃f∈j0 a,∀v∈b,ev f (pt v)<=0:=by
 unfold j6 j0 aJ;rw[if_neg (by omega),dU];simp only[jd,cD,bh,decide_eq_true_eq,bR,DH,bO];have sg:∀n:Int,sgn n<=0↔n<=0:=by intro n;have:=qM n;omega
 constructor
 .rintro⟨i,hi,h⟩;refine⟨_,⟨i,hi,rfl⟩,?_⟩;intro v hv;rw[dt];exact(sg _).1 (h v hv)
 .rintro⟨f,⟨i,hi,rfl⟩,h⟩;refine⟨i,hi,?_⟩;intro v hv;have:=h v hv;rw[dt]at this;exact(sg _).2 this
end Geo
end
namespace Geo
def um:∀(L:List (Int×Int)) (ln ld hn hd:Int),ln*hd<hn*ld->(∀p∈L,¬(p.1<=0/\p.2<=0))->(∀p∈L,p.1<0-> -p.1*hd<hn*(p.2-p.1))->
  (∀q∈L,q.2<0->ln*(q.1-q.2)<q.1*ld)->(∀p∈L,∀q∈L,p.1<0->q.2<0-> -p.1*(q.1-q.2)<q.1*(p.2-p.1))->kU L ln ld hn hd=true
 |[],ln,ld,hn,hd,h0,_,_,_,_=>by simpa[kU]using h0
 |(a,b)::L,ln,ld,hn,hd,h0,h1,h2,h3,h4=>by
  have i1:∀p∈L,¬(p.1<=0/\p.2<=0):=by grind
  have i2:∀p∈L,p.1<0-> -p.1*hd<hn*(p.2-p.1):=by grind
  have i3:∀q∈L,q.2<0->ln*(q.1-q.2)<q.1*ld:=by grind
  have i4:∀p∈L,∀q∈L,p.1<0->q.2<0-> -p.1*(q.1-q.2)<q.1*(p.2-p.1):=by grind
  unfold kU;rw[if_neg (h1 (a,b) (by grind))];split
  .rename_i ha;split
   .exact um L _ _ _ _ (h2 (a,b) (by grind) ha) i1 i2 (λq hq hq2=>h4 (a,b) (by grind) q (by grind) ha hq2) i4
   .exact um L _ _ _ _ h0 i1 i2 i3 i4
  .split
   .rename_i hb;split
    .exact um L _ _ _ _ (h3 (a,b) (by grind) hb) i1 (λp hp hp1=>h4 p (by grind) (a,b) (by grind) hp1 hb) i3 i4
    .exact um L _ _ _ _ h0 i1 i2 i3 i4
   .exact um L _ _ _ _ h0 i1 i2 i3 i4
def enters_of{F:List P3}{s:S}(h1:∀f∈F,¬(ev f (pt s.a)<=0/\ev f (pt s.b)<=0))
  (h2:∀f∈F,∀g∈F,ev f (pt s.a)<0->ev g (pt s.b)<0->ev f (pt s.a)*ev g (pt s.b)<ev g (pt s.a)*ev f (pt s.b)):tu F s:=by
 have:kU (F.map λf=>(ev f (pt s.a),ev f (pt s.b))) 0 1 1 1=true:=by
  refine um _ _ _ _ _ (by decide) ?_ ?_ ?_ ?_
  .grind
  .grind
  .grind
  .grind
 rw[tG _ _ _ _ _ (by decide) (by decide) (by decide) (by decide)]at this;obtain⟨x,y,hx,hy,h,_⟩:=this;exact⟨x,y,hx,hy,λg hg=>h _ (bR.2 ⟨g,hg,rfl⟩)⟩
def QI{x:Int}(h:x.tmod 3=0):x.tdiv 3*3=x:=by grind
def J9{x y d:Int}(h1:1<=d)(h2:d<=3)(hx: -(4000*d)<=x/\x<=4000*d)(hy: -(4000*d)<=y/\y<=4000*d)(hg:bB (bB x.natAbs y.natAbs) d.natAbs=1):cn ⟨x,y,d⟩=true:=by unfold cn ii aX;grind
def Te{u v w:V}(hu:aX u 2000=true)(hv:aX v 2000=true)(hw:aX w 2000=true):cn (fT u v w)=true:=by
 unfold aX at hu hv hw;simp only[bj,decide_eq_true_eq]at hu hv hw;have bx: -6000<=u.x+v.x+w.x/\u.x+v.x+w.x<=6000:=by omega
 have b_y: -6000<=u.y+v.y+w.y/\u.y+v.y+w.y<=6000:=by omega
 unfold fT;generalize u.x+v.x+w.x=x at*;generalize u.y+v.y+w.y=y at*;split
 .rename_i h;have e1:=QI h.1;have e2:=QI h.2;exact J9 (by omega) (by omega) (by omega) (by omega) (by simp)
 .refine J9 (by omega) (by omega) (by omega) (by omega) ?_;have h3:bB (bB x.natAbs y.natAbs) 3∣3:=uQ _ _;have hle:=Ik (by decide) h3;have hd1:bB (bB x.natAbs y.natAbs) 3∣x.natAbs:=uR (sX _ _) (sX _ _);have hd2:bB (bB x.natAbs y.natAbs) 3∣y.natAbs:=uR (sX _ _) (uQ _ _);show bB (bB x.natAbs y.natAbs) 3=1;generalize bB (bB x.natAbs y.natAbs) 3=g at*;match g,hle with
  |0,_=>simp at h3
  |1,_=>rfl
  |2,_=>omega
  |3,_=>grind
def Xl(f:P3)(u v w:V):0<ev f ⟨(fT u v w).x,(fT u v w).y,(fT u v w).den⟩↔0<ev f ⟨u.x+v.x+w.x,u.y+v.y+w.y,3⟩:=by
 unfold fT;generalize u.x+v.x+w.x=x at*;generalize u.y+v.y+w.y=y at*;split
 .rename_i h;have:ev f ⟨x,y,3⟩=3*ev f ⟨x.tdiv 3,y.tdiv 3,1⟩:=by unfold ev;grind
  grind
 grind
def ow(s:Shape)(r:aD):Bool:=(ao s).all (λe=> !(dC e r))&&eR s (fT (nth r 0) (nth r 1) (nth r 2))==2
def VR.rb{r:aD}(h:VR r){e:S}(he:e∈aJ r):e.a≠e.b:=by
 unfold aJ at he;split at he
 .cases he
 .obtain⟨i,hi,rfl⟩:=bR.1 he;have hi:=cD.1 hi;intro h2;have h3:nth r i=nth r ((i+1) % r.length):=h2;have:=h.inj hi (bz _ (by omega)) h3;by_cases h4:i+1<r.length
  .rw[dh h4]at this;omega
  .have h5:i+1=r.length:=by omega
   rw[h5,kj]at this;omega
def VS.rb{s:Shape}(h:VS s){e:S}(he:e∈ao s):e.a≠e.b:=by obtain⟨r,hr,he⟩:=dG.1 he;exact(h.ring hr).rb he
end Geo
namespace Geo
structure CR(r:aD):Prop where
 len:3<=r.length
 pos:∀i n,i<r.length->n<r.length->n≠i->n≠(i+1) % r.length->0<ev (lin (nth r i) (nxt r i)) (pt (nth r n))
 near:∀v∈r,aX v 2000=true
def rK{r:aD}(h:2<=r.length){f:P3}:f∈j0 r↔∃i,i<r.length/\f=lin (nth r i) (nxt r i):=by unfold j0 aJ;rw[if_neg (by omega),dU];simp only[bR,cD,DH,bO];grind
def CR.nonneg{r:aD}(h:CR r){i n:Nat}(hi:i<r.length)(hn:n<r.length):0<=ev (lin (nth r i) (nxt r i)) (pt (nth r n)):=by
 by_cases e1:n=i
 .rw[e1,cH];omega
 by_cases e2:n=(i+1) % r.length
 .rw[e2];unfold nxt;rw[cX];omega
 exact iy (h.pos i n hi hn e1 e2)
def id3(u v w:V)(h q:P3):ev (lin u v) (pt w)*ev h q=ev (lin v w) q*ev h (pt u)+ev (lin w u) q*ev h (pt v)+ev (lin u v) q*ev h (pt w):=by unfold ev lin pt;grind
def Yz(u v w:V):ev (lin u v) (pt w)=ev (lin v w) (pt u):=by unfold ev lin pt;grind
def Li(u v:V)(q:P3):ev (lin v u) q= -ev (lin u v) q:=by unfold ev lin;grind
def Lv{D:Nat->Int}:∀{n:Nat},0<=D 1->D (n+2)<0->∃i,1<=i/\i<=n+1/\0<=D i/\D (i+1)<0
 |0,h1,h2=>by grind
 |n+1,h1,h2=>by
  by_cases h:0<=D (n+2)
  .grind
  .obtain⟨i,a,b,c,d⟩:=Lv (n:=n) h1 (by omega);grind
def C5(r:aD):P3:=⟨(nth r 0).x+(nth r 1).x+(nth r 2).x,(nth r 0).y+(nth r 1).y+(nth r 2).y,3⟩
def CR.poly{r:aD}(h:CR r):Poly (j0 r) r (aJ r) (C5 r):=by
 have hl:=h.len;have c0:∀f:P3,ev f (C5 r)=ev f (pt (nth r 0))+ev f (pt (nth r 1))+ev f (pt (nth r 2)):=by intro f;unfold C5 ev pt;grind
 have md:∀i,i<r.length->(i+1) % r.length<r.length:=λi _=>bz _ (by omega);have mdc:∀i,i<r.length->((i+1) % r.length=i+1/\i+1<r.length)\/((i+1) % r.length=0/\i+1=r.length):=λi hi=>by
  by_cases h4:i+1<r.length
  .exact .inl ⟨dh h4,h4⟩
  .have h5:i+1=r.length:=by omega
   simp_all
 refine⟨?_,(show(0:Int)<3 by decide),?_,?_,?_,?_⟩
 .intro f hf v hv;obtain⟨i,hi,rfl⟩:=(rK (by omega)).1 hf;obtain⟨n,hn,rfl⟩:=eL.1 hv;exact h.nonneg hi hn
 .intro f hf;obtain⟨i,hi,rfl⟩:=(rK (by omega)).1 hf;rw[c0];have e0:=h.nonneg hi (show 0<r.length by omega);have e1:=h.nonneg hi (show 1<r.length by omega);have e2:=h.nonneg hi (show 2<r.length by omega);have:(0≠i/\0≠(i+1) % r.length)\/(1≠i/\1≠(i+1) % r.length)\/(2≠i/\2≠(i+1) % r.length):=by rcases mdc i hi with⟨a,b⟩|⟨a,b⟩<;>rw[a] <;>omega
  rcases this with⟨a,b⟩|⟨a,b⟩|⟨a,b⟩
  .have:=h.pos i 0 hi (by omega) a b;omega
  .have:=h.pos i 1 hi (by omega) a b;omega
  .have:=h.pos i 2 hi (by omega) a b;omega
 .intro s hs;unfold aJ at hs;rw[if_neg (by omega)]at hs;obtain⟨i,hi,rfl⟩:=bR.1 hs;have hi:=cD.1 hi;exact⟨eL.2 ⟨i,hi,rfl⟩,eL.2 ⟨_,md i hi,rfl⟩⟩
 .rintro q hq ⟨f,hf,hz⟩ hn;obtain⟨i,hi,rfl⟩:=(rK (by omega)).1 hf;have hj:=md i hi;obtain⟨p,hp,ep⟩:∃p,p<r.length/\(p+1) % r.length=i:=by
   by_cases h0:i=0
   .exact⟨r.length-1,by omega,by rw[h0,Io (by omega),kj]⟩
   .exact⟨i-1,by omega,by grind⟩
  have hk:=md _ hj;have n1:=hn (lin (nth r ((i+1) % r.length)) (nxt r ((i+1) % r.length))) ((rK (by omega)).2 ⟨_,hj,rfl⟩);have n2:=hn (lin (nth r p) (nxt r p)) ((rK (by omega)).2 ⟨_,hp,rfl⟩);have ea:nxt r p=nth r i:=by unfold nxt;rw[ep]
  have eb:nxt r i=nth r ((i+1) % r.length):=rfl;rw[ea]at n2;have K1:0<ev (lin (nth r i) (nxt r i)) (pt (nxt r ((i+1) % r.length))):=by
   refine h.pos i _ hi hk ?_ ?_
   .rcases mdc i hi with⟨a,b⟩|⟨a,b⟩<;>rw[a]
    .rcases mdc (i+1) b with⟨c,d⟩|⟨c,d⟩<;>rw[c] <;>omega
    .rw[dh (by omega)];omega
   .rcases mdc i hi with⟨a,b⟩|⟨a,b⟩<;>rw[a]
    .rcases mdc (i+1) b with⟨c,d⟩|⟨c,d⟩<;>rw[c] <;>omega
    .rw[dh (by omega)];omega
  have K2:0<ev (lin (nth r p) (nth r i)) (pt (nxt r i)):=by
   have:=h.pos p ((i+1) % r.length) hp hj ?_ ?_
   .grind
   .rcases mdc p hp with⟨a,b⟩|⟨a,b⟩
    .rcases mdc i hi with⟨c,d⟩|⟨c,d⟩<;>rw[c] <;>omega
    .have:i=0:=by omega
     rw[dh (by omega)];omega
   .rcases mdc i hi with⟨c,d⟩|⟨c,d⟩<;>rw[c] <;>omega
  have id:=λg=>id3 (nth r i) (nxt r i) (nxt r ((i+1) % r.length)) g q;rw[hz]at id;refine⟨bO r i,?_,ev (lin (nxt r i) (nxt r ((i+1) % r.length))) q,ev (lin (nxt r ((i+1) % r.length)) (nth r i)) q,_,n1,?_,K1,λg=>by rw[id g];rw[zK,oW];rfl⟩
  .unfold aJ;grind
  .have e:=id (lin (nth r p) (nth r i));rw[cX,du,zO,zK,oW]at e;rcases cC (ev (lin (nxt r ((i+1) % r.length)) (nth r i)) q) 0 with h5|h5
   .have:=nK h5 K2;have:=cJ (iy K1) n2;omega
   .exact h5
 .intro q hq g hg;have d1:=hq _ ((rK (by omega)).2 ⟨0,show 0<r.length by omega,rfl⟩);have d2:=hq _ ((rK (by omega)).2 ⟨r.length-1,show r.length-1<r.length by omega,rfl⟩);have e1:nxt r 0=nth r 1:=by unfold nxt;rw[dh (by omega)]
  have e2:nxt r (r.length-1)=nth r 0:=by unfold nxt;rw[Io (by omega),kj]
  rw[e1]at d1;rw[e2]at d2;have d3:=Li (nth r 0) (nth r (r.length-1)) q;obtain⟨i,a,b,c,d⟩:=Lv (D:=λi=>ev (lin (nth r 0) (nth r i)) q) (n:=r.length-3) (iy d1) (by rw[show r.length-3+2=r.length-1 by omega];omega);have hi:i+1<r.length:=by omega
  have K:=h.pos i 0 (by omega) (by omega) (by omega) (by rw[dh hi];omega);have f1:=hq _ ((rK (by omega)).2 ⟨i,show i<r.length by omega,rfl⟩);have en:nxt r i=nth r (i+1):=by unfold nxt;rw[dh hi]
  rw[en]at K f1;rw[<-Yz]at K;have id:=id3 (nth r 0) (nth r i) (nth r (i+1)) g q;have g1:=hg _ (eL.2 ⟨0,show 0<r.length by omega,rfl⟩);have g2:=hg _ (eL.2 ⟨i,show i<r.length by omega,rfl⟩);have g3:=hg _ (eL.2 ⟨i+1,hi,rfl⟩);have d4:=Li (nth r 0) (nth r (i+1)) q;have p1:=cJ (iy f1) (show 0<= -ev g (pt (nth r 0)) by omega);have p2:=cJ (show 0<=ev (lin (nth r (i+1)) (nth r 0)) q by omega) (show 0<= -ev g (pt (nth r i)) by omega);have p3:=cJ c (show 0<= -ev g (pt (nth r (i+1))) by omega);rw[nL]at p1 p2 p3;rcases cC 0 (ev g q)with h1|h1
  .have:=bL K h1;omega
  .exact h1
def bm(r:aD):Bool:=decide (3<=r.length)&&(r.all (λv=>aX v 2000)&&(bM r.length).all λi=>(bM r.length).all λn=>decide (n=i)||decide (n=(i+1) % r.length)||decide (0<turn (nth r i) (nxt r i) (nth r n)))
def CR.of{r:aD}(h:bm r=true):CR r:=by
 unfold bm at h;simp only[bj,decide_eq_true_eq,bh,cD,jQ]at h;obtain⟨h1,h2,h3⟩:=h;refine⟨h1,λi n hi hn e1 e2=> ?_,h2⟩;rcases h3 i hi n hn with(h4|h4)|h4
 .omega
 .omega
 .rw[dt];exact(qM _).1 h4
def ml(r:aD)(p:Pt):Bool:=(aJ r).all λe=>decide (0<(e.b.x-e.a.x)*(p.y-e.a.y*p.den)-(e.b.y-e.a.y)*(p.x-e.a.x*p.den))
def T4(r:aD)(p:Pt):ml r p=true↔∀g∈j0 r,0<ev g ⟨p.x,p.y,p.den⟩:=by
 unfold ml j0;have e:∀s:S,(s.b.x-s.a.x)*(p.y-s.a.y*p.den)-(s.b.y-s.a.y)*(p.x-s.a.x*p.den)=ev (lin s.a s.b) ⟨p.x,p.y,p.den⟩:=by intro s;unfold ev lin;grind
 simp_all
def fA(a b:aD):Bool:=(aJ a).any (λs=>dC s b)||((aJ b).any (λs=>dC s a)||ml b (fT (nth a 0) (nth a 1) (nth a 2)))
def D9{a b:aD}(ha:CR a)(hb:CR b):fA a b= !(j5 a b):=by have A:=ha.poly;have B:=hb.poly;have la:=ha.len;have lb:=hb.len;have h1:=TX A B;have h2:=JV A B;rw[fL];unfold fA j5;simp only[jQ,jd,Uy,T4,Bool.not_eq_true',Bool.or_eq_false_iff];simp only[Xl];show(_\/_\/∀g∈j0 b,0<ev g (C5 a))↔_;have r1:=AW a b (by omega);have r2:=AW b a (by omega);grind
def cv(a b:List aD):Bool:=a.any λr=>b.any λo=>bm r&&(bm o&&fA r o)
def ny(a b:List aD):Bool:=a.any λr=>b.any λo=>bm r&&(bm o&& !(j5 r o))
def MG{α:Type}{p q:α->Bool}:∀{l:List α},(∀x∈l,p x=q x)->l.any p=l.any q
 |[],_=>rfl
 |x::l,h=>by grind
def M5(a b:List aD):cv a b=ny a b:=by
 refine MG λr _=>MG λo _=> ?_;cases h1:bm r
 .rfl
 cases h2:bm o
 .rfl
 rw[D9 (CR.of h1) (CR.of h2)]
end Geo
section
namespace Geo
def rot(r:aD)(k:Nat):aD:=r.drop k++r.take k
def Fa(r:aD)(k:Nat):(rot r k).Perm r:=by refine wo.trans ?_;simp_all
def oj(r:aD)(k:Nat):(rot r k).length=r.length:=(Fa r k).length_eq
def vR{r:aD}{k i:Nat}(hk:k<=r.length)(hi:i<r.length):nth (rot r k) i=nth r ((i+k) % r.length):=by
 unfold rot nth;rw[eI,eI];by_cases h:i<r.length-k
 .rw[oU (by simp;omega),wq,jh (by omega)];grind
 .rw[lO (by simp;omega),List.length_drop,List.getElem?_take,if_pos (by omega),qI (by omega) (by omega)];grind
def BQ(i k n:Nat)(_:0<n):((i+1) % n+k) % n=((i+k) % n+1) % n:=by rw[lP,lP];grind
def F6{r:aD}{k i:Nat}(hk:k<=r.length)(hi:i<r.length):bO (rot r k) i=bO r ((i+k) % r.length):=by unfold bO nxt;rw[oj,vR hk hi,vR hk (bz _ (by omega)),BQ _ _ _ (by omega)]
def XU(r:aD){k:Nat}(hk:k<=r.length):aJ (rot r k)=(aJ r).drop k++(aJ r).take k:=by
 unfold aJ;rw[oj];split
 .simp
 .apply uT
  .simp;omega
  .intro i h1 h2;simp only[List.length_map,List.length_range]at h1;rw[kJ,sf,F6 hk h1];by_cases h:i<r.length-k
   .rw[List.getElem_append_left (by simp;omega),List.getElem_drop,kJ,sf,jh (by omega)];grind
   .rw[List.getElem_append_right (by simp;omega),List.getElem_take,kJ,sf,qI (by omega) (by omega)];grind
def JP(r:aD){k:Nat}(hk:k<=r.length):(aJ (rot r k)).Perm (aJ r):=by rw[XU r hk];refine wo.trans ?_;simp_all
def Ef{r:aD}(h:2<=r.length):area r=((aJ r).map λe=>cross e.a e.b).sum:=by unfold area aJ;rw[if_neg (by omega),dU];rfl
def LR{l m:List Int}(h:l.Perm m):l.sum=m.sum:=by
 induction h with
 |nil=>rfl
 |cons x _ ih=>grind
 |swap x y l=>grind
 |trans _ _ ih1 ih2=>rw[ih1,ih2]
def Zi{r:aD}(h:2<=r.length){k:Nat}(hk:k<=r.length):area (rot r k)=area r:=by rw[Ef h,Ef (by rw[oj];exact h)];exact LR ((JP r hk).map _)
def W9{r q:aD}(h:q.Perm r):near q=near r:=by unfold near;grind
def aAt(i k n:Nat)(_:0<n):((i+2) % n+k) % n=((i+k) % n+2) % n:=by rw[lP,lP];grind
def VR.rot{r:aD}(h:VR r){k:Nat}(hk:k<=r.length):VR (rot r k):=by
 have h3:=h.three;have ht:∀i,i<(Geo.rot r k).length->Geo.turn (nth (Geo.rot r k) i) (nth (Geo.rot r k) ((i+1) % (Geo.rot r k).length)) (nth (Geo.rot r k) ((i+2) % (Geo.rot r k).length))≠0:=by intro i hi;rw[oj]at hi|-;rw[vR hk hi,vR hk (bz _ (by omega)),vR hk (bz _ (by omega)),BQ _ _ _ (by omega),aAt _ _ _ (by omega)];exact h.turn' _ (bz _ (by omega))
 have ha:∀a b,a<r.length->b<r.length->a≠b->b≠(a+1) % r.length->a≠(b+1) % r.length->cF (bO r a) (bO r b)=0:=by
  intro a b h1 h2 h4 h5 h6;have key:∀a b,a<b->b<r.length->b≠(a+1) % r.length->a≠(b+1) % r.length->cF (bO r a) (bO r b)=0:=by
   intro a b h1 h2 h5 h6;refine h.apart a b h1 h2 ?_ ?_
   .rintro rfl;exact h5 (jh h2).symm
   .rintro⟨rfl,rfl⟩;exact h6 (by rw[show r.length-1+1=r.length by omega,kj])
  rcases oZ a b with h7|h7
  .grind
  .rw[mi];grind
 have e1:∀i,i<r.length->(i+1) % r.length=if i+1=r.length then 0 else i+1:=by
  intro i hi;split
  .simp_all
  .exact jh (by omega)
 have hap:∀i j,i<j->j<(Geo.rot r k).length->j≠i+1->¬(i=0/\j=(Geo.rot r k).length-1)->cF (bO (Geo.rot r k) i) (bO (Geo.rot r k) j)=0:=by
  intro i j hij hj h4 h5;rw[oj]at hj h5;rw[F6 hk (by omega),F6 hk hj];have inj:∀x y,x<r.length->y<r.length->(x+k) % r.length=(y+k) % r.length->x=y:=by
   intro x y hx hy e;have hm:∀z,z<r.length->(z+k) % r.length=if z+k<r.length then z+k else z+k-r.length:=by
    intro z hz;split
    .exact jh ‹_›
    .exact qI (by omega) (by omega)
   rw[hm x hx,hm y hy]at e;split at e<;>split at e<;>omega
  refine ha _ _ (bz _ (by omega)) (bz _ (by omega)) ?_ ?_ ?_
  .intro e;have:=inj _ _ (by omega) hj e;omega
  .rw[<-BQ _ _ _ (by omega)];intro e;have:=inj _ _ hj (bz _ (by omega)) e;rw[e1 i (by omega)]at this;grind
  .rw[<-BQ _ _ _ (by omega)];intro e;have:=inj _ _ (by omega) (by grind) e;grind
 have htn:∀i,i<(Geo.rot r k).length->Geo.turn (prv (Geo.rot r k) i) (nth (Geo.rot r k) i) (nxt (Geo.rot r k) i)≠0:=by have:=Eg (Geo.rot r k) (by rw[oj];exact h3);rw[fL,bh,bh]at this;intro i hi;have:=this.2 (by grind) i (by grind);simpa using this
 exact⟨by rw[oj];exact h3,by rw[oj];exact h.most,by rw[W9 (Fa r k)];exact h.near,by rw[Zi (by omega) hk];exact h.area,htn,ht,hap⟩
def Wf(p:Pt)(a b:S)(l:List S)(ins:Bool):eE p (a::b::l) ins=eE p (b::a::l) ins:=by simp only[eE];cases onP a p<;>cases onP b p<;>simp;grind
def Wg(p:Pt){l m:List S}(h:l.Perm m):∀ins,eE p l ins=eE p m ins:=by
 induction h with
 |nil=>omega
 |cons x _ ih=>intro ins;simp only[eE,ih]
 |swap x y l=>intro ins;exact Wf p y x l ins
 |trans _ _ ih1 ih2=>grind
def WN{r:aD}(h:VR r){k:Nat}(hk:k<=r.length)(p:Pt):bg (rot r k) p=bg r p:=by unfold bg;rw[(iF _).2 h,(iF _).2 (h.rot hk),Wg p (JP r hk)]
def J7{r:aD}(h:VR r){k:Nat}(hk:k<=r.length)(v:V):cT (rot r k) v=cT r v:=by unfold cT;rw[WN h hk]
section
variable {s t:Shape} {κ:aD->Nat}
def Kl{p:Pt}:∀{l:List aD},j8 p l 2=2↔∀h∈l,bg h p=0
 |[] =>by simp[j8]
 |h::l=>by
  have hr:bg h p=0\/bg h p=1\/bg h p=2:=by
   unfold bg;split
   .omega
   .exact KJ p _ _
  simp only[j8,bI,forall_eq_or_imp];rw[<-Kl (l:=l)];omega
def AG(s:Shape)(p:Pt):eR s p=2↔(bP s=true/\bg s.outer p=2/\∀h∈s.holes,bg h p=0):=by
 unfold eR;cases bP s with
 |false=>simp
 |true=>
  simp only[mS,lN,if_false,true_and];by_cases h:bg s.outer p=2
  .rw[if_neg (by omega),Kl];simp[h]
  omega
end
end Geo
end
section
namespace Geo
section
variable {u:V}
def N6(l:List S)(f g:S->Int):(l.map λe=>f e+g e).sum=(l.map f).sum+(l.map g).sum:=by
 induction l with
 |nil=>rfl
 |cons x l ih=>grind
def aAa{r:aD}(h:2<=r.length):(aJ r).map S.b=rot r 1:=by
 unfold aJ;rw[if_neg (by omega),dU];apply uT
 .rw[oj];simp
 .intro i h1 h2;rw[oj]at h2;have:=vR (r:=r) (k:=1) (i:=i) (by omega) h2;rw[kJ,sf];show nxt r i=_;unfold nxt;rw[<-this];unfold nth;grind
def Mh{r:aD}(h:2<=r.length):(aJ r).map S.a=r:=by
 unfold aJ;rw[if_neg (by omega),dU];apply uT
 .simp
 .intro i h1 h2;rw[kJ,sf];show nth r i=_;unfold nth;grind
def Fo{r:aD}(h:near r=true){v:V}(hv:v∈r):aX v 2000=true:=by unfold near at h;grind
def V7{r:aD}(h:near r=true){e:S}(he:e∈aJ r):bD e=true:=by obtain⟨_,i,hi,rfl⟩:=i7.1 he;exact jw h i hi
end
section
variable {u:V} {s:Shape}
def aAI(x y:Int)(h:¬(x.tmod 2=0/\y.tmod 2=0)):bB (bB x.natAbs y.natAbs) 2=1:=by
 have hd:bB (bB x.natAbs y.natAbs) 2∣2:=uQ _ _;have hle:=Ik (by omega) hd;have h0:bB (bB x.natAbs y.natAbs) 2≠0:=λe=>by grind
 have h2:bB (bB x.natAbs y.natAbs) 2≠2:=λe=>by have g:=sX (bB x.natAbs y.natAbs) 2;rw[e]at g;exact h ⟨(vC x 2).2 (uR g (sX _ _)),(vC y 2).2 (uR g (uQ _ _))⟩
 omega
def Dm{c:S}(ha:aX c.a 2000=true)(hb:aX c.b 2000=true):cn (gP c)=true:=by
 unfold aX at ha hb;simp only[bj,decide_eq_true_eq]at ha hb;unfold gP;split
 .rename_i h;unfold cn ii aX;simp only[bj,decide_eq_true_eq,beq_iff_eq];obtain⟨k,hk⟩:=Sz.2 h.1;obtain⟨l,hl⟩:=Sz.2 h.2;rw[hk,hl,Int.mul_tdiv_cancel_left _ (by decide),Int.mul_tdiv_cancel_left _ (by decide)];refine⟨by grind,?_⟩;simp_all
 .rename_i h;unfold cn ii aX;simp only[bj,decide_eq_true_eq,beq_iff_eq];exact⟨by grind,aAI _ _ h⟩
def i6(h:VS s){v:V}(hv:v∈bk s):aX v 2000=true:=by obtain⟨r,hr,hv⟩:=lu.1 hv;exact Fo (h.ring hr).near hv
def J3(h:VS s){e:S}(he:e∈ao s):bD e=true:=by obtain⟨r,hr,he⟩:=dG.1 he;exact V7 (h.ring hr).near he
end
end Geo
end
namespace Geo
def qx(p:Pt)(l:List S)(ins:Bool):Bool:=l.foldl (λb s=>b !=dg s p) ins
def MZ{p:Pt}:∀{l:List S} {ins:Bool},eE p l ins=2->qx p l ins=true
 |[],ins,h=>by unfold eE at h;unfold qx;grind
 |s::l,ins,h=>by
  unfold eE at h;split at h
  .omega
  .exact MZ (l:=l) (ins:=ins !=dg s p) h
def Mr{p:Pt}:∀{l:List S} {ins:Bool},(∀s∈l,dg s p=false)->qx p l ins=ins
 |[],_,_=>rfl
 |s::l,ins,h=>by
  show qx p l (ins !=dg s p)=ins;rw[Mr (by grind),h s (by grind)];simp_all
def dp(l:List Bool):Bool:=l.foldr (λa b=>a !=b) false
def Xy{l m:List Bool}(h:l.Perm m):dp l=dp m:=by
 induction h with
 |nil=>rfl
 |cons x _ ih=>show(x !=dp _)=(x !=dp _);rw[ih]
 |swap x y l=>show(y !=(x !=dp l))=(x !=(y !=dp l));cases x<;>cases y<;>cases dp l<;>rfl
 |trans _ _ ih1 ih2=>rw[ih1,ih2]
def OV{p:Pt}(f:V->Bool):∀{l:List S} {ins:Bool},(∀s∈l,dg s p=(f s.a !=f s.b))->qx p l ins=(ins !=(dp (l.map λs=>f s.a) !=dp (l.map λs=>f s.b)))
 |[],ins,_=>by cases ins<;>rfl
 |s::l,ins,h=>by
  show qx p l (ins !=dg s p)=_;rw[OV f (by grind),h s (by grind)];show _=(ins !=((f s.a !=dp _) !=(f s.b !=dp _)));cases ins<;>cases f s.a<;>cases f s.b<;>cases dp (l.map λs=>f s.a)<;>cases dp (l.map λs=>f s.b)<;>rfl
def FN{r:aD}(h:2<=r.length)(f:V->Bool):dp ((aJ r).map λs=>f s.a)=dp ((aJ r).map λs=>f s.b):=by have h1:((aJ r).map λe=>f e.b)=(rot r 1).map f:=(dU (f:=S.b) (g:=f) (l:=aJ r)).symm.trans (by rw[aAa h]);have h2:((aJ r).map λe=>f e.a)=r.map f:=(dU (f:=S.a) (g:=f) (l:=aJ r)).symm.trans (by rw[Mh h]);rw[h1,h2];exact Xy ((Fa r 1).map f).symm
def i8{r:aD}{e:S}(he:e∈aJ r):e.a∈r/\e.b∈r:=by obtain⟨_,i,hi,rfl⟩:=i7.1 he;exact⟨eL.2 ⟨i,hi,rfl⟩,eL.2 ⟨_,bz _ (by omega),rfl⟩⟩
def MT(s:S)(p:Pt)(h:p.den=1):fP s p=(toV p s.a).x*(toV p s.b).y-(toV p s.a).y*(toV p s.b).x:=by unfold fP toV cross sub;grind
def Ct{x y:Int}:(0<x->0<=y->0<=x*y)/\(0<x->y<0->x*y<0)/\(x<0->0<=y->x*y<=0)/\(x<0->y<0->0<x*y):=by refine⟨λh1 h2=>cJ (by omega) h2,λh1 h2=>fz h1 h2,λh1 h2=>S8 (by omega) h2,λh1 h2=>wh h1 h2⟩
def XK{s:S}{p:Pt}(hd:p.den=1)(ha:0<(toV p s.a).x)(hb:0<(toV p s.b).x):dg s p=false:=by unfold dg;rw[MT s p hd];generalize (toV p s.a).x=X1 at*;generalize (toV p s.b).x=X2 at*;generalize (toV p s.a).y=Y1;generalize (toV p s.b).y=Y2;have a:= @Ct X1 Y2;have b:= @Ct X2 Y1;grind
def ZB{s:S}{p:Pt}(hd:p.den=1)(ha:(toV p s.a).x<0)(hb:(toV p s.b).x<0):dg s p=(decide (0<=(toV p s.a).y) !=decide (0<=(toV p s.b).y)):=by unfold dg;rw[MT s p hd];generalize (toV p s.a).x=X1 at*;generalize (toV p s.b).x=X2 at*;generalize (toV p s.a).y=Y1;generalize (toV p s.b).y=Y2;have a:= @Ct X1 Y2;have b:= @Ct X2 Y1;grind
def Qg{s:S}{p:Pt}(h:decide (0<=(toV p s.a).y)=decide (0<=(toV p s.b).y)):dg s p=false:=by unfold dg;rw[h];simp
def Vk{r:aD}(h2:2<=r.length){v:V}(h:cT r v=2):(∃a∈r,a.x<=v.x)/\(∃a∈r,v.x<=a.x)/\(∃a∈r,a.y<=v.y)/\(∃a∈r,v.y<=a.y):=by
 unfold cT bg at h;split at h
 .omega
 split at h
 .omega
 have hp:=MZ h;have no:¬∀s∈aJ r,dg s (dq v)=false:=λhn=>by rw[Mr hn]at hp;cases hp
 have tx:∀a:V,(toV (dq v) a).x=v.x-a.x:=λa=>by unfold toV dq;simp
 have ty:∀a:V,(toV (dq v) a).y=v.y-a.y:=λa=>by unfold toV dq;simp
 refine⟨dQ λhn=> ?_,dQ λhn=> ?_,dQ λhn=> ?_,dQ λhn=> ?_⟩
 .have hl:∀a∈r,v.x<a.x:=by grind
  rw[OV (λa=>decide (0<=(toV (dq v) a).y)) (λs hs=>ZB rfl (by rw[tx];have:=hl _ (i8 hs).1;omega) (by rw[tx];have:=hl _ (i8 hs).2;omega))]at hp;have hx:=FN h2 (λa=>decide (0<=(toV (dq v) a).y));grind
 .have hl:∀a∈r,a.x<v.x:=by grind
  exact no λs hs=>XK rfl (by rw[tx];have:=hl _ (i8 hs).1;omega) (by rw[tx];have:=hl _ (i8 hs).2;omega)
 .have hl:∀a∈r,v.y<a.y:=by grind
  exact no λs hs=>Qg (by have:=hl _ (i8 hs).1;have:=hl _ (i8 hs).2;grind)
 .have hl:∀a∈r,a.y<v.y:=by grind
  exact no λs hs=>Qg (by have:=hl _ (i8 hs).1;have:=hl _ (i8 hs).2;grind)
end Geo
section
namespace Geo
def ln(p q:P3):P3:=⟨p.y*q.d-p.d*q.y,p.d*q.x-p.x*q.d,p.x*q.y-p.y*q.x⟩
def aBI(u v:V):lin u v=ln (pt u) (pt v):=by unfold lin ln pt;grind
def Gm(p q:P3):ev (ln p q) p=0:=by unfold ev ln;grind
def Bl(p q:P3):ev (ln p q) q=0:=by unfold ev ln;grind
def nnl{a k:Int}(hk:0<k)(h:0<=a*k):0<=a:=by
 rcases cC a 0 with g|g
 .have:=nK g hk;omega
 .exact g
def npl{a k:Int}(hk:0<k)(h:a*k<=0):a<=0:=by
 rcases cC 0 a with g|g
 .have:=bL g hk;omega
 .exact g
def mpp{a b:Int}(ha:0<=a)(hb:0<=b):0<=a*b:=cJ ha hb
def mpn{a b:Int}(ha:0<=a)(hb:b<=0):a*b<=0:=Int.mul_nonpos_of_nonneg_of_nonpos ha hb
def mnp{a b:Int}(ha:a<=0)(hb:0<=b):a*b<=0:=S8 ha hb
def mnn{a b:Int}(ha:a<=0)(hb:b<=0):0<=a*b:=Int.mul_nonneg_of_nonpos_of_nonpos ha hb
def dn(p:P3)(w:V):Bool:=decide (w.y*p.d<=p.y)
def hit(p:P3)(e:S):Bool:=(dn p e.a !=dn p e.b)&&(dn p e.a==decide (0<ev (lin e.a e.b) p))
def ZC(e:S)(p:Pt):dg e p=hit ⟨p.x,p.y,p.den⟩ e:=by
 unfold dg hit dn;have e1:∀w:V,decide (0<=(toV p w).y)=decide (w.y*p.den<=p.y):=λw=>decide_eq_decide.2 (by unfold toV;grind);have e2:fP e p=ev (lin e.a e.b) ⟨p.x,p.y,p.den⟩:=by unfold fP cross sub toV ev lin;grind
 grind
def fY(e:S)(p q:P3):Prop:=∃x y s t:Int,0<=x/\0<=y/\0<x+y/\0<=s/\0<=t/\cmb x (pt e.a) y (pt e.b)=cmb s p t q
section
variable {u v:V} {p q:P3}
def gc(u v:V)(p q:P3):cmb (ev (ln p q) (pt v)) (pt u) (-(ev (ln p q) (pt u))) (pt v)=cmb (-(ev (lin u v) q)) p (ev (lin u v) p) q:=by unfold cmb ev ln lin pt;grind
def IT(u v:V)(p q:P3):ev (ln p q) (pt v)*(u.y*p.d-p.y)-ev (ln p q) (pt u)*(v.y*p.d-p.y)=ev (lin u v) p*(q.y*p.d-p.y*q.d):=by unfold ev ln lin pt;grind
def IS(u v:V)(p q:P3):ev (ln p q) (pt v)*(u.y*q.d-q.y)-ev (ln p q) (pt u)*(v.y*q.d-q.y)=ev (lin u v) q*(q.y*p.d-p.y*q.d):=by unfold ev ln lin pt;grind
def aEb(u v:V)(p q:P3):ev (ln p q) (pt v)-ev (ln p q) (pt u)=ev (lin u v) p*q.d-ev (lin u v) q*p.d:=by unfold ev ln lin pt;grind
def yt(h1:0<=ev (lin u v) p)(h2:ev (lin u v) q<=0)(h3:0<=ev (ln p q) (pt v))(h4:ev (ln p q) (pt u)<=0)(h5:ev (ln p q) (pt u)<ev (ln p q) (pt v)):fY ⟨u,v⟩ p q:=
 ⟨_,_,_,_,h3,by omega,by omega,by omega,h1,gc u v p q⟩
def Cf(h1:ev (lin u v) p<=0)(h2:0<=ev (lin u v) q)(h3:ev (ln p q) (pt v)<=0)(h4:0<=ev (ln p q) (pt u))(h5:ev (ln p q) (pt v)<ev (ln p q) (pt u)):fY ⟨u,v⟩ p q:=by refine⟨-(ev (ln p q) (pt v)),ev (ln p q) (pt u),ev (lin u v) q,-(ev (lin u v) p),by omega,by omega,by omega,by omega,by omega,?_⟩;have:=gc u v p q;unfold cmb at this|-;grind
def rgt(p q:P3)(w:V):Bool:=dn q w&& !dn p w&&decide (ev (ln p q) (pt w)<0)
def fY.swap{u v:V}{p q:P3}(h:fY ⟨u,v⟩ p q):fY ⟨v,u⟩ p q:=by obtain⟨x,y,s,t,h1,h2,h3,h4,h5,h6⟩:=h;refine⟨y,x,s,t,h2,h1,by omega,h4,h5,?_⟩;rw[<-h6];unfold cmb;grind
def fY.flip{e:S}{p q:P3}(h:fY e p q):fY e q p:=by obtain⟨x,y,s,t,h1,h2,h3,h4,h5,h6⟩:=h;refine⟨x,y,t,s,h1,h2,h3,h5,h4,?_⟩;rw[h6];unfold cmb;grind
def jy(u v:V)(p:P3):ev (lin v u) p= -ev (lin u v) p:=by unfold ev lin;grind
def low(hp:0<p.d)(hq:0<q.d)(hm:¬fY ⟨u,v⟩ p q)(a:u.y*p.d<=p.y)(b:p.y<v.y*p.d)(c:u.y*q.d<=q.y)(d:v.y*q.d<=q.y):
  0<ev (lin u v) p↔ev (ln p q) (pt v)<0:=by
 have i1:=IT u v p q;have i2:=IS u v p q;have hK:0<q.y*p.d-p.y*q.d:=by
  have e:q.y*p.d-p.y*q.d=(v.y*p.d-p.y)*q.d-(v.y*q.d-q.y)*p.d:=by grind
  have:=bL (show 0<v.y*p.d-p.y by omega) hq;have:=mnp (show v.y*q.d-q.y<=0 by omega) (show 0<=p.d by omega);omega
 have m1:= @yt u v p q;have m2:= @Cf u v p q;generalize ev (lin u v) p=A at*;generalize ev (lin u v) q=B at*;generalize ev (ln p q) (pt u)=C at*;generalize ev (ln p q) (pt v)=D at*;generalize q.y*p.d-p.y*q.d=K at*;constructor
 .intro hA;refine dQ λhn=> ?_;have hDn:0<=D:=by omega
  have s1:=mpn hDn (show u.y*p.d-p.y<=0 by omega);have s2:=bL hA hK;have s3:0<=(-C)*(v.y*p.d-p.y):=by rw[od];omega
  have hCn:C<=0:=by have:=nnl (by grind) s3;omega
  have s4:=mpn hDn (show u.y*q.d-q.y<=0 by omega);have s5:=mnn hCn (show v.y*q.d-q.y<=0 by omega);have hBn:B<=0:=npl hK (by omega);grind
 .refine dQ λhn=> ?_;have hAn:A<=0:=by omega
  have s1:=mnn (show D<=0 by omega) (show u.y*p.d-p.y<=0 by omega);have s2:=mnp hAn (show 0<=K by omega);have hCn:0<=C:=nnl (show 0<v.y*p.d-p.y by omega) (by omega);have s4:=mnn (show D<=0 by omega) (show u.y*q.d-q.y<=0 by omega);have s5:=mpn hCn (show v.y*q.d-q.y<=0 by omega);have hBn:0<=B:=nnl hK (by omega);grind
def Sm(hp:0<p.d)(hq:0<q.d)(hm:¬fY ⟨u,v⟩ p q)(a:p.y<u.y*p.d)(b:p.y<v.y*p.d)(c:u.y*q.d<=q.y)(d:q.y<v.y*q.d):
  0<ev (lin u v) q↔ev (ln p q) (pt u)<0:=by
 have i1:=IT u v p q;have i2:=IS u v p q;have hK:0<q.y*p.d-p.y*q.d:=by
  have e:q.y*p.d-p.y*q.d=(u.y*p.d-p.y)*q.d-(u.y*q.d-q.y)*p.d:=by grind
  have:=bL (show 0<u.y*p.d-p.y by omega) hq;have:=mnp (show u.y*q.d-q.y<=0 by omega) (show 0<=p.d by omega);omega
 have m1:= @yt u v p q;have m2:= @Cf u v p q;generalize ev (lin u v) p=A at*;generalize ev (lin u v) q=B at*;generalize ev (ln p q) (pt u)=C at*;generalize ev (ln p q) (pt v)=D at*;generalize q.y*p.d-p.y*q.d=K at*;constructor
 .intro hB;refine dQ λhn=> ?_;have hC:0<=C:=by omega
  have s1:=bL hB hK;have s2:=mpp hC (show 0<=v.y*q.d-q.y by omega);have hD:D<0:=by
   rcases cC D 0 with g|g
   .exact g
   .have:=mpn g (show u.y*q.d-q.y<=0 by omega);omega
  have s4:=mnp (show D<=0 by omega) (show 0<=u.y*p.d-p.y by omega);have s5:=mpp hC (show 0<=v.y*p.d-p.y by omega);have hA:A<=0:=npl hK (by omega);grind
 .intro hC;refine dQ λhn=> ?_;have hB:B<=0:=by omega
  have s1:=mnp hB (show 0<=K by omega);have s3:=nK hC (show 0<v.y*q.d-q.y by omega);have hD:0<D:=by
   rcases cC 0 D with g|g
   .exact g
   .have:=mnn g (show u.y*q.d-q.y<=0 by omega);omega
  have s4:=mpp (show 0<=D by omega) (show 0<=u.y*p.d-p.y by omega);have s5:=mnp (show C<=0 by omega) (show 0<=v.y*p.d-p.y by omega);have hA:0<=A:=nnl hK (by omega);grind
def mid(hp:0<p.d)(hq:0<q.d)(hm:¬fY ⟨u,v⟩ p q)(a:p.y<u.y*p.d)(b:p.y<v.y*p.d)(c:u.y*q.d<=q.y)(d:v.y*q.d<=q.y):
  ¬(ev (ln p q) (pt u)<0/\0<=ev (ln p q) (pt v)):=by
 rintro⟨hC,hD⟩;have i1:=IT u v p q;have i2:=IS u v p q;have hK:0<q.y*p.d-p.y*q.d:=by
  have e:q.y*p.d-p.y*q.d=(u.y*p.d-p.y)*q.d-(u.y*q.d-q.y)*p.d:=by grind
  have:=bL (show 0<u.y*p.d-p.y by omega) hq;have:=mnp (show u.y*q.d-q.y<=0 by omega) (show 0<=p.d by omega);omega
 have m1:= @yt u v p q;generalize ev (lin u v) p=A at*;generalize ev (lin u v) q=B at*;generalize ev (ln p q) (pt u)=C at*;have s1:=mpp hD (show 0<=u.y*p.d-p.y by omega);have s2:=mnp (show C<=0 by omega) (show 0<=v.y*p.d-p.y by omega);have hA:0<=A:=nnl hK (by omega);have s3:=mpn hD (show u.y*q.d-q.y<=0 by omega);have s4:=mnn (show C<=0 by omega) (show v.y*q.d-q.y<=0 by omega);have hB:B<=0:=npl hK (by omega);grind
def Qt(hp:0<p.d)(hq:0<q.d)(hm:¬fY ⟨u,v⟩ p q)(a:u.y*p.d<=p.y)(b:p.y<v.y*p.d)(c:u.y*q.d<=q.y)(d:q.y<v.y*q.d):
  (0<ev (lin u v) p↔0<ev (lin u v) q):=by
 have j1:ev (lin u v) p*(q.y-u.y*q.d)-ev (lin u v) q*(p.y-u.y*p.d)= -(ev (ln p q) (pt u))*(v.y-u.y):=by unfold ev ln lin pt;grind
 have j2:ev (lin u v) p*(q.y-v.y*q.d)-ev (lin u v) q*(p.y-v.y*p.d)= -(ev (ln p q) (pt v))*(v.y-u.y):=by unfold ev ln lin pt;grind
 have hv:0<v.y-u.y:=by
  have h1:0<(v.y-u.y)*p.d:=by rw[Int.sub_mul];omega
  rcases cC 0 (v.y-u.y)with g|g
  .exact g
  .have:=mnp g (show 0<=p.d by omega);omega
 have m1:= @yt u v p q;have m2:= @Cf u v p q;generalize ev (lin u v) p=A at*;generalize ev (lin u v) q=B at*;generalize ev (ln p q) (pt u)=C at*;generalize ev (ln p q) (pt v)=D at*;constructor
 .intro hA;refine dQ λhn=> ?_;have hB:B<=0:=by omega
  have s1:=mpp (show 0<=A by omega) (show 0<=q.y-u.y*q.d by omega);have s2:=mnp hB (show 0<=p.y-u.y*p.d by omega);have hC:0<= -C:=nnl hv (by omega);have s3:=fz hA (show q.y-v.y*q.d<0 by omega);have s4:=mnn hB (show p.y-v.y*p.d<=0 by omega);have hD:0<=D:=nnl hv (by grind);grind
 .intro hB;refine dQ λhn=> ?_;have hA:A<=0:=by omega
  have s1:=mnp hA (show 0<=q.y-u.y*q.d by omega);have s2:=mpp (show 0<=B by omega) (show 0<=p.y-u.y*p.d by omega);have hC:0<=C:=nnl hv (by grind);have s3:=mnn hA (show q.y-v.y*q.d<=0 by omega);have s4:=fz hB (show p.y-v.y*p.d<0 by omega);have hD:0<= -D:=nnl hv (by omega);grind
def aAl{r:P3}(hr:0<r.d)(h0:ev (lin u v) r=0)(h:dn r u≠dn r v):∃x y k:Int,0<=x/\0<=y/\0<x+y/\0<=k/\cmb x (pt u) y (pt v)=⟨k*r.x,k*r.y,k*r.d⟩:=by
 unfold dn at h;have hk:∀{a b:Int},a*r.d<b*r.d->0<=b-a:=λ{a b} g=>by have:=nnl (a:=b-a) hr (by grind);exact this
 unfold ev lin at h0;by_cases h1:u.y*r.d<=r.y<;>by_cases h2:v.y*r.d<=r.y
 .grind
 .refine⟨v.y*r.d-r.y,r.y-u.y*r.d,v.y-u.y,by omega,by omega,by omega,hk (by omega),?_⟩;unfold cmb pt;grind
 .refine⟨r.y-v.y*r.d,u.y*r.d-r.y,u.y-v.y,by omega,by omega,by omega,hk (by omega),?_⟩;unfold cmb pt;grind
 grind
def ZA(hp:0<p.d)(hq:0<q.d)(hy:p.y*q.d<=q.y*p.d)(hm:¬fY ⟨u,v⟩ p q):(hit p ⟨u,v⟩ !=hit q ⟨u,v⟩)=(rgt p q u !=rgt p q v):=by
 have mono:∀w:V,dn p w=true->dn q w=true:=λw h=>by
  unfold dn at h|-;rw[decide_eq_true_eq]at h|-;have h1:=ls h (show 0<=q.d by omega);have h2:(w.y*q.d)*p.d<=q.y*p.d:=by rw[show w.y*q.d*p.d=w.y*p.d*q.d by grind];omega
  simp_all
 have hm':¬fY ⟨v,u⟩ p q:=λh=>hm h.swap;have dT:∀{r:P3} {w:V},dn r w=true->w.y*r.d<=r.y:=λh=>of_decide_eq_true h;have dF:∀{r:P3} {w:V},dn r w=false->r.y<w.y*r.d:=λh=>rA.1 (of_decide_eq_false h);have sw:∀r:P3,(0<ev (lin v u) r↔ev (lin u v) r<0):=λr=>by rw[jy];omega
 have nz:∀r:P3,(r=p\/r=q)->dn r u≠dn r v->ev (lin u v) r≠0:=λr hr hne h0=>by
  obtain⟨x,y,k,h1,h2,h3,h4,h5⟩:=aAl (by grind) h0 hne;rcases hr with rfl|rfl
  .exact hm ⟨x,y,k,0,h1,h2,h3,h4,kk _,by rw[h5];unfold cmb;simp⟩
  .exact hm ⟨x,y,0,k,h1,h2,h3,kk _,h4,by rw[h5];unfold cmb;simp⟩
 unfold hit rgt;cases a:dn p u<;>cases b:dn p v<;>cases c:dn q u<;>cases d:dn q v<;>simp only[Il,Bool.and_false,jM,oc,bne_self_eq_false,mS,se,sZ,wu,wv];all_goals have np:=nz p (.inl rfl)
 all_goals have nq:=nz q (.inr rfl)
 all_goals rw[a,b]at np
 all_goals rw[c,d]at nq
 all_goals have sp:=sw p
 all_goals have sq:=sw q
 case false.false.false.true=>
  have h:=Sm hp hq hm' (dF b) (dF a) (dT d) (dF c);grind
 case false.false.true.false=>
  have h:=Sm hp hq hm (dF a) (dF b) (dT c) (dF d);grind
 case false.false.true.true=>
  have h:=mid hp hq hm (dF a) (dF b) (dT c) (dT d);have h':=mid hp hq hm' (dF b) (dF a) (dT d) (dT c);grind
 case false.true.false.true=>
  have h:=Qt hp hq hm' (dT b) (dF a) (dT d) (dF c);grind
 case true.false.true.false=>
  have h:=Qt hp hq hm (dT a) (dF b) (dT c) (dF d);grind
 case false.true.true.true=>
  have h:=low hp hq hm' (dT b) (dF a) (dT d) (dT c);grind
 case true.false.true.true=>
  have h:=low hp hq hm (dT a) (dF b) (dT c) (dT d);grind
 case false.true.false.false=>grind
 case false.true.true.false=>grind
 case true.false.false.false=>grind
 case true.false.false.true=>grind
 case true.true.false.true=>grind
 grind
def Ls{e:S}(hp:0<p.d)(hq:0<q.d)(hy:p.y*q.d<=q.y*p.d)(hm:¬fY e p q):(hit p e !=hit q e)=(rgt p q e.a !=rgt p q e.b):=ZA hp hq hy hm
end
def cK(r:aD)(p:P3):Bool:=dp ((aJ r).map (hit p))
def vP(f g:S->Bool):∀l:List S,dp (l.map λe=>f e !=g e)=(dp (l.map f) !=dp (l.map g))
 |[] =>rfl
 |e::l=>by
  show((f e !=g e) !=dp (l.map λe=>f e !=g e))=((f e !=dp (l.map f)) !=(g e !=dp (l.map g)));rw[vP f g l];cases f e<;>cases g e<;>cases dp (l.map f)<;>cases dp (l.map g)<;>rfl
def vI{r:aD}(h2:2<=r.length){p q:P3}(hp:0<p.d)(hq:0<q.d)(hm:∀e∈aJ r,¬fY e p q):cK r p=cK r q:=by
 have key:∀{p q:P3},0<p.d->0<q.d->p.y*q.d<=q.y*p.d->(∀e∈aJ r,¬fY e p q)->cK r p=cK r q:=by
  intro p q hp hq hy hm;have h1:dp ((aJ r).map λe=>hit p e !=hit q e)=dp ((aJ r).map λe=>rgt p q e.a !=rgt p q e.b):=by
   congr 1
   apply mU;intro e he;exact Ls hp hq hy (hm e he)
  rw[vP,vP,FN h2]at h1;unfold cK;generalize dp ((aJ r).map (hit p))=x at*;generalize dp ((aJ r).map (hit q))=y at*;cases x<;>cases y<;>simp at h1|-
 rcases wn (p.y*q.d) (q.y*p.d)with h|h
 .grind
 .exact(key hq hp h λe he hm2=>hm e he hm2.flip).symm
def Ms(p:Pt):∀(l:List S) (ins:Bool),qx p l ins=(ins !=dp (l.map λe=>dg e p))
 |[],ins=>by cases ins<;>rfl
 |e::l,ins=>by
  show qx p l (ins !=dg e p)=(ins !=(dg e p !=dp (l.map λe=>dg e p)));rw[Ms p l];simp_all
def OG{p:Pt}:∀{l:List S} {ins:Bool},(∀e∈l,onP e p=false)->eE p l ins=if qx p l ins then 2 else 0
 |[],ins,_=>rfl
 |e::l,ins,h=>by
  unfold eE;rw[h e (by grind)];exact OG (l:=l) (ins:=ins !=dg e p) (by grind)
def p3(p:Pt):P3:=⟨p.x,p.y,p.den⟩
def Ai{r:aD}(hv:VR r){p:Pt}(hp:cn p=true)(ho:∀e∈aJ r,onP e p=false):bg r p=if cK r (p3 p)then 2 else 0:=by unfold bg;rw[(iF _).2 hv,hp];show eE p (aJ r) false=_;rw[OG ho,Ms];unfold cK p3;simp only[ZC,sZ]
end Geo
end
namespace Geo
def rn(h p:P3):ev ⟨-h.x,-h.y,-h.d⟩ p= -ev h p:=by unfold ev;grind
def CH(k c:Int)(h p:P3):ev ⟨k*h.x,k*h.y,k*h.d+c⟩ p=k*ev h p+c*p.d:=by unfold ev;grind
def MY{u v:V}{p q:P3}(hp:0<p.d)(hq:0<q.d)(h:P3)(hu:ev h (pt u)=0)(hv:ev h (pt v)=0)(h1:ev h p<0)(h2:ev h q<0):∃f:P3,ev f p<0/\ev f q<0/\0<ev f (pt u)/\0<ev f (pt v):=by
 refine⟨⟨(p.d+q.d)*h.x,(p.d+q.d)*h.y,(p.d+q.d)*h.d+1⟩,?_,?_,?_,?_⟩<;>rw[CH]
 .have:=dS (show ev h p<= -1 by omega) (show 0<=p.d+q.d by omega);omega
 .have:=dS (show ev h q<= -1 by omega) (show 0<=p.d+q.d by omega);omega
 .rw[hu];show 0<(p.d+q.d)*0+1*1;omega
 .rw[hv];show 0<(p.d+q.d)*0+1*1;omega
def OE{u v:V}{p q:P3}(hp:0<p.d)(hq:0<q.d)(h:P3)(h1:ev h p=0)(h2:ev h q=0)(hu:0<ev h (pt u))(hv:0<ev h (pt v)):∃f:P3,ev f p<0/\ev f q<0/\0<ev f (pt u)/\0<ev f (pt v):=by
 refine⟨⟨2*h.x,2*h.y,2*h.d+ -1⟩,?_,?_,?_,?_⟩<;>rw[CH]
 .omega
 .omega
 .show 0<2*ev h (pt u)+ -1*1;omega
 .show 0<2*ev h (pt v)+ -1*1;omega
def ae(u v:V):P3:=⟨v.x-u.x,v.y-u.y,-((v.x-u.x)*u.x+(v.y-u.y)*u.y)⟩
def bo(u v:V):Int:=(v.x-u.x)*(v.x-u.x)+(v.y-u.y)*(v.y-u.y)
def k9(u v:V):ev (ae u v) (pt u)=0:=by unfold ev ae pt;grind
def qQ(u v:V):ev (ae u v) (pt v)=bo u v:=by unfold ev ae pt bo;grind
def mh(x:Int):0<=x*x:=by
 rcases wn 0 x with h|h
 .exact mpp h h
 .exact mnn h h
def PZ{x:Int}(h:x≠0):0<x*x:=by
 rcases mR h with g|g
 .exact wh g g
 .exact bL g g
def i9{u v:V}(h:u≠v):0<bo u v:=by
 unfold bo;have h1:=mh (v.x-u.x);have h2:=mh (v.y-u.y);by_cases hx:v.x-u.x=0
 .by_cases hy:v.y-u.y=0
  .exfalso;cases u;cases v;grind
  .have:=PZ hy;omega
 .have:=PZ hx;omega
def lS{u v:V}{r:P3}(h:ev (lin u v) r=0):cmb (bo u v*r.d-ev (ae u v) r) (pt u) (ev (ae u v) r) (pt v)=⟨bo u v*r.x,bo u v*r.y,bo u v*r.d⟩:=by unfold ev lin at h;unfold cmb ev ae pt bo;grind
def sep{u v:V}{p q:P3}(hp:0<p.d)(hq:0<q.d)(hne:u≠v)(hm:¬fY ⟨u,v⟩ p q):∃f:P3,ev f p<0/\ev f q<0/\0<ev f (pt u)/\0<ev f (pt v):=by
 have hd:=aEb u v p q;have m1:= @yt u v p q;have m2:= @Cf u v p q;have a1:=cH u v;have a2:=cX u v;have b1:=Gm p q;have b2:=Bl p q;have L:=i9 hne;have T1:=k9 u v;have T2:=qQ u v;by_cases c1:0<ev (lin u v) p/\0<ev (lin u v) q
 .exact MY hp hq ⟨-(lin u v).x,-(lin u v).y,-(lin u v).d⟩ (by rw[rn];omega) (by rw[rn];omega) (by rw[rn];omega) (by rw[rn];omega)
 by_cases c2:ev (lin u v) p<0/\ev (lin u v) q<0
 .exact MY hp hq (lin u v) a1 a2 c2.1 c2.2
 by_cases c3:0<ev (ln p q) (pt u)/\0<ev (ln p q) (pt v)
 .exact OE hp hq (ln p q) b1 b2 c3.1 c3.2
 by_cases c4:ev (ln p q) (pt u)<0/\ev (ln p q) (pt v)<0
 .exact OE hp hq ⟨-(ln p q).x,-(ln p q).y,-(ln p q).d⟩ (by rw[rn];omega) (by rw[rn];omega) (by rw[rn];omega) (by rw[rn];omega)
 have hz:ev (lin u v) p=0/\ev (lin u v) q=0:=by
  have q1:ev (lin u v) p=0\/0<ev (lin u v) p\/ev (lin u v) p<0:=by omega
  have q2:ev (lin u v) q=0\/0<ev (lin u v) q\/ev (lin u v) q<0:=by omega
  have e1:∀{x k:Int},0<k->0<x->0<x*k:=λh1 h2=>bL h2 h1;have e2:∀{x k:Int},0<k->x<0->x*k<0:=λh1 h2=>nK h2 h1;have p1:= @e1 (ev (lin u v) p) q.d hq;have p2:= @e2 (ev (lin u v) p) q.d hq;have p3:= @e1 (ev (lin u v) q) p.d hp;have p4:= @e2 (ev (lin u v) q) p.d hp;have z1:ev (lin u v) p=0->ev (lin u v) p*q.d=0:=λh=>by grind
  have z2:ev (lin u v) q=0->ev (lin u v) q*p.d=0:=λh=>by grind
  have m1:0<=ev (lin u v) p->ev (lin u v) q<=0->0<=ev (ln p q) (pt v)->ev (ln p q) (pt u)<=0->¬ev (ln p q) (pt u)<ev (ln p q) (pt v):=by grind
  have m2:ev (lin u v) p<=0->0<=ev (lin u v) q->ev (ln p q) (pt v)<=0->0<=ev (ln p q) (pt u)->¬ev (ln p q) (pt v)<ev (ln p q) (pt u):=by grind
  generalize ev (lin u v) p*q.d=AQ at*;generalize ev (lin u v) q*p.d=BP at*;rcases q1 with h|h|h<;>rcases q2 with g|g|g<;>simp only[h,g,true_implies]at p1 p2 p3 p4 z1 z2<;>omega
 have op:=lS hz.1;have oq:=lS hz.2;generalize hTp:ev (ae u v) p=Tp at*;generalize hTq:ev (ae u v) q=Tq at*;generalize bo u v=K at*;have np:Tp<0\/K*p.d<Tp:=by refine dQ λhn=> ?_;have hKp:=bL L hp;refine hm ⟨_,_,K,0,show 0<=K*p.d-Tp by omega,show 0<=Tp by omega,by omega,by omega,by omega,?_⟩;rw[op];unfold cmb;simp only[P3.mk.injEq];refine⟨?_,?_,?_⟩<;>omega
 have nq:Tq<0\/K*q.d<Tq:=by refine dQ λhn=> ?_;have hKq:=bL L hq;refine hm ⟨_,_,0,K,show 0<=K*q.d-Tq by omega,show 0<=Tq by omega,by omega,by omega,by omega,?_⟩;rw[oq];unfold cmb;simp only[P3.mk.injEq];refine⟨?_,?_,?_⟩<;>omega
 have hKp:=bL L hp;have hKq:=bL L hq;have nu:¬(Tp<0/\0<Tq)/\¬(0<Tp/\Tq<0):=by
  unfold cmb pt at op oq;simp only[P3.mk.injEq]at op oq;refine⟨λh=> ?_,λh=> ?_⟩
  .have x1:=bL h.2 hKp;have x2:=nK h.1 hKq;refine hm ⟨Tq*(K*p.d)-Tp*(K*q.d),0,K*Tq,-(K*Tp),by omega,by omega,by omega,mpp (by omega) (by omega),by rw[<-nL];exact mpp (by omega) (by omega),?_⟩;unfold cmb pt;grind
  .have x1:=bL h.1 hKq;have x2:=nK h.2 hKp;refine hm ⟨Tp*(K*q.d)-Tq*(K*p.d),0,-(K*Tq),K*Tp,by omega,by omega,by omega,by rw[<-nL];exact mpp (by omega) (by omega),mpp (by omega) (by omega),?_⟩;unfold cmb pt;grind
 have up:0<(p.d+q.d)*K:=by grind
 by_cases hb:Tp<0
 .refine⟨⟨(p.d+q.d)*(ae u v).x,(p.d+q.d)*(ae u v).y,(p.d+q.d)*(ae u v).d+1⟩,?_,?_,?_,?_⟩<;>rw[CH]
  .rw[hTp];have:=dS (show Tp<= -1 by omega) (show 0<=p.d+q.d by omega);omega
  .rw[hTq];have:=dS (show Tq<= -1 by omega) (show 0<=p.d+q.d by omega);omega
  .rw[T1];show 0<(p.d+q.d)*0+1*1;omega
  .rw[T2];show 0<(p.d+q.d)*K+1*1;omega
 .have e1:∀r T:Int,(-(p.d+q.d))*T+((p.d+q.d)*K+1)*r=(p.d+q.d)*(K*r-T)+r:=by grind
  refine⟨⟨-(p.d+q.d)*(ae u v).x,-(p.d+q.d)*(ae u v).y,-(p.d+q.d)*(ae u v).d+((p.d+q.d)*K+1)⟩,?_,?_,?_,?_⟩<;>rw[CH]
  .rw[hTp,e1];have:=dS (show K*p.d-Tp<= -1 by omega) (show 0<=p.d+q.d by omega);omega
  .rw[hTq,e1];have:=dS (show K*q.d-Tq<= -1 by omega) (show 0<=p.d+q.d by omega);omega
  .rw[T1,e1];show 0<(p.d+q.d)*(K*1-0)+1;grind
  .rw[T2,e1];show 0<(p.d+q.d)*(K*1-K)+1;omega
def fZ(F:List P3)(e:S):Prop:=∀x y:Int,0<=x->0<=y->0<x+y->∃f∈F,x*ev f (pt e.a)+y*ev f (pt e.b)<=0
def In(F:List P3)(q:P3):Prop:=0<q.d/\∀f∈F,0<ev f q
def fZ.no{F:List P3}{e:S}(h:fZ F e){p q:P3}(hp:In F p)(hq:In F q):¬fY e p q:=by
 rintro⟨x,y,s,t,h1,h2,h3,h4,h5,h6⟩;obtain⟨f,hf,g⟩:=h x y h1 h2 h3;have e1:=congrArg (ev f) h6;rw[ag,ag]at e1;have e2:=congrArg P3.d h6;simp only[cmb,pt]at e2;have g1:=mpp h4 (show 0<=ev f p by have:=hp.2 f hf;omega);have g2:=mpp h5 (show 0<=ev f q by have:=hq.2 f hf;omega);rcases cC 0 s with k|k
 .have:=bL k (hp.2 f hf);omega
 .rcases cC 0 t with k2|k2
  .have:=bL k2 (hq.2 f hf);omega
  grind
def fZ.swap{F:List P3}{e:S}(h:fZ F e):fZ F ⟨e.b,e.a⟩:=λx y h1 h2 h3=>by obtain⟨f,hf,g⟩:=h y x h2 h1 (by omega);grind
def m6(a b:V)(N:Int):P3:=⟨(ae a b).x-N*(lin a b).x,(ae a b).y-N*(lin a b).y,(ae a b).d-N*(lin a b).d⟩
def thin(a b:V)(N:Int):List P3:=[lin a b,m6 a b N,⟨(ae b a).x-N*(lin a b).x,(ae b a).y-N*(lin a b).y,(ae b a).d-N*(lin a b).d⟩]
def l9(a b:V)(N:Int)(q:P3):ev (m6 a b N) q=ev (ae a b) q-N*ev (lin a b) q:=by unfold ev m6;grind
def o7(a b:V)(N:Int)(q:P3):ev ⟨(ae b a).x-N*(lin a b).x,(ae b a).y-N*(lin a b).y,(ae b a).d-N*(lin a b).d⟩ q=ev (ae b a) q-N*ev (lin a b) q:=by unfold ev;grind
def mD{a b:V}{N:Int}{q:P3}:In (thin a b N) q↔0<q.d/\0<ev (lin a b) q/\N*ev (lin a b) q<ev (ae a b) q/\N*ev (lin a b) q<ev (ae b a) q:=by unfold In thin;simp only[bI,cq,or_false,forall_eq_or_imp,forall_eq,l9,o7];omega
def Off(a b:V)(e:S):Prop:=e.a≠e.b/\(¬fY e (pt a) (pt b)\/(e.a=a/\(ev (lin a b) (pt e.b)≠0\/ev (ae a b) (pt e.b)<0))\/(e.b=a/\(ev (lin a b) (pt e.a)≠0\/ev (ae a b) (pt e.a)<0))\/
 (e.a=b/\(ev (lin a b) (pt e.b)≠0\/ev (ae b a) (pt e.b)<0))\/(e.b=b/\(ev (lin a b) (pt e.a)≠0\/ev (ae b a) (pt e.a)<0)))
def frame(a b:V)(f q:P3):bo a b*ev f q=ev (ae b a) q*ev f (pt a)+ev (ae a b) q*ev f (pt b)+ev (lin a b) q*(f.y*(b.x-a.x)-f.x*(b.y-a.y)):=by unfold ev ae bo lin pt;grind
def Gl{F:List P3}{e:S}(h:∀x y:Int,0<=x->0<=y->0<x+y->(∀f∈F,0<x*ev f (pt e.a)+y*ev f (pt e.b))->False):fZ F e:=λx y h1 h2 h3=>
 by grind
def YB{a b:V}(hne:a≠b){e:S}(he:e.a≠e.b)(h:¬fY e (pt a) (pt b)):∃N0:Int,∀N,N0<=N->fZ (thin a b N) e:=by
 obtain⟨f,f1,f2,f3,f4⟩:=sep (u:=e.a) (v:=e.b) (p:=pt a) (q:=pt b) (show(0:Int)<1 by decide) (show(0:Int)<1 by decide) he h;refine⟨(f.y*(b.x-a.x)-f.x*(b.y-a.y)).natAbs,λN hN=>Gl λx y h1 h2 h3 hq=> ?_⟩;have hL:=i9 hne;have e1:∀g:P3,x*ev g (pt e.a)+y*ev g (pt e.b)=ev g (cmb x (pt e.a) y (pt e.b)):=λg=>(ag _ _ _ _ _).symm;have hfq:0<ev f (cmb x (pt e.a) y (pt e.b)):=by
  rw[<-e1];have g1:=mpp h1 (show 0<=ev f (pt e.a) by omega);have g2:=mpp h2 (show 0<=ev f (pt e.b) by omega);rcases cC 0 x with k|k
  .have:=bL k f3;omega
  .have:=bL (show 0<y by omega) f4;omega
 have hT:In (thin a b N) (cmb x (pt e.a) y (pt e.b)):=⟨by simp only[cmb,pt];omega,by grind⟩;obtain⟨_,t1,t2,t3⟩:=mD.1 hT;have hF:=frame a b f (cmb x (pt e.a) y (pt e.b));generalize ev (lin a b) (cmb x (pt e.a) y (pt e.b))=X at*;generalize ev (ae a b) (cmb x (pt e.a) y (pt e.b))=T at*;generalize ev (ae b a) (cmb x (pt e.a) y (pt e.b))=T' at*;generalize f.y*(b.x-a.x)-f.x*(b.y-a.y)=c at*;have p1:=bL hL hfq;have hN0:0<=N*X:=mpp (by omega) (by omega);have p2:T'*ev f (pt a)<= -T':=by have:=dS (show ev f (pt a)<= -1 by omega) (show 0<=T' by omega);omega
 have p3:T*ev f (pt b)<= -T:=by have:=dS (show ev f (pt b)<= -1 by omega) (show 0<=T by omega);omega
 have p4:X*c<=N*X:=by rw[gg N];exact dS (by omega) (by omega)
 omega
def G3{a b:V}{e:S}(h:e.a=a):∃N0:Int,∀N,N0<=N->fZ (thin a b N) e:=by
 refine⟨(ev (ae a b) (pt e.b)).natAbs,λN hN x y h1 h2 h3=> ?_⟩;rw[h];by_cases hX:0<y*ev (lin a b) (pt e.b)
 .refine⟨m6 a b N,by simp[thin],?_⟩;have hv:0<ev (lin a b) (pt e.b):=by
   rcases cC 0 (ev (lin a b) (pt e.b))with k|k
   .exact k
   .have:=mpn h2 k;omega
  rw[l9,l9,k9,cH];have k1:=dS (show 1<=ev (lin a b) (pt e.b) by omega) (show 0<=N by omega);have k2:=mpn h2 (show ev (ae a b) (pt e.b)-N*ev (lin a b) (pt e.b)<=0 by omega);omega
 .refine⟨lin a b,by simp[thin],?_⟩;rw[cH];omega
def G0{a b:V}{e:S}(h:e.a=b):∃N0:Int,∀N,N0<=N->fZ (thin a b N) e:=by
 refine⟨(ev (ae b a) (pt e.b)).natAbs,λN hN x y h1 h2 h3=> ?_⟩;rw[h];by_cases hX:0<y*ev (lin a b) (pt e.b)
 .refine⟨⟨(ae b a).x-N*(lin a b).x,(ae b a).y-N*(lin a b).y,(ae b a).d-N*(lin a b).d⟩,by simp[thin],?_⟩;have hv:0<ev (lin a b) (pt e.b):=by
   rcases cC 0 (ev (lin a b) (pt e.b))with k|k
   .exact k
   .have:=mpn h2 k;omega
  rw[o7,o7,k9,cX];have k1:=dS (show 1<=ev (lin a b) (pt e.b) by omega) (show 0<=N by omega);have k2:=mpn h2 (show ev (ae b a) (pt e.b)-N*ev (lin a b) (pt e.b)<=0 by omega);omega
 .refine⟨lin a b,by simp[thin],?_⟩;rw[cX];omega
def YC{a b:V}(hne:a≠b){e:S}(h:Off a b e\/(e.a=a/\e.b=b)\/(e.a=b/\e.b=a)):∃N0:Int,∀N,N0<=N->fZ (thin a b N) e:=by
 have sw:(∃N0:Int,∀N,N0<=N->fZ (thin a b N) ⟨e.b,e.a⟩)->∃N0:Int,∀N,N0<=N->fZ (thin a b N) e:=λ⟨N0,h⟩=>⟨N0,λN hN=>(h N hN).swap⟩;rcases h with⟨h0,h|h|h|h|h⟩|h|h
 .exact YB hne h0 h
 .exact G3 h.1
 .exact sw (G3 (e:=⟨e.b,e.a⟩) h.1)
 .exact G0 h.1
 .exact sw (G0 (e:=⟨e.b,e.a⟩) h.1)
 .exact G3 h.1
 .exact G0 h.1
def MP{a b:V}(hne:a≠b):∀{l:List S},(∀e∈l,Off a b e\/(e.a=a/\e.b=b)\/(e.a=b/\e.b=a))->∃N0:Int,1<=N0/\∀N,N0<=N->∀e∈l,fZ (thin a b N) e
 |[],_=>⟨1,by omega,by grind⟩
 |e::l,h=>by
  obtain⟨N0,h0,h1⟩:=MP hne (l:=l) (by grind);obtain⟨N1,h2⟩:=YC hne (h e cI);refine⟨max N0 N1,by omega,λN hN e' he=> ?_⟩;grind
def co(a b:V)(M x y:Int):P3:=⟨M*(a.x+b.x)+x,M*(a.y+b.y)+y,2*M⟩
def Ee(a b:V)(M x y:Int):ev (lin a b) (co a b M x y)=(b.x-a.x)*y-(b.y-a.y)*x:=by unfold ev lin co;grind
def Zc(a b:V)(M x y:Int):ev (ae a b) (co a b M x y)=M*bo a b+((b.x-a.x)*x+(b.y-a.y)*y):=by unfold ev ae co bo;grind
def Zb(a b:V)(M x y:Int):ev (ae b a) (co a b M x y)=M*bo a b-((b.x-a.x)*x+(b.y-a.y)*y):=by unfold ev ae co bo;grind
def BA(a b:V):bo b a=bo a b:=by unfold bo;grind
def EL(a b:V)(M x y:Int):co b a M x y=co a b M x y:=by unfold co;grind
def ot{a b:V}(hne:a≠b){x y:Int}(h:0<(b.x-a.x)*y-(b.y-a.y)*x)(N:Int):∃M0:Int,1<=M0/\∀M,M0<=M->In (thin a b N) (co a b M x y):=by have hL:=i9 hne;refine⟨1+(N*((b.x-a.x)*y-(b.y-a.y)*x)).natAbs+((b.x-a.x)*x+(b.y-a.y)*y).natAbs,by omega,λM hM=> ?_⟩;rw[mD,Ee,Zc,Zb];have:=dS (show 1<=bo a b by omega) (show 0<=M by omega);refine⟨by show 0<2*M;omega,h,?_,?_⟩<;>omega
def Nm{g:S->Bool}{e:S}:∀{l:List S},l.Nodup->e∈l->g e=true->(∀e'∈l,e'≠e->g e'=false)->dp (l.map g)=true
 |[],_,h,_,_=>by cases h
 |x::l,hn,h,h1,h2=>by
  rw[List.nodup_cons]at hn;have h0:∀{l:List S},(∀e'∈l,g e'=false)->dp (l.map g)=false:=by
   intro l;induction l with
   |nil=>intro _;rfl
   |cons y l ih=>
    intro hh;show(g y !=dp (l.map g))=false;grind
  show(g x !=dp (l.map g))=true;rcases bI.1 h with rfl|h
  .grind
  .rw[h2 x (by grind) (by grind),Nm hn.2 h h1 (by grind)];rfl
def Xb{a b:V}{N:Int}(hN:0<=N){e:S}(ho:Off a b e)(h1:fZ (thin a b N) e)(h2:fZ (thin b a N) e){p q:P3}(hp:In (thin b a N) p)(hq:In (thin a b N) q):¬fY e p q:=by
 rintro⟨x,y,s,t,hx,hy,hxy,hs,ht,he⟩;obtain⟨p0,p1,p2,p3⟩:=mD.1 hp;obtain⟨q0,q1,q2,q3⟩:=mD.1 hq;have lsw:∀r:P3,ev (lin b a) r= -ev (lin a b) r:=λr=>jy a b r;rw[lsw]at p1 p2 p3;have ed:=congrArg P3.d he;simp only[cmb,pt]at ed;have eX:=congrArg (ev (lin a b)) he;have eA:=congrArg (ev (ae a b)) he;have eB:=congrArg (ev (ae b a)) he;rw[ag,ag]at eX eA eB;have hst:0<s\/0<t:=by
  refine dQ λhn=> ?_;have:s=0:=by omega
  have:t=0:=by omega
  subst s t;omega
 have kpos:∀{u v:Int},0<u->0<v->0<s*u+t*v:=λ{u v} hu hv=>by
  have g1:=mpp hs (show 0<=u by omega);have g2:=mpp ht (show 0<=v by omega);rcases hst with k|k
  .have:=bL k hu;omega
  .have:=bL k hv;omega
 have nX:N*(-(ev (lin a b) p))= -(N*ev (lin a b) p):=by rw[nL]
 have nn:0<=N* -(ev (lin a b) p):=mpp hN (by omega);have nq:0<=N*ev (lin a b) q:=mpp hN (by omega);have hA:=kpos (u:=ev (ae a b) p) (v:=ev (ae a b) q) (by omega) (by omega);have hB:=kpos (u:=ev (ae b a) p) (v:=ev (ae b a) q) (by omega) (by omega);have hA1:=kpos (u:=ev (ae a b) p-N*ev (lin a b) p) (v:=ev (ae a b) q-N*ev (lin a b) q) (by omega) (by omega);have hB1:=kpos (u:=ev (ae b a) p-N*ev (lin a b) p) (v:=ev (ae b a) q-N*ev (lin a b) q) (by omega) (by omega);have hA2:=kpos (u:=ev (ae a b) p+N*ev (lin a b) p) (v:=ev (ae a b) q+N*ev (lin a b) q) (by omega) (by omega);have hB2:=kpos (u:=ev (ae b a) p+N*ev (lin a b) p) (v:=ev (ae b a) q+N*ev (lin a b) q) (by omega) (by omega);have z1:∀(g:P3),x*ev g (pt e.a)+y*ev g (pt e.b)=s*ev g p+t*ev g q:=λg=>by have:=congrArg (ev g) he;rw[ag,ag]at this;exact this
 rcases q9 (x*ev (lin a b) (pt e.a)+y*ev (lin a b) (pt e.b)) 0 with hX|hX|hX
 .obtain⟨f,hf,g⟩:=h2 x y hx hy hxy;rw[z1]at g;simp only[thin,bI,cq,or_false]at hf;rcases hf with rfl|rfl|rfl
  .rw[lsw,lsw,nL,nL]at g;omega
  .rw[l9,l9,lsw,lsw,nL,nL,Ir,Ir]at g;omega
  .rw[o7,o7,lsw,lsw,nL,nL,Ir,Ir]at g;omega
 .rcases ho with⟨_,h|⟨h,g⟩|⟨h,g⟩|⟨h,g⟩|⟨h,g⟩⟩
  .have hne:a≠b:=by grind
   have hL:=i9 hne;have hz:ev (lin a b) (cmb x (pt e.a) y (pt e.b))=0:=by rw[ag];exact hX
   have oz:=lS hz;have hab:ev (ae b a) (cmb x (pt e.a) y (pt e.b))=bo a b*(cmb x (pt e.a) y (pt e.b)).d-ev (ae a b) (cmb x (pt e.a) y (pt e.b)):=by unfold ev ae bo;grind
   rw[ag,eB]at hab;rw[ag,eA]at oz hab;refine h ⟨bo a b*x,bo a b*y,bo a b*(cmb x (pt e.a) y (pt e.b)).d-(s*ev (ae a b) p+t*ev (ae a b) q),s*ev (ae a b) p+t*ev (ae a b) q,mpp (by omega) hx,mpp (by omega) hy,by have:=bL hL hxy;grind,by omega,by omega,?_⟩;rw[oz];unfold cmb;grind
  .rw[h,cH]at hX;rw[h,k9]at eA;have hy0:0<y:=by
    rcases cC 0 y with k|k
    .exact k
    .grind
   have hv:ev (lin a b) (pt e.b)=0:=by
    have:y*ev (lin a b) (pt e.b)=0:=by omega
    rcases cp.1 this with k|k
    .omega
    .exact k
   have:=fz hy0 (show ev (ae a b) (pt e.b)<0 by omega);omega
  .rw[h,cH]at hX;rw[h,k9]at eA;have hy0:0<x:=by
    rcases cC 0 x with k|k
    .exact k
    .grind
   have hv:ev (lin a b) (pt e.a)=0:=by
    have:x*ev (lin a b) (pt e.a)=0:=by omega
    rcases cp.1 this with k|k
    .omega
    .exact k
   have:=fz hy0 (show ev (ae a b) (pt e.a)<0 by omega);omega
  .rw[h,cX]at hX;rw[h,k9]at eB;have hy0:0<y:=by
    rcases cC 0 y with k|k
    .exact k
    .grind
   have hv:ev (lin a b) (pt e.b)=0:=by
    have:y*ev (lin a b) (pt e.b)=0:=by omega
    rcases cp.1 this with k|k
    .omega
    .exact k
   have:=fz hy0 (show ev (ae b a) (pt e.b)<0 by omega);omega
  .rw[h,cX]at hX;rw[h,k9]at eB;have hy0:0<x:=by
    rcases cC 0 x with k|k
    .exact k
    .grind
   have hv:ev (lin a b) (pt e.a)=0:=by
    have:x*ev (lin a b) (pt e.a)=0:=by omega
    rcases cp.1 this with k|k
    .omega
    .exact k
   have:=fz hy0 (show ev (ae b a) (pt e.a)<0 by omega);omega
 .obtain⟨f,hf,g⟩:=h1 x y hx hy hxy;rw[z1]at g;simp only[thin,bI,cq,or_false]at hf;rcases hf with rfl|rfl|rfl
  .omega
  .rw[l9,l9]at g;omega
  .rw[o7,o7]at g;omega
def flip{r:aD}(h2:2<=r.length)(hn:(aJ r).Nodup){a b:V}(hne:a≠b)(he:(⟨a,b⟩:S)∈aJ r){N:Int}(hN:0<=N)
  (ho:∀e∈aJ r,e≠⟨a,b⟩->Off a b e/\fZ (thin a b N) e/\fZ (thin b a N) e):∃p q:P3,In (thin b a N) p/\In (thin a b N) q/\cK r p≠cK r q:=by
 have sum:∀{p q:P3},0<p.d->0<q.d->p.y*q.d<=q.y*p.d->(∀e∈aJ r,e≠⟨a,b⟩->¬fY e p q)->((hit p ⟨a,b⟩ !=hit q ⟨a,b⟩) !=(rgt p q a !=rgt p q b))=true->cK r p≠cK r q:=by
  intro p q hp hq hy hm hab;have h1:=Nm (g:=λe=>(hit p e !=hit q e) !=(rgt p q e.a !=rgt p q e.b)) hn he hab λe he hne=>by rw[Ls hp hq hy (hm e he hne)];grind
  rw[vP,vP,vP,FN h2]at h1;unfold cK;generalize dp ((aJ r).map (hit p))=x at*;generalize dp ((aJ r).map (hit q))=y at*;cases x<;>cases y<;>simp at h1|-
 have off:∀{p q:P3},In (thin b a N) p->In (thin a b N) q->∀e∈aJ r,e≠⟨a,b⟩->¬fY e p q:=λhp hq e he hne=>Xb hN (ho e he hne).1 (ho e he hne).2.1 (ho e he hne).2.2 hp hq;have hdn:∀(M x y:Int) (w:V),dn (co a b M x y) w=decide (w.y*(2*M)<=M*(a.y+b.y)+y):=λ_ _ _ _=>rfl;have hln:∀(M:Int) (w:V),ev (ln (co a b M 0 (-1)) (co a b M 0 1)) (pt w)=2*M*(a.x+b.x-2*w.x):=λM w=>by unfold ev ln co pt;grind
 have horiz:∀M:Int,1<=M->a.y=b.y->a.x≠b.x->((hit (co a b M 0 (-1)) ⟨a,b⟩ !=hit (co a b M 0 1) ⟨a,b⟩) !=(rgt (co a b M 0 (-1)) (co a b M 0 1) a !=rgt (co a b M 0 (-1)) (co a b M 0 1) b))=true:=by
  intro M hM hy hx;have e1:M*(a.y+b.y)=a.y*(2*M):=by rw[<-hy];grind
  have e2:M*(a.y+b.y)=b.y*(2*M):=by rw[hy];grind
  have a1:dn (co a b M 0 (-1)) a=false:=by rw[hdn];grind
  have a2:dn (co a b M 0 (-1)) b=false:=by rw[hdn];grind
  have a3:dn (co a b M 0 1) a=true:=by rw[hdn];grind
  have a4:dn (co a b M 0 1) b=true:=by rw[hdn];grind
  unfold hit rgt;dsimp only;rw[a1,a2,a3,a4,hln,hln];rcases mR hx with hx|hx
  .have p1:=bL (show 0<2*M by omega) (show 0<a.x+b.x-2*a.x by omega);grind
  .have p1:=fz (show 0<2*M by omega) (show a.x+b.x-2*a.x<0 by omega);grind
 have ydec:∀M:Int,1<=M->(co a b M 0 (-1)).y*(co a b M 0 1).d<=(co a b M 0 1).y*(co a b M 0 (-1)).d:=λM hM=>by unfold co;grind
 have vert:∀M x:Int,1<=M->a.y≠b.y->0<(b.x-a.x)*0-(b.y-a.y)*x->((hit (co a b M (-x) 0) ⟨a,b⟩ !=hit (co a b M x 0) ⟨a,b⟩) !=(rgt (co a b M (-x) 0) (co a b M x 0) a !=rgt (co a b M (-x) 0) (co a b M x 0) b))=true:=by
  intro M x hM hy hx;have hne':dn (co a b M x 0) a≠dn (co a b M x 0) b:=by
   rw[hdn,hdn];have e1:M*(a.y+b.y)-a.y*(2*M)=M*(b.y-a.y):=by grind
   have e2:M*(a.y+b.y)-b.y*(2*M)=M*(a.y-b.y):=by grind
   rcases mR hy with h|h
   .have p1:=bL (show 0<M by omega) (show 0<b.y-a.y by omega);grind
   .have p1:=fz (show 0<M by omega) (show b.y-a.y<0 by omega);grind
  have same:∀w,dn (co a b M (-x) 0) w=dn (co a b M x 0) w:=λw=>by rw[hdn,hdn]
  unfold hit rgt;dsimp only;rw[same,same,Ee,Ee];rw[decide_eq_true hx,decide_eq_false (by grind)];revert hne';cases dn (co a b M x 0) a<;>cases dn (co a b M x 0) b<;>simp
 have hne2:b≠a:=by grind
 by_cases hy:a.y=b.y
 .have hx:a.x≠b.x:=λhx=>hne (by cases a;simp_all);rcases mR hx with hx'|hx'
  .obtain⟨M0,hM,hI⟩:=ot hne (x:=0) (y:=1) (by omega) N;obtain⟨M1,hM1,hI1⟩:=ot hne2 (x:=0) (y:= -1) (by omega) N;have i1:=hI (max M0 M1) (by omega);have i2:=hI1 (max M0 M1) (by omega);rw[EL]at i2;exact⟨_,_,i2,i1,sum i2.1 i1.1 (ydec _ (by omega)) (off i2 i1) (horiz _ (by omega) hy hx)⟩
  .obtain⟨M0,hM,hI⟩:=ot hne (x:=0) (y:= -1) (by omega) N;obtain⟨M1,hM1,hI1⟩:=ot hne2 (x:=0) (y:=1) (by omega) N;have i1:=hI (max M0 M1) (by omega);have i2:=hI1 (max M0 M1) (by omega);rw[EL]at i2;exact⟨_,_,i2,i1,λh=>sum i1.1 i2.1 (ydec _ (by omega)) (λe he hne hm=>off i2 i1 e he hne hm.flip) (horiz _ (by omega) hy hx) h.symm⟩
 .have go:∀x:Int,0<(b.x-a.x)*0-(b.y-a.y)*x->∃p q:P3,In (thin b a N) p/\In (thin a b N) q/\cK r p≠cK r q:=by intro x hx;obtain⟨M0,hM,hI⟩:=ot hne (x:=x) (y:=0) hx N;obtain⟨M1,hM1,hI1⟩:=ot hne2 (x:= -x) (y:=0) (by grind) N;have i1:=hI (max M0 M1) (by omega);have i2:=hI1 (max M0 M1) (by omega);rw[EL]at i2;exact⟨_,_,i2,i1,sum i2.1 i1.1 (kk _) (off i2 i1) (vert _ _ (by omega) hy hx)⟩
  rcases mR hy with h|h
  .exact go (-1) (by omega)
  .exact go 1 (by omega)
end Geo
section
namespace Geo
structure Net(W:List V)(side:V->V->Prop):Prop where
 symm:∀{a b},side a b->side b a
 ne:∀{a b},side a b->a≠b
 mem:∀{a b},side a b->a∈W
 clear:∀{a b v},side a b->v∈W->∀s t k:Int,0<=s->0<=t->cmb s (pt a) t (pt b)=cmb k (pt v) 0 (pt v)->0<k->v=a\/v=b
 apart:∀{a b c d},side a b->side c d->∀x y s t:Int,0<x->0<y->0<s->0<t->cmb x (pt a) y (pt b)=cmb s (pt c) t (pt d)->(a=c/\b=d)\/(a=d/\b=c)
def mA(x y:Int)(p q:P3):cmb x p y q=cmb y q x p:=by unfold cmb;grind
def wP{F G z g:P3}(h1:0<ev F z)(h2:0<ev G z)(h:ev F g<0\/ev G g<0):
  ∃s t:Int,0<s/\0<t/\((ev F (cmb s z t g)=0/\0<=ev G (cmb s z t g))\/(ev G (cmb s z t g)=0/\0<=ev F (cmb s z t g))):=by
 have i1:ev F (cmb (-(ev F g)) z (ev F z) g)=0:=by rw[ag,od,gg];omega
 have i2:ev G (cmb (-(ev G g)) z (ev G z) g)=0:=by rw[ag,od,gg];omega
 have i3:ev G (cmb (-(ev F g)) z (ev F z) g)= -ev F (cmb (-(ev G g)) z (ev G z) g):=by rw[ag,ag,od,od,gg (ev F z),gg (ev G z)];rw[gg (ev F g),gg (ev G g)];omega
 by_cases hF:ev F g<0
 .by_cases hG:0<=ev G (cmb (-(ev F g)) z (ev F z) g)
  .grind
  .have hg:ev G g<0:=by rw[ag]at hG;refine rA.1 λhn=>hG ?_;have:=mpp (show 0<= -(ev F g) by omega) (show 0<=ev G z by omega);have:=mpp (show 0<=ev F z by omega) hn;omega
   grind
 .refine⟨_,_,by omega,h2,.inr ⟨i2,?_⟩⟩;rw[ag];have:=mpp (show 0<= -(ev G g) by omega) (show 0<=ev F z by omega);have:=mpp (show 0<=ev G z by omega) (show 0<=ev F g by omega);omega
def Su(a b c:V)(f q:P3):ev (lin a b) (pt c)*ev f q=ev (lin b c) q*ev f (pt a)+ev (lin c a) q*ev f (pt b)+ev (lin a b) q*ev f (pt c):=by unfold ev lin pt;grind
def F8(a b c:V)(q:P3):ev (lin a b) (pt c)*q.d=ev (lin b c) q+ev (lin c a) q+ev (lin a b) q:=by unfold ev lin pt;grind
def qP{a b c:V}{q:P3}(h:ev (lin a b) q=0):cmb (ev (lin b c) q) (pt a) (ev (lin c a) q) (pt b)=⟨ev (lin a b) (pt c)*q.x,ev (lin a b) (pt c)*q.y,ev (lin a b) (pt c)*q.d⟩:=by unfold ev lin at h;unfold cmb ev lin pt;grind
def iH(a b c:V):ev (lin b c) (pt a)=ev (lin a b) (pt c):=by unfold ev lin pt;grind
def vN{a b:V}{s t:Int}(ht:0<t)(h:cmb s (pt a) t (pt b)=cmb (s+t) (pt a) 0 (pt a)):b=a:=by
 unfold cmb pt at h;simp only[P3.mk.injEq]at h;have e1:t*(b.x-a.x)=0:=by grind
 have e2:t*(b.y-a.y)=0:=by grind
 cases a;cases b;rcases cp.1 e1 with k|k<;>rcases cp.1 e2 with k2|k2<;>first|omega|grind
section
variable {W:List V} {side:V->V->Prop}
def Net.same(H:Net W side){a b u v:V}(hab:side a b)(huv:side u v){x y s t:Int}(hx:0<x)(hy:0<y)(hs:0<=s)(ht:0<=t)(h:cmb x (pt u) y (pt v)=cmb s (pt a) t (pt b)):
  (u=a/\v=b)\/(u=b/\v=a):=by
 have hd:=congrArg P3.d h;simp only[cmb,pt]at hd;rcases cC 0 s with hs'|hs'
 .rcases cC 0 t with ht'|ht'
  .exact H.apart huv hab x y s t hx hy hs' ht' h
  .have t0:t=0:=by omega
   subst t0;have h':cmb x (pt u) y (pt v)=cmb s (pt a) 0 (pt a):=by rw[h];unfold cmb;simp
   rcases H.clear huv (H.mem hab) x y s (by omega) (by omega) h' hs' with e|e
   .exfalso;subst e;have:=vN (a:=a) (b:=v) (s:=x) hy (by grind);exact H.ne huv this.symm
   .exfalso;subst e;have:=vN (a:=a) (b:=u) (s:=y) hx (by rw[mA,h'];grind);exact H.ne huv this
 .have s0:s=0:=by omega
  subst s0;have h':cmb x (pt u) y (pt v)=cmb t (pt b) 0 (pt b):=by rw[h];unfold cmb;simp
  rcases H.clear huv (H.mem (H.symm hab)) x y t (by omega) (by omega) h' (by omega)with e|e
  .exfalso;subst e;have:=vN (a:=b) (b:=v) (s:=x) hy (by grind);exact H.ne huv this.symm
  .exfalso;subst e;have:=vN (a:=b) (b:=u) (s:=y) hx (by rw[mA,h'];grind);exact H.ne huv this
structure Corner(W:List V)(side:V->V->Prop)(a b c:V)(h:Int):Prop where
 ab:side a b
 ac:side a c
 left:0<ev (lin a b) (pt c)
 none:∀x,side a x->¬(0<ev (lin a b) (pt x)/\0<ev (lin c a) (pt x))
 low:0<=h
 top:∀w∈W,w≠a->0<=ev (lin a b) (pt w)->0<=ev (lin c a) (pt w)->ev (lin b c) (pt w)<=h
def over(b c:V)(h:Int):P3:=⟨(lin b c).x,(lin b c).y,(lin b c).d-h⟩
def mE(b c:V)(h:Int)(q:P3):ev (over b c h) q=ev (lin b c) q-h*q.d:=by unfold ev over;grind
def Corner.free(H:Net W side){a b c:V}{h:Int}(K:Corner W side a b c h){u v:V}(huv:side u v):fZ [lin a b,lin c a,over b c h] ⟨u,v⟩:=by
 have key:∀{u v:V},side u v->∀x y:Int,0<=x->0<=y->0<x+y->0<ev (lin a b) (cmb x (pt u) y (pt v))->0<ev (lin c a) (cmb x (pt u) y (pt v))->0<ev (over b c h) (cmb x (pt u) y (pt v))->0<ev (over b c h) (pt u)->0<x->False:=by
  intro u v huv x y hx hy hxy h1 h2 h3 h4 hx0;have hη:0<ev (lin b c) (pt u):=by rw[mE]at h4;have:=K.low;simp only[pt]at h4|-;omega
  by_cases hin:0<=ev (lin a b) (pt u)/\0<=ev (lin c a) (pt u)
  .by_cases hua:u=a
   .subst hua;have:=K.none v huv;rw[ag,cH]at h1;rw[ag,cX]at h2;refine this ⟨?_,?_⟩
    .rcases cC 0 (ev (lin u b) (pt v))with g|g
     .exact g
     .have:=mpn hy g;omega
    .rcases cC 0 (ev (lin c u) (pt v))with g|g
     .exact g
     .have:=mpn hy g;omega
   .have:=K.top u (H.mem huv) hua hin.1 hin.2;rw[mE]at h4;simp only[pt]at h4 this;omega
  .obtain⟨s,t,hs,ht,hp⟩:=wP (F:=lin a b) (G:=lin c a) (z:=cmb x (pt u) y (pt v)) (g:=pt u) h1 h2 (by omega);have hover:0<ev (over b c h) (cmb s (cmb x (pt u) y (pt v)) t (pt u)):=by rw[ag];have:=bL hs h3;have:=bL ht h4;omega
   have hd:0<(cmb s (cmb x (pt u) y (pt v)) t (pt u)).d:=by simp only[cmb,pt];have:=bL hs hxy;grind
   have hη2:0<ev (lin b c) (cmb s (cmb x (pt u) y (pt v)) t (pt u)):=by rw[mE]at hover;have:=mpp K.low (show 0<=(cmb s (cmb x (pt u) y (pt v)) t (pt u)).d by omega);omega
   have hy0:0<y:=by
    rcases cC 0 y with g|g
    .exact g
    .have:y=0:=by omega
     subst y;rw[ag]at h1 h2;exfalso;apply hin;refine⟨?_,?_⟩
     .rcases cC (ev (lin a b) (pt u)) 0 with g|g
      .have:=fz hx0 g;omega
      .exact g
     .rcases cC (ev (lin c a) (pt u)) 0 with g|g
      .have:=fz hx0 g;omega
      .exact g
   have exp:cmb s (cmb x (pt u) y (pt v)) t (pt u)=cmb (s*x+t) (pt u) (s*y) (pt v):=by unfold cmb;simp only[P3.mk.injEq];refine⟨?_,?_,?_⟩<;>grind
   have w1:0<s*x+t:=by have:=bL hs hx0;omega
   have w2:0<s*y:=bL hs hy0;rw[exp]at hp hη2;have D:=K.left;have sc:∀{q:P3} {p1 p2:V} {m n:Int},cmb m (pt p1) n (pt p2)=⟨ev (lin a b) (pt c)*q.x,ev (lin a b) (pt c)*q.y,ev (lin a b) (pt c)*q.d⟩->∀{X Y:Int},q=cmb X (pt u) Y (pt v)->cmb (ev (lin a b) (pt c)*X) (pt u) (ev (lin a b) (pt c)*Y) (pt v)=cmb m (pt p1) n (pt p2):=by intro q p1 p2 m n hq X Y hXY;rw[hq,hXY];unfold cmb;simp only[P3.mk.injEq];refine⟨?_,?_,?_⟩<;>grind
   rcases hp with⟨g1,g2⟩|⟨g1,g2⟩
   .have:=sc (qP (c:=c) g1) rfl;rcases H.same K.ab huv (bL D w1) (bL D w2) (by omega) g2 this with⟨rfl,rfl⟩|⟨rfl,rfl⟩
    .rw[ag,cH,cX]at h1;omega
    .rw[ag,cH,cX]at h1;omega
   .have e0:ev (lin c a) (pt b)=ev (lin a b) (pt c):=(iH b c a).symm▸by rw[iH]
    have:=qP (a:=c) (b:=a) (c:=b) g1;rw[e0]at this;have:=sc this rfl;rcases H.same (H.symm K.ac) huv (bL D w1) (bL D w2) g2 (by omega) this with⟨rfl,rfl⟩|⟨rfl,rfl⟩
    .rw[ag,cH,cX]at h2;omega
    .rw[ag,cH,cX]at h2;omega
 refine Gl λx y hx hy hxy hq=> ?_;have e1:∀g:P3,x*ev g (pt u)+y*ev g (pt v)=ev g (cmb x (pt u) y (pt v)):=λg=>(ag _ _ _ _ _).symm;simp only[bI,cq,or_false,forall_eq_or_imp,forall_eq,e1]at hq;obtain⟨h1,h2,h3⟩:=hq;have h3':=h3;rw[ag]at h3';by_cases hu:0<x*ev (over b c h) (pt u)
 .have hx0:0<x:=by
   rcases cC 0 x with g|g
   .exact g
   .grind
  refine key huv x y hx hy hxy h1 h2 h3 ?_ hx0;rcases cC 0 (ev (over b c h) (pt u))with g|g
  .exact g
  .have:=mpn hx g;omega
 .have hy0:0<y:=by
   rcases cC 0 y with g|g
   .exact g
   .grind
  rw[mA]at h1 h2 h3;refine key (H.symm huv) y x hy hx (by omega) h1 h2 h3 ?_ hy0;rcases cC 0 (ev (over b c h) (pt v))with g|g
  .exact g
  .have:=mpn hy g;omega
end
end Geo
end
section
namespace Geo
structure Filled(W:List V)(side:V->V->Prop)(ins:P3->Bool):Prop where
 net:Net W side
 same:∀p q:P3,0<p.d->0<q.d->(∀u v,side u v->¬fY ⟨u,v⟩ p q)->ins p=ins q
 max:∀u∈W,∀w∈W,u≠w->(∀c d,side c d->∀x y s t:Int,0<=x->0<=y->0<s->0<t->cmb x (pt c) y (pt d)≠cmb s (pt u) t (pt w))->ins (cmb 1 (pt u) 1 (pt w))=true->side u w
 far:∃B:Int,0<=B/\∀q:P3,0<q.d->(B*q.d<q.x\/q.x< -(B*q.d)\/B*q.d<q.y\/q.y< -(B*q.d))->ins q=false
def Lft(ins:P3->Bool)(a b:V):Prop:=∃N0:Int,∀N,N0<=N->∀q,In (thin a b N) q->ins q=true
def CK{α:Type}(f:α->Int):∀{l:List α},l≠[]->∃x∈l,∀y∈l,f y<=f x
 |[],h=>absurd rfl h
 |[x],_=>⟨x,by grind,by grind⟩
 |x::y::l,_=>by
  obtain⟨z,hz,h⟩:=CK f (l:=y::l) (by simp);grind
section
variable {W:List V} {side:V->V->Prop} {ins:P3->Bool}
def Filled.const(H:Filled W side ins){F:List P3}(hF:∀u v,side u v->fZ F ⟨u,v⟩){p q:P3}(hp:In F p)(hq:In F q):ins p=ins q:=
 H.same p q hp.1 hq.1 λu v huv=>(hF u v huv).no hp hq
def Lft.near{a b c:V}(hne:a≠b)(hL:Lft ins a b)(hc:0<ev (lin a b) (pt c)){h:Int}(hh:h<ev (lin a b) (pt c)):
  ∃q,In [lin a b,lin c a,over b c h] q/\ins q=true:=by
 obtain⟨N0,hN⟩:=hL;have hL2:=i9 hne;have e9:(b.x-a.x)*(b.x-a.x)-(b.y-a.y)* -(b.y-a.y)=bo a b:=by unfold bo;grind
 obtain⟨M0,hM0,hI⟩:=ot hne (x:= -(b.y-a.y)) (y:=b.x-a.x) (by omega) (max N0 0);have e1:∀M:Int,ev (lin c a) (co a b M (-(b.y-a.y)) (b.x-a.x))=M*ev (lin a b) (pt c)+ev (lin c a) ⟨-(b.y-a.y),b.x-a.x,0⟩:=λM=>by unfold ev lin co pt;grind
 generalize hk:ev (lin c a) ⟨-(b.y-a.y),b.x-a.x,0⟩=k at e1;have hP:=hI (M0+k.natAbs) (by omega);have hβ:0<ev (lin c a) (co a b (M0+k.natAbs) (-(b.y-a.y)) (b.x-a.x)):=by rw[e1];have:=dS (show 1<=ev (lin a b) (pt c) by omega) (show 0<=M0+(k.natAbs:Int) by omega);omega
 generalize co a b (M0+k.natAbs) (-(b.y-a.y)) (b.x-a.x)=P at*;obtain⟨p0,p1,p2,p3⟩:=mD.1 hP;have e0:ev (lin b c) (pt a)=ev (lin a b) (pt c):=iH a b c;refine⟨cmb (1+(ev (over b c h) P).natAbs) (pt a) 1 P,⟨by simp only[cmb,pt];omega,?_⟩,hN (max N0 0) (by omega) _ ?_⟩
 .simp only[bI,cq,or_false,forall_eq_or_imp,forall_eq];refine⟨?_,?_,?_⟩
  .rw[ag,cH];omega
  .rw[ag,cX];omega
  .rw[ag];have ho:1<=ev (over b c h) (pt a):=by rw[mE,e0];show 1<=ev (lin a b) (pt c)-h*1;omega
   have:=dS ho (show 0<=1+((ev (over b c h) P).natAbs:Int) by omega);omega
 .rw[mD,ag,ag,ag,cH,k9,qQ,BA];have g1:=mpp (show 0<=1+((ev (over b c h) P).natAbs:Int) by omega) (show 0<=bo a b by omega);have g2:max N0 0*(1*ev (lin a b) P)=max N0 0*ev (lin a b) P:=by rw[Is]
  refine⟨by simp only[cmb,pt];omega,by omega,?_,?_⟩<;>rw[du,zO]at* <;>omega
def aBH{u v b c:V}{D p q r s:Int}(hD:D≠0)(g1:cmb p (pt b) q (pt c)=⟨D*u.x,D*u.y,D⟩)(g2:cmb r (pt b) s (pt c)=⟨D*v.x,D*v.y,D⟩):
  cmb r (pt u) (-p) (pt v)=cmb (q-s) (pt c) 0 (pt c)/\cmb (-s) (pt u) q (pt v)=cmb (q-s) (pt b) 0 (pt b):=by
 unfold cmb pt at*;simp only[P3.mk.injEq]at*;refine⟨⟨?_,?_,by omega⟩,⟨?_,?_,by omega⟩⟩<;>(apply nM hD;grind)
def ear(H:Filled W side ins){a b c:V}(hab:side a b)(hac:side a c)(hc:0<ev (lin a b) (pt c))(hn:∀x,side a x->¬(0<ev (lin a b) (pt x)/\0<ev (lin c a) (pt x)))(hL:Lft ins a b):
  (∀w∈W,0<=ev (lin a b) (pt w)->0<=ev (lin b c) (pt w)->0<=ev (lin c a) (pt w)->w=a\/w=b\/w=c)/\
  (∀u v,side u v->fZ [lin a b,lin c a,over b c 0] ⟨u,v⟩)/\(∀q,In [lin a b,lin c a,over b c 0] q->ins q=true)/\side b c:=by
 have N:=H.net;have hne:=N.ne hab;by_cases hE:W.filter (λw=>decide (0<=ev (lin a b) (pt w))&&decide (0<=ev (lin b c) (pt w))&&decide (0<=ev (lin c a) (pt w))&&decide (w≠a)&&decide (w≠b)&&decide (w≠c))=[]
 case neg=>
  exfalso;obtain⟨w,hw,hmax⟩:=CK (λw=>ev (lin b c) (pt w)) hE;simp only[fG,bj,decide_eq_true_eq]at hw hmax;obtain⟨hwW,⟨⟨⟨⟨⟨w1,w2⟩,w3⟩,w4⟩,w5⟩,w6⟩⟩:=hw;have K:Corner W side a b c (ev (lin b c) (pt w)):=by
   refine⟨hab,hac,hc,hn,w2,λw' hw' ha h1 h2=> ?_⟩;by_cases h3:ev (lin b c) (pt w')<=0
   .omega
   .refine hmax w' ⟨hw',⟨⟨⟨⟨⟨h1,by omega⟩,h2⟩,ha⟩,?_⟩,?_⟩⟩
    .rintro rfl;rw[cH]at h3;omega
    .rintro rfl;rw[cX]at h3;omega
  have bs:=F8 a b c (pt w);have α0:ev (lin a b) (pt w)≠0:=λh0=>by
   have hb:=qP (c:=c) h0;rcases N.clear hab hwW (ev (lin b c) (pt w)) (ev (lin c a) (pt w)) (ev (lin a b) (pt c)) w2 w3 (by rw[hb];unfold cmb;simp) hc with e|e
   .exact w4 e
   .exact w5 e
  have β0:ev (lin c a) (pt w)≠0:=λh0=>by
   have hb:=qP (a:=c) (b:=a) (c:=b) h0;have e0:ev (lin c a) (pt b)=ev (lin a b) (pt c):=by unfold ev lin pt;grind
   rw[e0]at hb;rcases N.clear (N.symm hac) hwW (ev (lin a b) (pt w)) (ev (lin b c) (pt w)) (ev (lin a b) (pt c)) w1 w2 (by rw[hb];unfold cmb;simp) hc with e|e
   .exact w6 e
   .exact w4 e
  simp only[pt]at bs;have hlt:ev (lin b c) (pt w)<ev (lin a b) (pt c):=by simp only[pt]at*;omega
  have hfree:∀u v,side u v->fZ _ ⟨u,v⟩:=λu v huv=>K.free N huv;have hin:∀s t:Int,0<s->0<t->In [lin a b,lin c a,over b c (ev (lin b c) (pt w))] (cmb s (pt a) t (pt w)):=by
   intro s t hs ht;refine⟨by simp only[cmb,pt];omega,?_⟩;simp only[bI,cq,or_false,forall_eq_or_imp,forall_eq];refine⟨?_,?_,?_⟩
   .rw[ag,cH];have:=bL ht (show 0<ev (lin a b) (pt w) by omega);omega
   .rw[ag,cX];have:=bL ht (show 0<ev (lin c a) (pt w) by omega);omega
   .rw[ag,mE,mE,iH];have e1:ev (lin b c) (pt w)-ev (lin b c) (pt w)*(pt w).d=0:=by simp only[pt];omega
    have:=bL hs (show 0<ev (lin a b) (pt c)-ev (lin b c) (pt w)*(pt a).d by simp only[pt]at*;omega);simp_all
  obtain⟨q,hq,hqi⟩:=hL.near hne hc hlt;have hmid:ins (cmb 1 (pt a) 1 (pt w))=true:=by rw[H.const hfree (hin 1 1 (by omega) (by omega)) hq];exact hqi
  have haw:=H.max a (N.mem hab) w hwW (λe=>w4 e.symm) (λc' d' hcd x y s t hx hy hs ht he=>by obtain⟨f,hf,g⟩:=hfree c' d' hcd x y hx hy (by have:=congrArg P3.d he;simp only[cmb,pt]at this;omega);have:=(hin s t hs ht).2 f hf;rw[<-he,ag]at this;grind) hmid
  grind
 case pos=>
  have hv:∀w∈W,0<=ev (lin a b) (pt w)->0<=ev (lin b c) (pt w)->0<=ev (lin c a) (pt w)->w=a\/w=b\/w=c:=by
   intro w hw h1 h2 h3;refine dQ λhne'=> ?_;have:w∈([] :List V):=by rw[<-hE];simp only[fG,bj,decide_eq_true_eq];refine⟨hw,⟨⟨⟨⟨⟨h1,h2⟩,h3⟩,?_⟩,?_⟩,?_⟩⟩<;>intro e<;>exact hne' (by simp[e])
   cases this
  have K:Corner W side a b c 0:=by
   refine⟨hab,hac,hc,hn,kk _,λw' hw' ha h1 h2=> ?_⟩;refine DJ.1 λh3=> ?_;rcases hv w' hw' h1 (by omega) h2 with e|e|e
   .exact ha e
   .rw[e,cH]at h3;omega
   .rw[e,cX]at h3;omega
  have hfree:∀u v,side u v->fZ [lin a b,lin c a,over b c 0] ⟨u,v⟩:=λu v huv=>K.free N huv;obtain⟨q,hq,hqi⟩:=hL.near hne hc hc;have hins:∀q,In [lin a b,lin c a,over b c 0] q->ins q=true:=λq' hq'=>by rw[H.const hfree hq' hq];exact hqi
  refine⟨hv,hfree,hins,?_⟩;have hbc:b≠c:=λe=>by subst e;rw[cX]at hc;omega
  have e1:ev (lin c a) (pt b)=ev (lin a b) (pt c):=by unfold ev lin pt;grind
  have bs:∀w:V,ev (lin a b) (pt c)=ev (lin b c) (pt w)+ev (lin c a) (pt w)+ev (lin a b) (pt w):=λw=>by have:=F8 a b c (pt w);simp only[pt]at this|-;omega
  refine dQ λhns=> ?_;have hopen:∀c' d',side c' d'->∀x y s t:Int,0<=x->0<=y->0<s->0<t->cmb x (pt c') y (pt d')≠cmb s (pt b) t (pt c):=by
   intro u v huv x y s t hx hy hs ht he;have ed:=congrArg P3.d he;have eη:=congrArg (ev (lin b c)) he;have eα:=congrArg (ev (lin a b)) he;have eβ:=congrArg (ev (lin c a)) he;simp only[cmb,pt]at ed;rw[ag,ag,cH,cX]at eη;rw[ag,ag,cX]at eα;rw[ag,ag,cH,e1]at eβ;have p1:=bL ht hc;have p2:=bL hs hc;have novert:∀w,w∈W->∀k:Int,0<k->k*ev (lin a b) (pt w)=t*ev (lin a b) (pt c)->k*ev (lin c a) (pt w)=s*ev (lin a b) (pt c)->k*ev (lin b c) (pt w)=0->False:=by
    intro w hw k hk h1 h2 h3;have g1:0<ev (lin a b) (pt w):=by
     rcases cC 0 (ev (lin a b) (pt w))with g|g
     .exact g
     .have:=mpn (show 0<=k by omega) g;omega
    have g2:0<ev (lin c a) (pt w):=by
     rcases cC 0 (ev (lin c a) (pt w))with g|g
     .exact g
     .have:=mpn (show 0<=k by omega) g;omega
    have g3:ev (lin b c) (pt w)=0:=by
     rcases cp.1 h3 with g|g
     .omega
     .exact g
    rcases hv w hw (by omega) (by omega) (by omega)with e|e|e<;>subst e
    .rw[cH]at g1;omega
    .grind
    .grind
   have hx0:0<x:=by
    rcases cC 0 x with g|g
    .exact g
    .have:x=0:=by omega
     subst x;exact(novert v (N.mem (N.symm huv)) y (by omega) (by omega) (by omega) (by omega)).elim
   have hy0:0<y:=by
    rcases cC 0 y with g|g
    .exact g
    .have:y=0:=by omega
     subst y;exact(novert u (N.mem huv) x (by omega) (by omega) (by omega) (by omega)).elim
   have up:∀{u v:V} {x y:Int},side u v->0<x->0<y->x*ev (lin b c) (pt u)+y*ev (lin b c) (pt v)=0->0<x*ev (lin a b) (pt u)+y*ev (lin a b) (pt v)->0<x*ev (lin c a) (pt u)+y*ev (lin c a) (pt v)->¬0<ev (lin b c) (pt u):=by
    intro u v x y huv hx hy h1 h2 h3 h4;obtain⟨f,hf,g⟩:=hfree u v huv ((1+(ev (lin a b) (pt u)).natAbs+(ev (lin c a) (pt u)).natAbs)*x+1) ((1+(ev (lin a b) (pt u)).natAbs+(ev (lin c a) (pt u)).natAbs)*y) (by have:=mpp (show 0<=(1:Int)+(ev (lin a b) (pt u)).natAbs+(ev (lin c a) (pt u)).natAbs by omega) (show 0<=x by omega);omega) (mpp (by omega) (by omega)) (by have:=mpp (show 0<=(1:Int)+(ev (lin a b) (pt u)).natAbs+(ev (lin c a) (pt u)).natAbs by omega) (show 0<=x by omega);have:=mpp (show 0<=(1:Int)+(ev (lin a b) (pt u)).natAbs+(ev (lin c a) (pt u)).natAbs by omega) (show 0<=y by omega);omega);change (_*x+1)*ev f (pt u)+_*y*ev f (pt v)<=0 at g;have e2:∀K A B:Int,(K*x+1)*A+K*y*B=K*(x*A+y*B)+A:=λK A B=>by grind
    rw[e2]at g;simp only[bI,cq,or_false]at hf;rcases hf with rfl|rfl|rfl
    .have:=dS (show 1<=x*ev (lin a b) (pt u)+y*ev (lin a b) (pt v) by omega) (show 0<=(1:Int)+(ev (lin a b) (pt u)).natAbs+(ev (lin c a) (pt u)).natAbs by omega);omega
    .have:=dS (show 1<=x*ev (lin c a) (pt u)+y*ev (lin c a) (pt v) by omega) (show 0<=(1:Int)+(ev (lin a b) (pt u)).natAbs+(ev (lin c a) (pt u)).natAbs by omega);omega
    .have e3:∀w:V,ev (over b c 0) (pt w)=ev (lin b c) (pt w):=λw=>by rw[mE];omega
     rw[e3,e3,h1]at g;omega
   have uu:=up huv hx0 hy0 (by omega) (by omega) (by omega);have vv:=up (N.symm huv) hy0 hx0 (by omega) (by omega) (by omega);have s1:=mpn (show 0<=x by omega) (show ev (lin b c) (pt u)<=0 by omega);have s2:=mpn (show 0<=y by omega) (show ev (lin b c) (pt v)<=0 by omega);have u0:ev (lin b c) (pt u)=0:=by
    rcases cp.1 (show x*ev (lin b c) (pt u)=0 by omega)with g|g
    .omega
    .exact g
   have v0:ev (lin b c) (pt v)=0:=by
    rcases cp.1 (show y*ev (lin b c) (pt v)=0 by omega)with g|g
    .omega
    .exact g
   have out:∀w∈W,ev (lin b c) (pt w)=0->¬(0<ev (lin a b) (pt w)/\0<ev (lin c a) (pt w)):=by
    rintro w hw h0 ⟨h1,h2⟩;rcases hv w hw (by omega) (by omega) (by omega)with e|e|e<;>subst e
    .rw[cH]at h1;omega
    .grind
    .grind
   have ou:=out u (N.mem huv) u0;have ov:=out v (N.mem (N.symm huv)) v0;have bu:=bs u;have bv:=bs v;have fin:∀{u v:V},side u v->ev (lin b c) (pt u)=0->ev (lin b c) (pt v)=0->0<ev (lin a b) (pt u)->ev (lin c a) (pt u)<=0->0<ev (lin c a) (pt v)->ev (lin a b) (pt v)<=0->False:=by
    intro u v huv u0 v0 h1 h2 h3 h4;have bu:=bs u;have bv:=bs v;have D0:ev (lin a b) (pt c)≠0:=by omega
    have g1:=qP (a:=b) (b:=c) (c:=a) (q:=pt u) u0;have g2:=qP (a:=b) (b:=c) (c:=a) (q:=pt v) v0;rw[iH a b c]at g1 g2;have cc:=aBH (u:=u) (v:=v) D0 (g1.trans (by show(⟨_,_,ev (lin a b) (pt c)*1⟩:P3)=_;rw[zL];rfl)) (g2.trans (by show(⟨_,_,ev (lin a b) (pt c)*1⟩:P3)=_;rw[zL];rfl));have k1:c=u\/c=v:=N.clear huv (N.mem (N.symm hac)) (ev (lin c a) (pt v)) (-(ev (lin c a) (pt u))) (ev (lin a b) (pt u)-ev (lin a b) (pt v)) (by omega) (by omega) cc.1 (by omega);have k2:b=u\/b=v:=N.clear huv (N.mem (N.symm hab)) (-(ev (lin a b) (pt v))) (ev (lin a b) (pt u)) (ev (lin a b) (pt u)-ev (lin a b) (pt v)) (by omega) (by omega) cc.2 (by omega);rcases k1 with e|e<;>rcases k2 with e'|e'
    .grind
    .subst e e';exact hns (N.symm huv)
    .grind
    .grind
   by_cases hu:0<ev (lin a b) (pt u)
   .have:ev (lin c a) (pt u)<=0:=by omega
    have hvv:0<ev (lin c a) (pt v):=by
     rcases cC 0 (ev (lin c a) (pt v))with g|g
     .exact g
     .have:=mpn (show 0<=x by omega) this;have:=mpn (show 0<=y by omega) g;omega
    exact fin huv u0 v0 hu this hvv (by omega)
   .have hu':0<ev (lin c a) (pt u):=by omega
    have hvv:0<ev (lin a b) (pt v):=by
     rcases cC 0 (ev (lin a b) (pt v))with g|g
     .exact g
     .have:=mpn (show 0<=x by omega) (show ev (lin a b) (pt u)<=0 by omega);have:=mpn (show 0<=y by omega) g;omega
    exact fin (N.symm huv) v0 u0 hvv (by omega) hu' (by omega)
  refine hns (H.max b (N.mem (N.symm hab)) c (N.mem (N.symm hac)) hbc hopen ?_);rw[<-hqi];refine H.same _ _ (by simp only[cmb,pt];omega) hq.1 λu v huv hm=> ?_;obtain⟨x,y,s,t,hx,hy,hxy,hs,ht,he⟩:=hm;rcases cC 0 t with ht0|ht0
  .obtain⟨f,hf,g⟩:=hfree u v huv x y hx hy hxy;have eF:=congrArg (ev f) he;rw[ag,ag]at eF;change x*ev f (pt u)+y*ev f (pt v)<=0 at g;change x*ev f (pt u)+y*ev f (pt v)=_ at eF;have g1:=bL ht0 (hq.2 f hf);have g2:0<=s*ev f (cmb 1 (pt b) 1 (pt c)):=mpp hs (by
    simp only[bI,cq,or_false]at hf;rcases hf with rfl|rfl|rfl
    .rw[ag,cX];omega
    .rw[ag,cH,e1];omega
    .rw[ag,mE,mE,cH,cX];omega)
   omega
  .have t0:t=0:=by omega
   subst t0;have hs0:0<s:=by
    have:=congrArg P3.d he;simp only[cmb,pt]at this;rcases cC 0 s with g|g
    .exact g
    .omega
   refine hopen u v huv x y s s hx hy hs0 hs0 ?_;rw[show cmb x (pt u) y (pt v)=cmb s (cmb 1 (pt b) 1 (pt c)) 0 q from he];unfold cmb;grind
end
end Geo
end
section
namespace Geo
def Bt{α:Type}(f g:α->Int):∀{l:List α},l≠[]->(∀x∈l,0<g x)->∃x∈l,∀y∈l,f x*g y<=f y*g x
 |[],h,_=>absurd rfl h
 |[x],_,_=>⟨x,by grind,by grind⟩
 |x::y::l,_,hg=>by
  obtain⟨z,hz,h⟩:=Bt f g (l:=y::l) (by simp) (by grind);have gx:=hg x cI;have gz:=hg z (cG _ hz);by_cases hx:f x*g z<=f z*g x
  .refine⟨x,by grind,λw hw=> ?_⟩;rcases bI.1 hw with rfl|hw
   .omega
   .have gw:=hg w (cG _ hw);have h1:=h w hw;have e1:=ls hx (show 0<=g w by omega);have e2:=ls h1 (show 0<=g x by omega);have e3:(f x*g w)*g z<=(f w*g x)*g z:=by
     have a1:f x*g w*g z=f x*g z*g w:=by grind
     have a2:f w*g x*g z=f w*g z*g x:=by grind
     have a3:f z*g x*g w=f z*g w*g x:=by grind
     omega
    simp_all
  grind
def CA{a b:V}{P r:P3}(h:ev (ln (pt a) P) r=0)(f:P3):ev (lin a b) P*ev f r=(ev (lin a b) P*r.d-ev (lin a b) r*P.d)*ev f (pt a)+ev (lin a b) r*ev f P:=by unfold ev ln lin pt at*;grind
def Pe{a b:V}{P r:P3}(h:ev (ln (pt a) P) r=0):cmb (ev (lin a b) P) r 0 r=cmb (ev (lin a b) P*r.d-ev (lin a b) r*P.d) (pt a) (ev (lin a b) r) P:=by unfold cmb ev ln lin pt at*;grind
def around{a b x:V}{P q:P3}:ev (lin a b) P*ev (lin a x) q=ev (lin a b) (pt x)*ev (ln (pt a) P) q-ev (lin a b) q*ev (ln (pt a) P) (pt x):=by unfold ev ln lin pt;grind
def fan{a b u:V}{P w:P3}:ev (ln (pt a) P) (pt u)*ev (lin a b) w=ev (lin u a) w*ev (lin a b) P+ev (ln (pt a) P) w*ev (lin a b) (pt u):=by unfold ev ln lin pt;grind
def XZ(u v:V)(a:V)(P:P3)(f:P3):ev f (cmb (-(ev (ln (pt a) P) (pt v))) (pt u) (ev (ln (pt a) P) (pt u)) (pt v))=ev (lin u v) P*ev f (pt a)-ev (lin u v) (pt a)*ev f P:=by unfold ev cmb ln lin pt;grind
def BS{u v:V}{p:P3}(h:ev (lin v u) p=0)(f:P3):bo v u*ev f p=(bo v u*p.d-ev (ae v u) p)*ev f (pt v)+ev (ae v u) p*ev f (pt u):=by have h1:=congrArg (ev f) (lS h);rw[ag]at h1;rw[h1];unfold ev;grind
def Po{u v:V}(hne:u≠v){ρ q p:P3}(hq:ev (lin v u) q=0)(hp:ev (lin v u) p=0)(h0:ev ρ q=0)(f:P3):
  ev ρ (pt u)*q.d*ev f p=(ev ρ (pt u)*p.d-ev ρ p)*ev f q+ev ρ p*q.d*ev f (pt u):=by
 have hL:=i9 (u:=v) (v:=u) (by grind);have a1:=BS hp f;have a2:=BS hp ρ;have a3:=BS hq f;have a4:=BS hq ρ;generalize bo v u=L at*;have hL2:L*L≠0:=Int.mul_ne_zero (by omega) (by omega);apply nM hL2;grind
section
variable {W:List V} {side:V->V->Prop} {ins:P3->Bool}
structure Seen(W:List V)(side:V->V->Prop)(a b u v x:V)(P q:P3):Prop where
 net:Net W side
 pos:0<ev (lin a b) P
 thinR:∀w∈W,0<ev (lin a b) (pt w)->0<ev (ln (pt a) P) (pt w)
 uv:side u v
 ru:0<ev (ln (pt a) P) (pt u)
 rv:ev (ln (pt a) P) (pt v)<0
 au:0<ev (lin a b) (pt u)
 first:∀c d,side c d->0<ev (ln (pt a) P) (pt c)->ev (ln (pt a) P) (pt d)<0->∀p:P3,0<p.d->ev (ln (pt a) P) p=0->0<ev (lin a b) p->(∃x y:Int,0<x/\0<y/\p=cmb x (pt c) y (pt d))->ev (lin v u) p<=0
 ka:0<ev (lin v u) (pt a)
 mem:x∈W
 rx:0<ev (ln (pt a) P) (pt x)
 kx:0<=ev (lin v u) (pt x)
 ax:0<ev (lin a b) (pt x)
 ux:0<=ev (lin a x) (pt u)
 least:∀w∈W,0<ev (ln (pt a) P) (pt w)->0<=ev (lin v u) (pt w)->0<=ev (lin a w) (pt u)->0<=ev (lin a x) (pt w)/\(ev (lin a x) (pt w)=0->ev (lin a b) (pt x)<=ev (lin a b) (pt w))
 qd:0<q.d
 qr:ev (ln (pt a) P) q=0
 qk:ev (lin v u) q=0
 qa:0<ev (lin a b) q
 quv:∃x y:Int,0<x/\0<y/\q=cmb x (pt u) y (pt v)
def jW{a k:Int}(hk:0<k)(h:0<k*a):0<a:=by
 rcases cC 0 a with g|g
 .exact g
 .have:=mpn (show 0<=k by omega) g;omega
def xd{a k:Int}(hk:0<k)(h:k*a<0):a<0:=by
 rcases cC a 0 with g|g
 .exact g
 .have:=mpp (show 0<=k by omega) g;omega
def Seen.ang{a b u v x:V}{P q:P3}(_S:Seen W side a b u v x P q){w:V}(r:P3):ev (lin a b) P*ev (lin a w) r=ev (lin a b) (pt w)*ev (ln (pt a) P) r-ev (lin a b) r*ev (ln (pt a) P) (pt w):=around
def Seen.wedge{a b u v x:V}{P q:P3}(S:Seen W side a b u v x P q){c d:V}(hcd:side c d){x1 y1:Int}(hx1:0<x1)(hy1:0<=y1)
  (h1:0<ev (ln (pt a) P) (cmb x1 (pt c) y1 (pt d))) (h2:0<ev (lin v u) (cmb x1 (pt c) y1 (pt d))) (h3:ev (lin a x) (cmb x1 (pt c) y1 (pt d))<=0) (hc:ev (lin a x) (pt c)<0):False:=by
 have N:=S.net;have hap:=S.pos;have hvu:u≠v:=N.ne S.uv;by_cases hin:0<=ev (ln (pt a) P) (pt c)/\0<=ev (lin v u) (pt c)
 ·
  have e1:=S.ang (w:=x) (pt c);have n1:=fz hap hc;have hr:0<ev (ln (pt a) P) (pt c):=by
   rcases cC 0 (ev (ln (pt a) P) (pt c))with g|g
   .exact g
   .have r0:ev (ln (pt a) P) (pt c)=0:=by omega
    have ac:ev (lin a b) (pt c)<=0:=by refine DJ.1 λg2=> ?_;have:=S.thinR c (N.mem hcd) g2;omega
    rw[r0,du]at e1;have:=mnp ac (show 0<=ev (ln (pt a) P) (pt x) by have:=S.rx;omega);omega
  have hac:0<ev (lin a b) (pt c):=by
   have p1:=bL S.ax hr;have p2:0<ev (lin a b) (pt c)*ev (ln (pt a) P) (pt x):=by omega
   rw[gg]at p2;exact jW S.rx p2
  have eu:=S.ang (w:=x) (pt u);have ec:=S.ang (w:=c) (pt u);have m1:=mpp (show 0<=ev (lin a b) P by omega) S.ux;have key:0<=ev (lin a b) P*ev (lin a c) (pt u):=by
   rw[ec];have k1:ev (ln (pt a) P) (pt c)*ev (lin a b) (pt x)<ev (ln (pt a) P) (pt x)*ev (lin a b) (pt c):=by rw[gg (ev (ln (pt a) P) (pt c)),gg (ev (ln (pt a) P) (pt x))];omega
   have k2:ev (ln (pt a) P) (pt x)*ev (lin a b) (pt u)<=ev (ln (pt a) P) (pt u)*ev (lin a b) (pt x):=by rw[gg (ev (ln (pt a) P) (pt x)),gg (ev (ln (pt a) P) (pt u))];omega
   have k3:=EZ (n1:=ev (ln (pt a) P) (pt c)) (d1:=ev (lin a b) (pt c)) (n2:=ev (ln (pt a) P) (pt x)) (d2:=ev (lin a b) (pt x)) (n3:=ev (ln (pt a) P) (pt u)) (d3:=ev (lin a b) (pt u)) hac S.ax S.au k1 k2;rw[gg (ev (lin a b) (pt c)),gg (ev (lin a b) (pt u))];omega
  have hsc:0<=ev (lin a c) (pt u):=nnl hap (by grind);have:=(S.least c (N.mem hcd) hr hin.2 hsc).1;omega
 .obtain⟨s,t,hs,ht,hp⟩:=wP (F:=ln (pt a) P) (G:=lin v u) (z:=cmb x1 (pt c) y1 (pt d)) (g:=pt c) h1 h2 (by omega);have hd0:0<(cmb s (cmb x1 (pt c) y1 (pt d)) t (pt c)).d:=by simp only[cmb,pt];have:=mpp (show 0<=s by omega) (show 0<=x1*1+y1*1 by omega);omega
  have hγ:ev (lin a x) (cmb s (cmb x1 (pt c) y1 (pt d)) t (pt c))<0:=by rw[ag];have:=mpn (show 0<=s by omega) h3;have:=fz ht hc;omega
  have hy0:0<y1:=by
   rcases cC 0 y1 with g|g
   .exact g
   .have:y1=0:=by omega
    subst y1;rw[ag,zK,oW]at h1 h2;exact(hin ⟨by have:=jW hx1 h1;omega,by have:=jW hx1 h2;omega⟩).elim
  have exp:cmb s (cmb x1 (pt c) y1 (pt d)) t (pt c)=cmb (s*x1+t) (pt c) (s*y1) (pt d):=by unfold cmb;simp only[P3.mk.injEq];refine⟨?_,?_,?_⟩<;>grind
  have w1:0<s*x1+t:=by have:=bL hs hx1;omega
  have w2:0<s*y1:=bL hs hy0;have hev:∀f,ev f (cmb s (cmb x1 (pt c) y1 (pt d)) t (pt c))=s*ev f (cmb x1 (pt c) y1 (pt d))+t*ev f (pt c):=λf=>ag _ _ _ _ _;have hr1:=hev (ln (pt a) P);generalize hpp:cmb s (cmb x1 (pt c) y1 (pt d)) t (pt c)=p at*;obtain⟨xq,yq,hxq,hyq,hq⟩:=S.quv;have clash:∀k m:Int,0<k->0<m->cmb k p 0 p=cmb m q 0 q->False:=by
   intro k m hk hm he;have:cmb (k*(s*x1+t)) (pt c) (k*(s*y1)) (pt d)=cmb (m*xq) (pt u) (m*yq) (pt v):=by rw[exp,hq]at he;unfold cmb at he|-;simp only[P3.mk.injEq]at he|-;refine⟨?_,?_,?_⟩<;>grind
   rcases N.apart hcd S.uv _ _ _ _ (bL hk w1) (bL hk w2) (bL hm hxq) (bL hm hyq) this with⟨rfl,rfl⟩|⟨rfl,rfl⟩
   .rw[ag,cH,cX]at h2;omega
   .rw[ag,cH,cX]at h2;omega
  have caseR:ev (ln (pt a) P) p=0->0<=ev (lin v u) p->False:=by
   intro g1 g2;have e1:=S.ang (w:=x) p;have n1:=fz hap hγ;have hap':0<ev (lin a b) p:=by
    rw[g1,du]at e1;have p2:0<ev (lin a b) p*ev (ln (pt a) P) (pt x):=by omega
    rw[gg]at p2;exact jW S.rx p2
   have rz:=bL hs h1;have rc:ev (ln (pt a) P) (pt c)<0:=xd ht (by omega);have rd:0<ev (ln (pt a) P) (pt d):=by rw[ag]at h1;have:=fz hx1 rc;exact jW hy0 (by omega)
   have hf:=S.first d c (N.symm hcd) rd rc p hd0 g1 hap' ⟨s*y1,s*x1+t,w2,w1,by rw[exp,mA]⟩;have k0:ev (lin v u) p=0:=by omega
   have r1:=Pe (a:=a) (b:=b) g1;have r2:=Pe (a:=a) (b:=b) S.qr;have v1:=CA (a:=a) (b:=b) g1 (lin v u);have v2:=CA (a:=a) (b:=b) S.qr (lin v u);rw[k0,du]at v1;rw[S.qk,du]at v2;have hqa:=S.qa;have hka:=S.ka;have hqd:=S.qd;have cross:ev (lin a b) q*p.d=ev (lin a b) p*q.d:=by
    have e3:ev (lin a b) P*ev (lin v u) (pt a)*(ev (lin a b) q*p.d-ev (lin a b) p*q.d)=0:=by generalize ev (lin a b) P=A at*;generalize ev (lin v u) (pt a)=K at*;generalize ev (lin a b) q=aq at*;generalize ev (lin a b) p=ap at*;generalize ev (lin v u) P=KP at*;grind
    rcases cp.1 e3 with g|g
    .have:=bL hap hka;omega
    .omega
   refine clash (ev (lin a b) P*ev (lin a b) q) (ev (lin a b) P*ev (lin a b) p) (bL hap hqa) (bL hap hap') ?_;unfold cmb at r1 r2|-;simp only[P3.mk.injEq]at r1 r2|-;generalize ev (lin a b) P=A at*;generalize ev (lin a b) q=aq at*;generalize ev (lin a b) p=ap at*;refine⟨?_,?_,?_⟩<;>grind
  rcases hp with⟨g1,g2⟩|⟨g1,g2⟩
  .grind
  .by_cases hr0:ev (ln (pt a) P) p=0
   .grind
   .have hrp:0<ev (ln (pt a) P) p:=by omega
    have lq:=Po hvu S.qk g1 S.qr (lin a x);have γq:ev (lin a x) q<0:=by have e1:=S.ang (w:=x) q;rw[S.qr,du]at e1;have:=bL S.qa S.rx;exact xd hap (by omega)
    have hbet:0<ev (ln (pt a) P) (pt u)*p.d-ev (ln (pt a) P) p:=by refine rA.1 λhn=> ?_;have t1:=mnn hn (show ev (lin a x) q<=0 by omega);have t2:=mpp (mpp (show 0<=ev (ln (pt a) P) p by omega) (show 0<=q.d by have:=S.qd;omega)) S.ux;have t3:=fz (bL S.ru S.qd) hγ;omega
    have lx:∀f,ev (ln (pt a) P) (pt u)*q.d*ev f p=(ev (ln (pt a) P) (pt u)*p.d-ev (ln (pt a) P) p)*ev f q+ev (ln (pt a) P) p*q.d*ev f (pt u):=λf=>Po hvu S.qk g1 S.qr f;have cx:=lx ⟨1,0,0⟩;have cy:=lx ⟨0,1,0⟩;have cd:=lx ⟨0,0,1⟩;have ex:∀r:P3,ev ⟨1,0,0⟩ r=r.x:=λr=>by unfold ev;simp
    have ey:∀r:P3,ev ⟨0,1,0⟩ r=r.y:=λr=>by unfold ev;simp
    have ed:∀r:P3,ev ⟨0,0,1⟩ r=r.d:=λr=>by unfold ev;simp
    rw[ex,ex,ex]at cx;rw[ey,ey,ey]at cy;rw[ed,ed,ed]at cd;have hM:0<ev (ln (pt a) P) (pt u)*q.d:=bL S.ru S.qd;have hB:0<ev (ln (pt a) P) p*q.d:=bL hrp S.qd;generalize ev (ln (pt a) P) (pt u)*q.d=M at*;generalize ev (ln (pt a) P) (pt u)*p.d-ev (ln (pt a) P) p=A at*;generalize ev (ln (pt a) P) p*q.d=B at*;have:cmb (M*(s*x1+t)) (pt c) (M*(s*y1)) (pt d)=cmb (A*xq+B) (pt u) (A*yq) (pt v):=by rw[exp,hq]at cx cy cd;unfold cmb at*;simp only[P3.mk.injEq]at*;refine⟨?_,?_,?_⟩<;>grind
    rcases N.apart hcd S.uv _ _ _ _ (bL hM w1) (bL hM w2) (show 0<A*xq+B by have:=bL hbet hxq;omega) (bL hbet hyq) this with⟨rfl,rfl⟩|⟨rfl,rfl⟩
    .rw[ag,cH,cX]at h2;omega
    .rw[ag,cH,cX]at h2;omega
end
end Geo
end
section
namespace Geo
def Ql{α:Type}(f:α->Int):∀l:List α,∃M:Int,0<=M/\∀x∈l,f x<=M/\ -M<=f x
 |[] =>⟨0,kk _,λx hx=>by cases hx⟩
 |x::l=>by
  obtain⟨M,h0,h⟩:=Ql f l;refine⟨M+(f x).natAbs,by omega,λy hy=> ?_⟩;grind
section
variable {W:List V} {side:V->V->Prop} {ins:P3->Bool}
def Lft.start{a b:V}(hne:a≠b)(hL:Lft ins a b)(W:List V):∃(N:Int) (P:P3),0<=N/\In (thin a b N) P/\(∀q,In (thin a b N) q->ins q=true)/\∀w∈W,0<ev (lin a b) (pt w)->0<ev (ln (pt a) P) (pt w):=by
 obtain⟨N0,hN⟩:=hL;have hL2:=i9 hne;have e9:(b.x-a.x)*(b.x-a.x)-(b.y-a.y)* -(b.y-a.y)=bo a b:=by unfold bo;grind
 obtain⟨M0,hM0,hI⟩:=ot hne (x:= -(b.y-a.y)) (y:=b.x-a.x) (by omega) (max N0 0);obtain⟨M1,hM1,hB⟩:=Ql (λw=>ev (ln (pt a) ⟨-(b.y-a.y),b.x-a.x,0⟩) (pt w)) W;refine⟨max N0 0,co a b (M0+M1) (-(b.y-a.y)) (b.x-a.x),by omega,hI _ (by omega),hN _ (by omega),λw hw h=> ?_⟩;have e1:∀M:Int,ev (ln (pt a) (co a b M (-(b.y-a.y)) (b.x-a.x))) (pt w)=M*ev (lin a b) (pt w)+ev (ln (pt a) ⟨-(b.y-a.y),b.x-a.x,0⟩) (pt w):=λM=>by unfold ev ln lin co pt;grind
 rw[e1];have:=hB w hw;have h2:=dS (show 1<=ev (lin a b) (pt w) by omega) (show 0<=M0+M1 by omega);omega
def aAz(a w u:V):ev (lin u a) (pt w)=ev (lin a w) (pt u):=by unfold ev lin pt;grind
open Classical in
def see(H:Filled W side ins){a b:V}(hab:side a b)(hL:Lft ins a b):
  ∃(N:Int) (u v x:V) (P q:P3),0<=N/\In (thin a b N) P/\(∀q,In (thin a b N) q->ins q=true)/\Seen W side a b u v x P q:=by
 have Nt:=H.net;have hne:=Nt.ne hab;obtain⟨N,P,hN0,hP,hin,hW⟩:=hL.start hne W;obtain⟨p0,p1,p2,p3⟩:=mD.1 hP;have hray:ev (ln (pt a) P) P=0:=Bl _ _;have hra:ev (ln (pt a) P) (pt a)=0:=Gm _ _;obtain⟨B,hB0,hB⟩:=H.far;have hfar:∃T:Int,0<=T/\ins (cmb (-(T*P.d)) (pt a) (T+1) P)=false:=by
  have hd:∀T:Int,(cmb (-(T*P.d)) (pt a) (T+1) P).d=P.d:=λT=>by simp only[cmb,pt];grind
  have hx:∀T:Int,(cmb (-(T*P.d)) (pt a) (T+1) P).x=P.x+T*(P.x-a.x*P.d):=λT=>by simp only[cmb,pt];grind
  have hy:∀T:Int,(cmb (-(T*P.d)) (pt a) (T+1) P).y=P.y+T*(P.y-a.y*P.d):=λT=>by simp only[cmb,pt];grind
  have hB2:=mpp hB0 (show 0<=P.d by omega);refine⟨1+B*P.d+P.x.natAbs+P.y.natAbs,by omega,hB _ (by simp_all) ?_⟩;rw[hd,hx,hy];have hδ:P.x-a.x*P.d≠0\/P.y-a.y*P.d≠0:=by
   refine dQ λhn=> ?_;have h1:P.x=a.x*P.d:=by omega
   have h2:P.y=a.y*P.d:=by omega
   have:ev (lin a b) P=0:=by unfold ev lin;rw[h1,h2];grind
   omega
  have grow:∀δ:Int,0<δ->1+B*P.d+P.x.natAbs+P.y.natAbs<=(1+B*P.d+P.x.natAbs+P.y.natAbs)*δ:=λδ h=>by have:=dS (show 1<=δ by omega) (show 0<=1+B*P.d+(P.x.natAbs:Int)+(P.y.natAbs:Int) by omega);omega
  rcases hδ with h|h
  .rcases mR h with g|g
   .have:=grow (-(P.x-a.x*P.d)) (by omega);grind
   .have:=grow _ g;omega
  .rcases mR h with g|g
   .have:=grow (-(P.y-a.y*P.d)) (by omega);grind
   .have:=grow _ g;omega
 obtain⟨T,hT0,hT⟩:=hfar;have hTd:(cmb (-(T*P.d)) (pt a) (T+1) P).d=P.d:=by simp only[cmb,pt];grind
 have hcross:∃c d,side c d/\0<ev (ln (pt a) P) (pt c)/\ev (ln (pt a) P) (pt d)<0/\0<ev (lin a b) (cmb (-(ev (ln (pt a) P) (pt d))) (pt c) (ev (ln (pt a) P) (pt c)) (pt d)):=by
  refine dQ λhn=> ?_;have hs:ins P=ins (cmb (-(T*P.d)) (pt a) (T+1) P):=by
   refine H.same _ _ p0 (by omega) λc d hcd hm=> ?_;obtain⟨x,y,s,t,hx,hy,hxy,hs,ht,he⟩:=hm;have eρ:=congrArg (ev (ln (pt a) P)) he;have eα:=congrArg (ev (lin a b)) he;have ed:=congrArg P3.d he;rw[ag,ag,ag,hray,hra]at eρ;rw[ag,ag,ag,cH,du,zO]at eα;rw[du,du,du,oW,du,oW]at eρ;dsimp only at eρ eα;have hst:0<s\/0<t:=by
    simp only[cmb,pt]at ed;refine dQ λh0=> ?_;have:s=0:=by omega
    have:t=0:=by omega
    subst s t;omega
   have hα:0<x*ev (lin a b) (pt c)+y*ev (lin a b) (pt d):=by
    have g1:=mpp hs (show 0<=ev (lin a b) P by omega);have g2:=mpp ht (show 0<=(T+1)*ev (lin a b) P from mpp (by omega) (by omega));rcases hst with k|k
    .have:=bL k p1;omega
    .have:=bL k (bL (show 0<T+1 by omega) p1);omega
   have hρ:x*ev (ln (pt a) P) (pt c)+y*ev (ln (pt a) P) (pt d)=0:=by omega
   have nv:∀w,w∈W->ev (ln (pt a) P) (pt w)<=0->ev (lin a b) (pt w)<=0:=λw hw h=>by grind
   have hcW:=Nt.mem hcd;have hdW:=Nt.mem (Nt.symm hcd);rcases q9 (ev (ln (pt a) P) (pt c)) 0 with h1|h1|h1
   .have a1:=nv c hcW (by omega);have m1:=mpn hx a1;have hy0:0<y:=by
     rcases cC 0 y with g|g
     .exact g
     .grind
    have a2:0<ev (lin a b) (pt d):=jW hy0 (by omega);have r2:=hW d hdW a2;refine hn ⟨d,c,Nt.symm hcd,r2,h1,?_⟩;rw[ag];have hx0:0<x:=by
     rcases cC 0 x with g|g
     .exact g
     .have:x=0:=by omega
      subst x;have:=bL hy0 r2;omega
    refine jW hx0 ?_;have e2:x*(-(ev (ln (pt a) P) (pt c))*ev (lin a b) (pt d)+ev (ln (pt a) P) (pt d)*ev (lin a b) (pt c))=ev (ln (pt a) P) (pt d)*(x*ev (lin a b) (pt c)+y*ev (lin a b) (pt d)):=by generalize ev (ln (pt a) P) (pt c)=rc at*;generalize ev (ln (pt a) P) (pt d)=rd at*;generalize ev (lin a b) (pt c)=ac at*;generalize ev (lin a b) (pt d)=ad at*;grind
    rw[e2];exact bL r2 hα
   .have a1:=nv c hcW (by omega);have m1:=mpn hx a1;rw[h1]at hρ;have hy0:0<y:=by
     rcases cC 0 y with g|g
     .exact g
     .grind
    have r0:ev (ln (pt a) P) (pt d)=0:=by
     rcases cp.1 (show y*ev (ln (pt a) P) (pt d)=0 by omega)with g|g
     .omega
     .exact g
    have a2:=nv d hdW (by omega);have:=mpn hy a2;omega
   .by_cases hx0:0<x
    .have r2:ev (ln (pt a) P) (pt d)<0:=by have:=bL hx0 h1;refine rA.1 λg=> ?_;have:=mpp hy g;omega
     have hy0:0<y:=by
      rcases cC 0 y with g|g
      .exact g
      .have:y=0:=by omega
       subst y;have:=bL hx0 h1;omega
     refine hn ⟨c,d,hcd,h1,r2,?_⟩;rw[ag];refine jW hy0 ?_;have e2:y*(-(ev (ln (pt a) P) (pt d))*ev (lin a b) (pt c)+ev (ln (pt a) P) (pt c)*ev (lin a b) (pt d))=ev (ln (pt a) P) (pt c)*(x*ev (lin a b) (pt c)+y*ev (lin a b) (pt d)):=by generalize ev (ln (pt a) P) (pt c)=rc at*;generalize ev (ln (pt a) P) (pt d)=rd at*;generalize ev (lin a b) (pt c)=ac at*;generalize ev (lin a b) (pt d)=ad at*;grind
     rw[e2];exact bL h1 hα
    .have x0:x=0:=by omega
     subst x;have hy0:0<y:=by omega
     have r0:ev (ln (pt a) P) (pt d)=0:=by
      rcases cp.1 (show y*ev (ln (pt a) P) (pt d)=0 by omega)with g|g
      .omega
      .exact g
     have a2:=nv d hdW (by omega);have:=mpn hy a2;omega
  rw[hin P hP,hT]at hs;cases hs
 have hl:((W.flatMap λc=>W.map λd=>(c,d)).filter λq=>decide (side q.1 q.2/\0<ev (ln (pt a) P) (pt q.1)/\ev (ln (pt a) P) (pt q.2)<0/\0<ev (lin a b) (cmb (-(ev (ln (pt a) P) (pt q.2))) (pt q.1) (ev (ln (pt a) P) (pt q.1)) (pt q.2))))≠[] :=by obtain⟨c,d,h1,h2⟩:=hcross;exact It (fG.2 ⟨dG.2 ⟨c,Nt.mem h1,bR.2 ⟨d,Nt.mem (Nt.symm h1),rfl⟩⟩,decide_eq_true ⟨h1,h2⟩⟩)
 obtain⟨⟨u,v⟩,huv,hmin⟩:=Bt (λq:V×V=>ev (lin a b) (cmb (-(ev (ln (pt a) P) (pt q.2))) (pt q.1) (ev (ln (pt a) P) (pt q.1)) (pt q.2))) (λq:V×V=>ev (ln (pt a) P) (pt q.1)-ev (ln (pt a) P) (pt q.2)) hl λq hq=>by grind
 have hs:=of_decide_eq_true (fG.1 huv).2;dsimp only at hs hmin;obtain⟨suv,ru,rv,aq⟩:=hs;have uW:=Nt.mem suv;have vW:=Nt.mem (Nt.symm suv);have qd:(cmb (-(ev (ln (pt a) P) (pt v))) (pt u) (ev (ln (pt a) P) (pt u)) (pt v)).d=ev (ln (pt a) P) (pt u)-ev (ln (pt a) P) (pt v):=by show-(ev (ln (pt a) P) (pt v))*1+ev (ln (pt a) P) (pt u)*1=_;omega
 have qr:ev (ln (pt a) P) (cmb (-(ev (ln (pt a) P) (pt v))) (pt u) (ev (ln (pt a) P) (pt u)) (pt v))=0:=by rw[ag,od,gg];omega
 have qk:ev (lin v u) (cmb (-(ev (ln (pt a) P) (pt v))) (pt u) (ev (ln (pt a) P) (pt u)) (pt v))=0:=by rw[ag,cH,cX];omega
 have ka:0<ev (lin v u) (pt a):=by have:=XZ u v a P (lin a b);rw[this,cH,du,Int.zero_sub,<-od]at aq;rw[jy];rw[gg]at aq;exact jW p1 aq
 have av:ev (lin a b) (pt v)<=0:=by refine DJ.1 λg=> ?_;have:=hW v vW g;omega
 have au:0<ev (lin a b) (pt u):=by rw[ag]at aq;have:=mpn (show 0<=ev (ln (pt a) P) (pt u) by omega) av;exact jW (show 0< -(ev (ln (pt a) P) (pt v)) by omega) (by omega)
 have αX:∀w:V,0<ev (ln (pt a) P) (pt w)->0<=ev (lin a w) (pt u)->0<ev (lin a b) (pt w):=λw h1 h2=>by have:=fan (a:=a) (b:=b) (u:=u) (P:=P) (w:=pt w);rw[aAz a w u]at this;have g1:=mpp h2 (show 0<=ev (lin a b) P by omega);have g2:=bL h1 au;exact jW ru (by omega)
 have hX:(W.filter λw=>decide (0<ev (ln (pt a) P) (pt w))&&decide (0<=ev (lin v u) (pt w))&&decide (0<=ev (lin a w) (pt u)))≠[] :=by refine It (a:=u) (fG.2 ⟨uW,?_⟩);rw[decide_eq_true ru,cX,cX];rfl
 have memX:∀{w:V},w∈(W.filter λw=>decide (0<ev (ln (pt a) P) (pt w))&&decide (0<=ev (lin v u) (pt w))&&decide (0<=ev (lin a w) (pt u)))↔(w∈W/\0<ev (ln (pt a) P) (pt w)/\0<=ev (lin v u) (pt w)/\0<=ev (lin a w) (pt u)):=λ{w}=>by grind
 obtain⟨x1,hx1,hm1⟩:=Bt (λw:V=>ev (ln (pt a) P) (pt w)) (λw:V=>ev (lin a b) (pt w)) hX λw hw=>by grind
 have ang:∀w r:V,ev (lin a b) P*ev (lin a w) (pt r)=ev (lin a b) (pt w)*ev (ln (pt a) P) (pt r)-ev (lin a b) (pt r)*ev (ln (pt a) P) (pt w):=λw r=>around;have hX2:((W.filter λw=>decide (0<ev (ln (pt a) P) (pt w))&&decide (0<=ev (lin v u) (pt w))&&decide (0<=ev (lin a w) (pt u))).filter λw=>decide (ev (lin a x1) (pt w)=0))≠[] :=
  It (a:=x1) (fG.2 ⟨hx1,by rw[cX];rfl⟩)
 obtain⟨x,hx2,hm2⟩:=CK (λw:V=> -(ev (lin a b) (pt w))) hX2;obtain⟨hx,hx0⟩:=fG.1 hx2;have hx0:ev (lin a x1) (pt x)=0:=of_decide_eq_true hx0;obtain⟨xW,xr,xk,xs⟩:=memX.1 hx;obtain⟨x1W,x1r,x1k,x1s⟩:=memX.1 hx1;have ax:=αX x xr xs;have ax1:=αX x1 x1r x1s;have eq1:ev (lin a b) (pt x1)*ev (ln (pt a) P) (pt x)=ev (lin a b) (pt x)*ev (ln (pt a) P) (pt x1):=by have:=ang x1 x;rw[hx0,du]at this;omega
 refine⟨N,u,v,x,P,_,hN0,hP,hin,Nt,p1,hW,suv,ru,rv,au,?_,ka,xW,xr,xk,ax,xs,?_,by omega,qr,qk,aq,⟨_,_,by omega,ru,rfl⟩⟩
 .intro c d hcd rc rd p hpd hpr hpa ⟨x',y',hx',hy',hp⟩;have cW:=Nt.mem hcd;have dW:=Nt.mem (Nt.symm hcd);have eρ:=hpr;rw[hp,ag]at eρ;have prop:∀f:P3,ev (ln (pt a) P) (pt c)*ev f p=y'*ev f (cmb (-(ev (ln (pt a) P) (pt d))) (pt c) (ev (ln (pt a) P) (pt c)) (pt d)):=λf=>by rw[hp,ag,ag];grind
  have pα:=prop (lin a b);have pd:=prop ⟨0,0,1⟩;have ed:∀r:P3,ev ⟨0,0,1⟩ r=r.d:=λr=>by unfold ev;simp
  rw[ed,ed]at pd;have cd':(cmb (-(ev (ln (pt a) P) (pt d))) (pt c) (ev (ln (pt a) P) (pt c)) (pt d)).d=ev (ln (pt a) P) (pt c)-ev (ln (pt a) P) (pt d):=by show-(ev (ln (pt a) P) (pt d))*1+ev (ln (pt a) P) (pt c)*1=_;omega
  have hca:0<ev (lin a b) (cmb (-(ev (ln (pt a) P) (pt d))) (pt c) (ev (ln (pt a) P) (pt c)) (pt d)):=
   jW hy' (by rw[<-pα];exact bL rc hpa)
  have hm:=hmin (c,d) (fG.2 ⟨dG.2 ⟨c,cW,bR.2 ⟨d,dW,rfl⟩⟩,decide_eq_true ⟨hcd,rc,rd,hca⟩⟩);dsimp only at hm;rw[<-cd',<-qd]at hm;have v1:=CA (a:=a) (b:=b) hpr (lin v u);have v2:=CA (a:=a) (b:=b) qr (lin v u);rw[qk,du]at v2;have hqd:0<(cmb (-(ev (ln (pt a) P) (pt v))) (pt u) (ev (ln (pt a) P) (pt u)) (pt v)).d:=by rw[qd];omega
  generalize cmb (-(ev (ln (pt a) P) (pt v))) (pt u) (ev (ln (pt a) P) (pt u)) (pt v)=q at*;generalize cmb (-(ev (ln (pt a) P) (pt d))) (pt c) (ev (ln (pt a) P) (pt c)) (pt d)=q' at*;refine DJ.1 λhk=> ?_;have e3:ev (lin a b) P*(ev (lin a b) q*ev (lin v u) p)=ev (lin a b) P*(ev (lin v u) (pt a)*(ev (lin a b) q*p.d-ev (lin a b) p*q.d)):=by generalize ev (lin a b) P=A at*;generalize ev (lin v u) (pt a)=K at*;generalize ev (lin a b) q=aq' at*;generalize ev (lin a b) p=ap at*;generalize ev (lin v u) P=KP at*;generalize ev (lin v u) p=kp at*;grind
  have e4:=nM (show ev (lin a b) P≠0 by omega) e3;have g1:=bL aq hk;have g2:0<ev (lin a b) q*p.d-ev (lin a b) p*q.d:=jW ka (by omega);have g3:=dS hm (show 0<=y' by omega);have g4:ev (ln (pt a) P) (pt c)*(ev (lin a b) q*p.d-ev (lin a b) p*q.d)<=0:=by
   have a1:ev (ln (pt a) P) (pt c)*(ev (lin a b) q*p.d-ev (lin a b) p*q.d)=ev (lin a b) q*(ev (ln (pt a) P) (pt c)*p.d)-(ev (ln (pt a) P) (pt c)*ev (lin a b) p)*q.d:=by grind
   rw[a1,pα,pd];have a2:ev (lin a b) q*(y'*q'.d)=y'*(ev (lin a b) q*q'.d):=by grind
   have a3:y'*ev (lin a b) q'*q.d=y'*(ev (lin a b) q'*q.d):=by grind
   rw[a2,a3];omega
  have:=bL rc g2;omega
 .intro w wW wr wk ws;have hw:=memX.2 ⟨wW,wr,wk,ws⟩;have aw:=αX w wr ws;have h1:=hm1 w hw;have e1:=ang x w;have e2:ev (lin a b) (pt x1)*(ev (lin a b) (pt x)*ev (ln (pt a) P) (pt w)-ev (lin a b) (pt w)*ev (ln (pt a) P) (pt x))=ev (lin a b) (pt x)*(ev (ln (pt a) P) (pt w)*ev (lin a b) (pt x1)-ev (ln (pt a) P) (pt x1)*ev (lin a b) (pt w)):=by generalize ev (lin a b) (pt x1)=A1 at*;generalize ev (lin a b) (pt x)=A at*;generalize ev (lin a b) (pt w)=Aw at*;generalize ev (ln (pt a) P) (pt x1)=R1 at*;generalize ev (ln (pt a) P) (pt x)=R at*;generalize ev (ln (pt a) P) (pt w)=Rw at*;grind
  constructor
  .have g:=mpp (show 0<=ev (lin a b) (pt x) by omega) (show 0<=ev (ln (pt a) P) (pt w)*ev (lin a b) (pt x1)-ev (ln (pt a) P) (pt x1)*ev (lin a b) (pt w) by omega);rw[<-e2]at g;have g2:0<=ev (lin a b) (pt x)*ev (ln (pt a) P) (pt w)-ev (lin a b) (pt w)*ev (ln (pt a) P) (pt x):=by rw[gg]at g;exact nnl ax1 g
   rw[<-e1]at g2;rw[gg]at g2;exact nnl p1 g2
  .intro h0;rw[h0,du]at e1;rw[<-e1,du]at e2;have z:ev (ln (pt a) P) (pt w)*ev (lin a b) (pt x1)-ev (ln (pt a) P) (pt x1)*ev (lin a b) (pt w)=0:=by
    rcases cp.1 e2.symm with g|g
    .omega
    .exact g
   have e3:=ang x1 w;have z2:ev (lin a x1) (pt w)=0:=by
    have:ev (lin a b) P*ev (lin a x1) (pt w)=0:=by rw[e3,gg (ev (lin a b) (pt x1)),gg (ev (lin a b) (pt w))];exact z
    rcases cp.1 this with g|g
    .omega
    .exact g
   grind
def yN{a b x w:V}(h0:ev (lin a x) (pt w)=0)(f:P3):ev (lin a b) (pt x)*ev f (pt w)=(ev (lin a b) (pt x)-ev (lin a b) (pt w))*ev f (pt a)+ev (lin a b) (pt w)*ev f (pt x):=by unfold ev lin pt at*;grind
def aCr{a b x c d:V}(hA:ev (lin a b) (pt x)≠0)(c0:ev (lin a x) (pt c)=0)(d0:ev (lin a x) (pt d)=0):
  cmb (ev (lin a b) (pt d)) (pt c) (-(ev (lin a b) (pt c))) (pt d)=cmb (ev (lin a b) (pt d)-ev (lin a b) (pt c)) (pt a) 0 (pt a):=by
 have rc1:=yN (b:=b) c0 ⟨1,0,0⟩;have rc2:=yN (b:=b) c0 ⟨0,1,0⟩;have rd1:=yN (b:=b) d0 ⟨1,0,0⟩;have rd2:=yN (b:=b) d0 ⟨0,1,0⟩;have ex:∀w:V,ev ⟨1,0,0⟩ (pt w)=w.x:=λw=>by unfold ev pt;simp
 have ey:∀w:V,ev ⟨0,1,0⟩ (pt w)=w.y:=λw=>by unfold ev pt;simp
 rw[ex,ex,ex]at rc1 rd1;rw[ey,ey,ey]at rc2 rd2;clear c0 d0 ex ey;generalize ev (lin a b) (pt x)=A at*;generalize ev (lin a b) (pt c)=C at*;generalize ev (lin a b) (pt d)=D at*;unfold cmb pt;simp only[P3.mk.injEq];refine⟨?_,?_,by omega⟩
 .apply nM hA;grind
 .apply nM hA;grind
def Ya{a x c d:V}{z:P3}{x1 y1 s:Int}(he:cmb x1 (pt c) y1 (pt d)=cmb s (cmb 1 (pt a) 1 (pt x)) 0 z):cmb x1 (pt c) y1 (pt d)=cmb s (pt a) s (pt x):=by rw[he];unfold cmb;grind
def WS(H:Filled W side ins){a b:V}(hab:side a b)(hL:Lft ins a b):∃x,side a x/\0<ev (lin a b) (pt x):=by
 have Nt:=H.net;have hne:=Nt.ne hab;refine dQ λhno=> ?_;obtain⟨N,u,v,x,P,q,hN0,hP,hin,S⟩:=see H hab hL;obtain⟨p0,p1,p2,p3⟩:=mD.1 hP;have hra:ev (ln (pt a) P) (pt a)=0:=Gm _ _;have hka:=S.ka;have hax:=S.ax;have hrx:=S.rx;have hkx:=S.kx;have hane:a≠x:=λe=>by grind
 have vr:∀s t:Int,0<s->0<t->0<ev (ln (pt a) P) (cmb s (pt a) t (pt x)):=λs t hs ht=>by rw[ag,hra];have:=bL ht hrx;omega
 have vk:∀s t:Int,0<s->0<t->0<ev (lin v u) (cmb s (pt a) t (pt x)):=λs t hs ht=>by rw[ag];have:=bL hs hka;have:=mpp (show 0<=t by omega) hkx;omega
 have vg:∀s t:Int,ev (lin a x) (cmb s (pt a) t (pt x))=0:=λs t=>by rw[ag,cH,cX];omega
 have tie:∀w∈W,ev (lin a x) (pt w)=0->0<ev (lin a b) (pt w)->0<=ev (lin v u) (pt w)->ev (lin a b) (pt x)<=ev (lin a b) (pt w):=by
  intro w hw h0 h1 h2;have e1:=S.ang (w:=x) (pt w);rw[h0,du]at e1;have rw':0<ev (ln (pt a) P) (pt w):=S.thinR w hw h1;have eu:=S.ang (w:=x) (pt u);have ew:=S.ang (w:=w) (pt u);have m1:=mpp (show 0<=ev (lin a b) P by omega) S.ux;have e2:ev (lin a b) (pt x)*(ev (lin a b) (pt w)*ev (ln (pt a) P) (pt u)-ev (lin a b) (pt u)*ev (ln (pt a) P) (pt w))=ev (lin a b) (pt w)*(ev (lin a b) (pt x)*ev (ln (pt a) P) (pt u)-ev (lin a b) (pt u)*ev (ln (pt a) P) (pt x)):=by generalize ev (lin a b) (pt x)=A at*;generalize ev (lin a b) (pt w)=Aw at*;generalize ev (ln (pt a) P) (pt x)=R at*;generalize ev (ln (pt a) P) (pt w)=Rw at*;generalize ev (ln (pt a) P) (pt u)=Ru at*;generalize ev (lin a b) (pt u)=Au at*;grind
  have g1:=mpp (show 0<=ev (lin a b) (pt w) by omega) (show 0<=ev (lin a b) (pt x)*ev (ln (pt a) P) (pt u)-ev (lin a b) (pt u)*ev (ln (pt a) P) (pt x) by omega);rw[<-e2,gg]at g1;have g2:=nnl hax g1;rw[<-ew,gg]at g2;exact(S.least w hw rw' h2 (nnl p1 g2)).2 h0
 have hopen:∀c d,side c d->∀x1 y1 s t:Int,0<=x1->0<=y1->0<s->0<t->cmb x1 (pt c) y1 (pt d)≠cmb s (pt a) t (pt x):=by
  intro c d hcd x1 y1 s t hx1 hy1 hs ht he;have zr:=vr s t hs ht;have zk:=vk s t hs ht;have zg:=vg s t;have ed:=congrArg P3.d he;simp only[cmb,pt]at ed;have eα:=congrArg (ev (lin a b)) he;rw[ag,ag,cH]at eα;have m1:=bL ht hax;rw[<-he]at zr zk zg;have hz:=zg;rw[ag]at hz;have n1:¬(0<x1/\ev (lin a x) (pt c)<0):=λ⟨h1,h2⟩=>S.wedge hcd h1 hy1 zr zk (by omega) h2;have n2:¬(0<y1/\ev (lin a x) (pt d)<0):=λ⟨h1,h2⟩=>by rw[mA]at zr zk zg;exact S.wedge (Nt.symm hcd) h1 hx1 zr zk (by omega) h2
  have t1:0<=x1*ev (lin a x) (pt c):=by
   rcases cC 0 x1 with g|g
   .exact mpp hx1 (by omega)
   .grind
  have t2:0<=y1*ev (lin a x) (pt d):=by
   rcases cC 0 y1 with g|g
   .exact mpp hy1 (by omega)
   .grind
  have kr:=zk;rw[ag]at kr;have alone:∀{w:V} {k:Int},w∈W->0<k->k*ev (lin a x) (pt w)=0->k*ev (lin a b) (pt w)=t*ev (lin a b) (pt x)->0<k*ev (lin v u) (pt w)->k=s+t->False:=by
   intro w k hw hk h1 h2 h3 h4;have g0:ev (lin a x) (pt w)=0:=by
    rcases cp.1 h1 with g|g
    .omega
    .exact g
   have:=tie w hw g0 (jW hk (by omega)) (by have:=jW hk h3;omega);have q1:=dS this (show 0<=k by omega);rw[h2,h4,pq]at q1;have:=bL hs hax;omega
  by_cases hx0:x1=0
  .subst x1;exact alone (Nt.mem (Nt.symm hcd)) (show 0<y1 by omega) (by omega) (by omega) (by omega) (by omega)
  by_cases hy0:y1=0
  .subst y1;exact alone (Nt.mem hcd) (show 0<x1 by omega) (by omega) (by omega) (by omega) (by omega)
  have c0:ev (lin a x) (pt c)=0:=by
   rcases cp.1 (show x1*ev (lin a x) (pt c)=0 by omega)with g|g
   .omega
   .exact g
  have d0:ev (lin a x) (pt d)=0:=by
   rcases cp.1 (show y1*ev (lin a x) (pt d)=0 by omega)with g|g
   .omega
   .exact g
  have fin:∀{c d:V} {x1 y1:Int},side c d->0<x1->0<y1->ev (lin a x) (pt c)=0->ev (lin a x) (pt d)=0->x1*ev (lin a b) (pt c)+y1*ev (lin a b) (pt d)=t*ev (lin a b) (pt x)->x1+y1=s+t->ev (lin a b) (pt c)<=ev (lin a b) (pt d)->False:=by
   intro c d x1 y1 hcd hx1 hy1 c0 d0 hs1 hs2 hle;have hca:c≠a:=λe=>by subst e;rw[cH]at hs1;exact hno ⟨d,hcd,jW hy1 (by omega)⟩
   have hda:d≠a:=λe=>by subst e;rw[cH]at hs1;exact hno ⟨c,Nt.symm hcd,jW hx1 (by omega)⟩
   rcases cC 0 (ev (lin a b) (pt c))with g|g
   ·
    have hlt:ev (lin a b) (pt c)<ev (lin a b) (pt x):=by
     have q1:=dS hle (show 0<=y1 by omega);have q2:(s+t)*ev (lin a b) (pt c)<=t*ev (lin a b) (pt x):=by rw[<-hs2,pq];omega
     have q3:=bL hs hax;refine rA.1 λh=> ?_;have q4:=dS h (show 0<=s+t by omega);have q5:(s+t)*ev (lin a b) (pt x)=s*ev (lin a b) (pt x)+t*ev (lin a b) (pt x):=pq _ _ _;omega
    have hk:0<=ev (lin v u) (pt c):=by have r:=yN (b:=b) c0 (lin v u);have q1:=mpp (show 0<=ev (lin a b) (pt x)-ev (lin a b) (pt c) by omega) (show 0<=ev (lin v u) (pt a) by omega);have q2:=mpp (show 0<=ev (lin a b) (pt c) by omega) hkx;exact nnl hax (by grind)
    have:=tie c (Nt.mem hcd) c0 g hk;omega
   ·
    have hd:0<ev (lin a b) (pt d):=by have:=mpn (show 0<=x1 by omega) g;exact jW hy1 (by omega)
    have k:a=c\/a=d:=Nt.clear hcd (Nt.mem hab) (ev (lin a b) (pt d)) (-(ev (lin a b) (pt c))) (ev (lin a b) (pt d)-ev (lin a b) (pt c)) (by omega) (by omega) (aCr (by omega) c0 d0) (by omega);grind
  rcases wn (ev (lin a b) (pt c)) (ev (lin a b) (pt d))with h|h
  .exact fin (x1:=x1) (y1:=y1) hcd (by omega) (by omega) c0 d0 (by omega) (by omega) h
  .exact fin (x1:=y1) (y1:=x1) (Nt.symm hcd) (by omega) (by omega) d0 c0 (by omega) (by omega) h
 have hG:∀c d,side c d->fZ [ln (pt a) P,lin x a,lin v u] ⟨c,d⟩:=by
  intro c d hcd;refine Gl λx1 y1 hx1 hy1 hxy hq=> ?_;have e1:∀g:P3,x1*ev g (pt c)+y1*ev g (pt d)=ev g (cmb x1 (pt c) y1 (pt d)):=λg=>(ag _ _ _ _ _).symm;simp only[bI,cq,or_false,forall_eq_or_imp,forall_eq,e1]at hq;obtain⟨h1,h2,h3⟩:=hq;rw[jy]at h2;have h2':=h2;rw[ag]at h2';by_cases hc:x1*ev (lin a x) (pt c)<0
  .have hx0:0<x1:=by
    rcases cC 0 x1 with g|g
    .exact g
    .grind
   exact S.wedge hcd hx0 hy1 h1 h3 (by omega) (xd hx0 hc)
  .have hd:y1*ev (lin a x) (pt d)<0:=by omega
   have hy0:0<y1:=by
    rcases cC 0 y1 with g|g
    .exact g
    .grind
   rw[mA]at h1 h2 h3;exact S.wedge (Nt.symm hcd) hy0 hx1 h1 h3 (by omega) (xd hy0 hd)
 have hγP:ev (lin a x) P<0:=by have:=S.ang (w:=x) P;rw[show ev (ln (pt a) P) P=0 from Bl _ _,du]at this;have:=bL p1 hrx;exact xd p1 (by omega)
 have hL2:=i9 hne;have hpt:∃z,In [ln (pt a) P,lin x a,lin v u] z/\In (thin a b N) z:=by
  let K:Int:=1+(ev (m6 a b N) (pt x)).natAbs
  have hK:0<K:=by show 0<1+((ev (m6 a b N) (pt x)).natAbs:Int);omega
  have hKdef:ev (m6 a b N) (pt x)<=K-1/\ -(K-1)<=ev (m6 a b N) (pt x):=by show _<=1+((ev (m6 a b N) (pt x)).natAbs:Int)-1/\_;omega
  have hFa:1<=ev (m6 a b N) P:=by rw[l9];omega
  generalize K=K at*;obtain⟨M,hM⟩:∃M:Int,0<=M/\0<M*ev (lin v u) (pt a)+(K*ev (lin v u) P+ev (lin v u) (pt x))/\0<M*bo a b+(K*(ev (ae b a) P-N*ev (lin a b) P)+(ev (ae b a) (pt x)-N*ev (lin a b) (pt x))):=by
   refine⟨1+(K*ev (lin v u) P+ev (lin v u) (pt x)).natAbs+(K*(ev (ae b a) P-N*ev (lin a b) P)+(ev (ae b a) (pt x)-N*ev (lin a b) (pt x))).natAbs,by omega,?_,?_⟩
   .have:=dS (show 1<=ev (lin v u) (pt a) by omega) (show 0<=1+((K*ev (lin v u) P+ev (lin v u) (pt x)).natAbs:Int)+((K*(ev (ae b a) P-N*ev (lin a b) P)+(ev (ae b a) (pt x)-N*ev (lin a b) (pt x))).natAbs:Int) by omega);omega
   .have:=dS (show 1<=bo a b by omega) (show 0<=1+((K*ev (lin v u) P+ev (lin v u) (pt x)).natAbs:Int)+((K*(ev (ae b a) P-N*ev (lin a b) P)+(ev (ae b a) (pt x)-N*ev (lin a b) (pt x))).natAbs:Int) by omega);omega
  obtain⟨hM0,hM1,hM2⟩:=hM;have hzd:0<(cmb 1 (cmb M (pt a) K P) 1 (pt x)).d:=by simp only[cmb,pt];have:=bL hK p0;omega
  refine⟨cmb 1 (cmb M (pt a) K P) 1 (pt x),⟨hzd,?_⟩,?_⟩
  .simp only[bI,cq,or_false,forall_eq_or_imp,forall_eq];refine⟨?_,?_,?_⟩
   .rw[ag,ag,hra,show ev (ln (pt a) P) P=0 from Bl _ _];omega
   .rw[jy,ag,ag,cH,cX];have:=fz hK hγP;omega
   .rw[ag,ag];omega
  .rw[mD];refine⟨hzd,?_,?_,?_⟩
   .rw[ag,ag,cH];have:=bL hK p1;omega
   .have g:0<ev (m6 a b N) (cmb 1 (cmb M (pt a) K P) 1 (pt x)):=by
     rw[ag,ag];have z:ev (m6 a b N) (pt a)=0:=by rw[l9,k9,cH];omega
     rw[z];have:=dS hFa (show 0<=K by omega);omega
    rw[l9]at g;omega
   .rw[ag,ag,ag,ag,qQ,BA,cH];grind
 obtain⟨z,hz1,hz2⟩:=hpt;have hzi:=hin z hz2;refine hno ⟨x,H.max a (Nt.mem hab) x S.mem hane hopen ?_,hax⟩;rw[<-hzi];refine H.same _ _ (by simp only[cmb,pt];omega) hz1.1 λc d hcd hm=> ?_;obtain⟨x1,y1,s,t,hx1,hy1,hxy,hs,ht,he⟩:=hm;rcases cC 0 t with ht0|ht0
 .obtain⟨f,hf,g⟩:=hG c d hcd x1 y1 hx1 hy1 hxy;have eF:=congrArg (ev f) he;rw[ag,ag]at eF;change x1*ev f (pt c)+y1*ev f (pt d)<=0 at g;change x1*ev f (pt c)+y1*ev f (pt d)=_ at eF;have g1:=bL ht0 (hz1.2 f hf);have g2:0<=s*ev f (cmb 1 (pt a) 1 (pt x)):=mpp hs (by
   simp only[bI,cq,or_false]at hf;rcases hf with rfl|rfl|rfl
   .grind
   .rw[jy,vg];omega
   grind)
  omega
 .have t0:t=0:=by omega
  subst t0;have hs0:0<s:=by
   have:=congrArg P3.d he;simp only[cmb,pt]at this;rcases cC 0 s with g|g
   .exact g
   .omega
  exact hopen c d hcd x1 y1 s s hx1 hy1 hs0 hs0 (Ya he)
end
end Geo
end
section
namespace Geo
section
variable {W:List V} {side:V->V->Prop} {ins:P3->Bool}
structure Tri(W:List V)(side:V->V->Prop)(ins:P3->Bool)(a b c:V):Prop where
 ab:side a b
 bc:side b c
 ca:side c a
 left:0<ev (lin a b) (pt c)
 empty:∀w∈W,0<=ev (lin a b) (pt w)->0<=ev (lin b c) (pt w)->0<=ev (lin c a) (pt w)->w=a\/w=b\/w=c
 mid:ins ⟨a.x+b.x+c.x,a.y+b.y+c.y,3⟩=true
def ctr(a b c:V):P3:=⟨a.x+b.x+c.x,a.y+b.y+c.y,3⟩
def Tri.rot{a b c:V}(h:Tri W side ins a b c):Tri W side ins b c a:=by
 refine⟨h.bc,h.ca,h.ab,by rw[iH];exact h.left,λw hw h1 h2 h3=> ?_,?_⟩
 .rcases h.empty w hw h3 h1 h2 with e|e|e
  .grind
  .exact .inl e
  grind
 .have:=h.mid;grind
def CJ{a b c:V}(h:0<ev (lin a b) (pt c)):In [lin a b,lin b c,lin c a] (ctr a b c):=by
 refine⟨by show(0:Int)<3;omega,?_⟩;have e:∀f:P3,ev f (ctr a b c)=ev f (pt a)+ev f (pt b)+ev f (pt c):=λf=>by unfold ev ctr pt;grind
 have e1:ev (lin c a) (pt b)=ev (lin a b) (pt c):=by unfold ev lin pt;grind
 simp only[bI,cq,or_false,forall_eq_or_imp,forall_eq];refine⟨?_,?_,?_⟩
 .rw[e,cH,cX];omega
 .rw[e,cH,cX,iH a b c];omega
 .rw[e,cH,cX,e1];omega
def X8(N:Net W side){a b c:V}(hab:side a b)(hbc:side b c)(hca:side c a)(hD:0<ev (lin a b) (pt c))(hv:∀w∈W,0<=ev (lin a b) (pt w)->0<=ev (lin b c) (pt w)->0<=ev (lin c a) (pt w)->w=a\/w=b\/w=c):
  ∀u v,side u v->fZ [lin a b,lin b c,lin c a] ⟨u,v⟩:=by
 have sector:∀x,side a x->¬(0<ev (lin a b) (pt x)/\0<ev (lin c a) (pt x)):=by
  rintro x hax ⟨h1,h2⟩;by_cases h3:0<=ev (lin b c) (pt x)
  .rcases hv x (N.mem (N.symm hax)) (by omega) h3 (by omega)with e|e|e<;>subst e
   .rw[cH]at h1;omega
   .rw[cX]at h1;omega
   .rw[cH]at h2;omega
  ·
   have hp:ev (lin b c) (cmb (-(ev (lin b c) (pt x))) (pt a) (ev (lin a b) (pt c)) (pt x))=0:=by rw[ag,iH a b c,od,gg];omega
   have g:=qP (a:=b) (b:=c) (c:=a) hp;rw[iH a b c]at g;have p1:=bL hD h1;have p2:=bL hD h2;have v1:ev (lin c a) (cmb (-(ev (lin b c) (pt x))) (pt a) (ev (lin a b) (pt c)) (pt x))=ev (lin a b) (pt c)*ev (lin c a) (pt x):=by rw[ag,cX];omega
   have v2:ev (lin a b) (cmb (-(ev (lin b c) (pt x))) (pt a) (ev (lin a b) (pt c)) (pt x))=ev (lin a b) (pt c)*ev (lin a b) (pt x):=by rw[ag,cH];omega
   rw[v1,v2]at g;have:cmb (ev (lin a b) (pt c)* -(ev (lin b c) (pt x))) (pt a) (ev (lin a b) (pt c)*ev (lin a b) (pt c)) (pt x)=cmb (ev (lin a b) (pt c)*ev (lin c a) (pt x)) (pt b) (ev (lin a b) (pt c)*ev (lin a b) (pt x)) (pt c):=by rw[g];unfold cmb;simp only[P3.mk.injEq];refine⟨?_,?_,?_⟩<;>grind
   rcases N.apart hax hbc _ _ _ _ (bL hD (by omega)) (bL hD hD) p2 p1 this with⟨rfl,rfl⟩|⟨rfl,rfl⟩
   .exact N.ne hab rfl
   .exact N.ne hca rfl
 have K:Corner W side a b c 0:=by
  refine⟨hab,N.symm hca,hD,sector,kk _,λw hw ha h1 h2=> ?_⟩;refine DJ.1 λh3=> ?_;rcases hv w hw h1 (by omega) h2 with e|e|e
  .exact ha e
  .rw[e,cH]at h3;omega
  .rw[e,cX]at h3;omega
 intro u v huv x y hx hy hxy;obtain⟨f,hf,g⟩:=K.free N huv x y hx hy hxy;simp only[bI,cq,or_false]at hf;rcases hf with rfl|rfl|rfl
 .grind
 .grind
 .have e3:∀w:V,ev (over b c 0) (pt w)=ev (lin b c) (pt w):=λw=>by rw[mE];omega
  grind
def Tri.free(N:Net W side){a b c:V}(h:Tri W side ins a b c):∀u v,side u v->fZ [lin a b,lin b c,lin c a] ⟨u,v⟩:=X8 N h.ab h.bc h.ca h.left h.empty
open Classical in
def X7(H:Filled W side ins){a b:V}(hab:side a b)(hL:Lft ins a b):∃c,Tri W side ins a b c:=by
 have N:=H.net;have hne:=N.ne hab;have hL2:=i9 hne;obtain⟨x0,hx0,hα0⟩:=WS H hab hL;have hl:(W.filter λx=>decide (side a x/\0<ev (lin a b) (pt x)))≠[] :=It (fG.2 ⟨N.mem (N.symm hx0),by grind⟩);obtain⟨c,hc,hm⟩:=Bt (λx:V=> -(ev (ae a b) (pt x))) (λx:V=>ev (lin a b) (pt x)) hl (by grind);obtain⟨hac,hD⟩:=of_decide_eq_true (fG.1 hc).2;have ang:∀x:V,bo a b*ev (lin a c) (pt x)=ev (ae a b) (pt c)*ev (lin a b) (pt x)-ev (lin a b) (pt c)*ev (ae a b) (pt x):=λx=>by unfold bo ev ae lin pt;grind
 have hn:∀x,side a x->¬(0<ev (lin a b) (pt x)/\0<ev (lin c a) (pt x)):=by rintro x hx ⟨h1,h2⟩;have:=hm x (fG.2 ⟨N.mem (N.symm hx),by grind⟩);have e1:=ang x;rw[jy]at h2;have:=fz hL2 (show ev (lin a c) (pt x)<0 by omega);rw[od,od]at*;have e2:ev (lin a b) (pt c)*ev (ae a b) (pt x)=ev (ae a b) (pt x)*ev (lin a b) (pt c):=gg _ _;omega
 obtain⟨e1,e2,e3,e4⟩:=ear H hab hac hD hn hL;refine⟨c,hab,e4,N.symm hac,hD,e1,e3 _ ?_⟩;obtain⟨c0,c1⟩:=CJ hD;refine⟨c0,λf hf=> ?_⟩;simp only[bI,cq,or_false]at hf;rcases hf with rfl|rfl|rfl
 .exact c1 _ (by simp)
 .exact c1 _ (by simp)
 .have:=c1 (lin b c) (by simp);rw[mE];show 0<ev (lin b c) (ctr a b c)-0*3;omega
def VF(N:Net W side){a b c c':V}(h:Tri W side ins a b c)(h':Tri W side ins a b c'):c=c':=by
 refine dQ λhne=> ?_;have cW:=N.mem h.ca;have cW':=N.mem h'.ca;have d:=h.left;have d':=h'.left;have hca:c≠a:=N.ne h.ca;have hca':c'≠a:=N.ne h'.ca;have hcb:c≠b:=λe=>N.ne h.bc e.symm;have hcb':c'≠b:=λe=>N.ne h'.bc e.symm;have n1:¬(0<=ev (lin b c) (pt c')/\0<=ev (lin c a) (pt c')):=λ⟨h1,h2⟩=>by
  rcases h.empty c' cW' (by omega) h1 h2 with e|e|e
  .exact hca' e
  .exact hcb' e
  grind
 have n2:¬(0<=ev (lin b c') (pt c)/\0<=ev (lin c' a) (pt c)):=λ⟨h1,h2⟩=>by
  rcases h'.empty c cW (by omega) h1 h2 with e|e|e
  .exact hca e
  .exact hcb e
  grind
 have s1:ev (lin b c') (pt c)= -ev (lin b c) (pt c'):=by unfold ev lin pt;grind
 have s2:ev (lin c' a) (pt c)= -ev (lin c a) (pt c'):=by unfold ev lin pt;grind
 have key:∀{c c':V},side c a->side b c->side c' a->side b c'->c≠c'->0<ev (lin a b) (pt c)->0<ev (lin a b) (pt c')->ev (lin b c) (pt c')<0->0<ev (lin c a) (pt c')->False:=by
  intro c c' hca hbc hca' hbc' hne d d' h1 h2;have hp:ev (lin b c) (cmb (-(ev (lin b c) (pt c'))) (pt a) (ev (lin a b) (pt c)) (pt c'))=0:=by rw[ag,iH a b c,od,gg];omega
  have g:=qP (a:=b) (b:=c) (c:=a) hp;rw[iH a b c]at g;have v1:ev (lin c a) (cmb (-(ev (lin b c) (pt c'))) (pt a) (ev (lin a b) (pt c)) (pt c'))=ev (lin a b) (pt c)*ev (lin c a) (pt c'):=by rw[ag,cX];omega
  have v2:ev (lin a b) (cmb (-(ev (lin b c) (pt c'))) (pt a) (ev (lin a b) (pt c)) (pt c'))=ev (lin a b) (pt c)*ev (lin a b) (pt c'):=by rw[ag,cH];omega
  rw[v1,v2]at g;have:cmb (ev (lin a b) (pt c)* -(ev (lin b c) (pt c'))) (pt a) (ev (lin a b) (pt c)*ev (lin a b) (pt c)) (pt c')=cmb (ev (lin a b) (pt c)*ev (lin c a) (pt c')) (pt b) (ev (lin a b) (pt c)*ev (lin a b) (pt c')) (pt c):=by rw[g];unfold cmb;simp only[P3.mk.injEq];refine⟨?_,?_,?_⟩<;>grind
  rcases N.apart (N.symm hca') hbc _ _ _ _ (bL d (by omega)) (bL d d) (bL d h2) (bL d d') this with⟨e,e'⟩|⟨e,e'⟩
  .grind
  .exact N.ne hbc' e'.symm
 by_cases g:ev (lin b c) (pt c')<0
 .refine key h.ca h.bc h'.ca h'.bc hne d d' g ?_;omega
 .have g3:ev (lin b c') (pt c)<0:=by omega
  exact key h'.ca h'.bc h.ca h.bc (by grind) d' d g3 (by omega)
end
end Geo
end
section
namespace Geo
section
variable {W:List V} {side:V->V->Prop} {ins:P3->Bool}
def Net.ray(N:Net W side){a b v:V}(hab:side a b)(hav:side a v)(h0:ev (lin a b) (pt v)=0)(h1:0<=ev (ae a b) (pt v)):v=b:=by
 have hL:=i9 (N.ne hab);have g:=lS h0;by_cases h2:ev (ae a b) (pt v)<=bo a b
 .rcases N.clear hab (N.mem (N.symm hav)) (bo a b*(pt v).d-ev (ae a b) (pt v)) (ev (ae a b) (pt v)) (bo a b) (by show 0<=bo a b*1-_;omega) h1 (by rw[g];unfold cmb pt;simp) hL with e|e
  .exact absurd e.symm (N.ne hav)
  .exact e
 .rcases N.clear hav (N.mem (N.symm hab)) (ev (ae a b) (pt v)-bo a b) (bo a b) (ev (ae a b) (pt v)) (by omega) (by omega) (by unfold cmb pt at g|-;grind) (by omega)with e|e
  .exact absurd e.symm (N.ne hab)
  grind
def ur(s t:Int)(a b:V):(cmb s (pt a) t (pt b)).d=s+t:=by unfold cmb pt;simp
def Net.off(N:Net W side){a b u v:V}(hab:side a b)(huv:side u v):Off a b ⟨u,v⟩\/(u=a/\v=b)\/(u=b/\v=a):=by
 have ray:∀{a b v:V},side a b->side a v->v=b\/(ev (lin a b) (pt v)≠0\/ev (ae a b) (pt v)<0):=λ{a b v} hab hav=>by
  by_cases h0:ev (lin a b) (pt v)=0
  .by_cases h1:0<=ev (ae a b) (pt v)
   .exact .inl (N.ray hab hav h0 h1)
   omega
  omega
 have ray':∀{a b v:V},side a b->side b v->v=a\/(ev (lin a b) (pt v)≠0\/ev (ae b a) (pt v)<0):=λ{a b v} hab hbv=>by
  rcases ray (N.symm hab) hbv with e|e|e
  .exact .inl e
  .exact .inr (.inl (by rw[jy]at e;omega))
  omega
 by_cases hm:fY ⟨u,v⟩ (pt a) (pt b)
 .obtain⟨x,y,s,t,hx,hy,hxy,hs,ht,e⟩:=hm;have hd:=congrArg P3.d e;rw[ur,ur]at hd;have one:u=a\/u=b\/v=a\/v=b:=by
   rcases cC 0 x with hx'|hx'
   .rcases cC 0 y with hy'|hy'
    .rcases N.same hab huv hx' hy' hs ht e with⟨e1,_⟩|⟨e1,_⟩
     .exact .inl e1
     grind
    .have y0:y=0:=by omega
     subst y0;rcases N.clear hab (N.mem huv) s t x hs ht (by rw[<-e];unfold cmb;simp) hx' with e1|e1
     .exact .inl e1
     grind
   .have x0:x=0:=by omega
    subst x0;rcases N.clear hab (N.mem (N.symm huv)) s t y hs ht (by rw[<-e];unfold cmb;simp) (by omega)with e1|e1
    .grind
    grind
  rcases one with rfl|rfl|rfl|rfl
  .rcases ray hab huv with e1|e1
   .grind
   .exact .inl ⟨N.ne huv,.inr (.inl ⟨rfl,e1⟩)⟩
  .rcases ray' hab huv with e1|e1
   .grind
   .exact .inl ⟨N.ne huv,.inr (.inr (.inr (.inl ⟨rfl,e1⟩)))⟩
  .rcases ray hab (N.symm huv)with e1|e1
   .grind
   .exact .inl ⟨N.ne huv,.inr (.inr (.inl ⟨rfl,e1⟩))⟩
  .rcases ray' hab (N.symm huv)with e1|e1
   .grind
   .exact .inl ⟨N.ne huv,.inr (.inr (.inr (.inr ⟨rfl,e1⟩)))⟩
 .exact .inl ⟨N.ne huv,.inl hm⟩
open Classical in
def Net.thin(N:Net W side){a b:V}(hab:side a b):∃N0:Int,1<=N0/\∀n,N0<=n->∀u v,side u v->fZ (thin a b n) ⟨u,v⟩:=by
 obtain⟨N0,h1,h2⟩:=MP (N.ne hab) (l:=(W.flatMap λu=>W.map λv=>(⟨u,v⟩:S)).filter λe=>decide (side e.a e.b)) λe he=>by have:=of_decide_eq_true (fG.1 he).2;exact N.off hab this
 refine⟨N0,h1,λn hn u v huv=>h2 n hn ⟨u,v⟩ (fG.2 ⟨?_,decide_eq_true huv⟩)⟩;exact dG.2 ⟨u,N.mem huv,bR.2 ⟨v,N.mem (N.symm huv),rfl⟩⟩
def rJ{a b:V}{n m:Int}(hnm:n<=m){q:P3}(h:In (thin a b m) q):In (thin a b n) q:=by obtain⟨h0,h1,h2,h3⟩:=mD.1 h;have:=ls hnm (show 0<=ev (lin a b) q by omega);exact mD.2 ⟨h0,h1,by omega,by omega⟩
open Classical in
def Ei{a b c:V}(hne:a≠b)(n:Int){h:Int}(hc:0<ev (lin a b) (pt c))(hh:h<ev (lin a b) (pt c)):∃q,In (thin a b n) q/\In [lin a b,lin c a,over b c h] q:=by obtain⟨q,h1,h2⟩:=Lft.near (ins:=λp=>decide (In (thin a b n) p)) hne ⟨n,λm hm q hq=>decide_eq_true (rJ hm hq)⟩ hc hh;grind
def xj{a b:V}(hne:a≠b)(n:Int):∃q,In (thin a b n) q:=by
 have hL2:=i9 hne;have e9:(b.x-a.x)*(b.x-a.x)-(b.y-a.y)* -(b.y-a.y)=bo a b:=by unfold bo;grind
 obtain⟨M0,hM0,hI⟩:=ot hne (x:= -(b.y-a.y)) (y:=b.x-a.x) (by omega) n;exact⟨_,hI _ (kk _)⟩
structure Calm(W:List V)(side:V->V->Prop)(ins:P3->Bool):Prop where
 net:Net W side
 same:∀p q:P3,0<p.d->0<q.d->(∀u v,side u v->¬fY ⟨u,v⟩ p q)->ins p=ins q
def Filled.calm(H:Filled W side ins):Calm W side ins:=⟨H.net,H.same⟩
def Calm.const(H:Calm W side ins){F:List P3}(hF:∀u v,side u v->fZ F ⟨u,v⟩){p q:P3}(hp:In F p)(hq:In F q):ins p=ins q:=
 H.same p q hp.1 hq.1 λu v huv=>(hF u v huv).no hp hq
def yZ(H:Calm W side ins){a b:V}(hab:side a b)(h:∀n:Int,∃q,In (Geo.thin a b n) q/\ins q=true):Lft ins a b:=by obtain⟨N0,h1,h2⟩:=H.net.thin hab;obtain⟨q,hq,hi⟩:=h N0;refine⟨N0,λn hn p hp=> ?_⟩;rw[<-hi];exact H.const (h2 N0 (kk _)) (rJ hn hp) hq
def Lft.not{a b:V}(hne:a≠b)(h:Lft ins a b):¬Lft (λp=> !ins p) a b:=by obtain⟨n,h⟩:=h;rintro⟨m,h'⟩;obtain⟨q,hq⟩:=xj hne (max n m);grind
def aBJ(H:Calm W side ins){a b:V}(hab:side a b):Lft ins a b\/Lft (λp=> !ins p) a b:=by
 obtain⟨N0,h1,h2⟩:=H.net.thin hab;obtain⟨q,hq⟩:=xj (H.net.ne hab) N0;by_cases hi:ins q=true
 .exact .inl ⟨N0,λn hn p hp=>by rw[<-hi];exact H.const (h2 N0 (kk _)) (rJ hn hp) hq⟩
 .exact .inr ⟨N0,λn hn p hp=>by show(!ins p)=true;rw[<-H.const (h2 N0 (kk _)) hq (rJ hn hp)];grind⟩
def Tri.lft(H:Filled W side ins){a b c:V}(h:Tri W side ins a b c):Lft ins a b:=by
 have N:=H.net;refine yZ H.calm h.ab λn=> ?_;obtain⟨q,hq,hq'⟩:=Ei (N.ne h.ab) n h.left (h:=0) h.left;refine⟨q,hq,?_⟩;have:=h.mid;rw[<-this];refine H.const (h.free N) ⟨hq.1,λf hf=> ?_⟩ (CJ h.left);simp only[bI,cq,or_false]at hf;rcases hf with rfl|rfl|rfl
 .exact hq'.2 _ (by simp)
 .have:=hq'.2 (over b c 0) (by simp);rw[mE]at this;omega
 .exact hq'.2 _ (by simp)
end
end Geo
end
section
namespace Geo
def LY{a b v:V}{s t k:Int}(h1:aX a 4000=true)(h2:aX b 4000=true)(hs:0<=s)(ht:0<=t)(hk:0<k)(h:cmb s (pt a) t (pt b)=cmb k (pt v) 0 (pt v)):onS ⟨a,b⟩ v=true:=by
 have hv:bD ⟨a,b⟩=true:=by unfold bD;simp[h1,h2]
 rw[gi hv];simp only[cmb,pt,P3.mk.injEq]at h;have box:∀p q r:Int,s*p+t*q=k*r->min p q<=r/\r<=max p q:=λp q r h=>by
  have e:k=s+t:=by omega
  have l1:k*min p q<=k*r:=by have:=dS (Int.min_le_left p q) hs;have:=dS (Int.min_le_right p q) ht;rw[<-h,e,pq];omega
  have l2:k*r<=k*max p q:=by have:=dS (Int.le_max_left p q) hs;have:=dS (Int.le_max_right p q) ht;rw[<-h,e,pq];omega
  simp_all
 refine⟨?_,?_⟩
 .unfold fW;grind
 .have:k*cross (sub b a) (sub v a)=0:=by
   have e:k=s+t:=by omega
   subst e;unfold cross sub;dsimp only;grind
  rcases cp.1 this with g|g
  .omega
  .exact g
def aCq{a b c d:V}(hne:c≠d)(h1:ev (lin c d) (pt a)=0)(h2:ev (lin c d) (pt b)=0):ev (lin a b) (pt c)=0:=by
 have g1:=lS h1;have g2:=lS h2;have hL:=i9 hne;have e:bo c d*(bo c d*ev (lin a b) (pt c))=0:=by generalize ev (ae c d) (pt a)=α at*;generalize ev (ae c d) (pt b)=β at*;generalize bo c d=L at*;unfold cmb pt at g1 g2;simp only[P3.mk.injEq]at g1 g2;unfold ev lin pt;dsimp only;grind
 rcases cp.1 e with g|g
 .omega
 .rcases cp.1 g with g|g
  .omega
  .exact g
structure Segs(W:List V)(side:V->V->Prop):Prop where
 symm:∀{a b},side a b->side b a
 ne:∀{a b},side a b->a≠b
 mem:∀{a b},side a b->a∈W
 near:∀v∈W,aX v 4000=true
 clear:∀{a b v},side a b->v∈W->onS ⟨a,b⟩ v=true->v=a\/v=b
 cross:∀{a b c d},side a b->side c d->cF ⟨a,b⟩ ⟨c,d⟩≠2
def MK{a b c d:V}{s t:Int}(hs:0<s)(ht:0<t)(h:s*ev (lin a b) (pt c)+t*ev (lin a b) (pt d)=0)(hc:ev (lin a b) (pt c)≠0):turn a b c*turn a b d<0:=by
 unfold turn;rw[xT,<-dt,<-dt];rcases mR hc with g|g
 .have:=fz hs g;exact .inr ⟨g,S7 (a:=t) (by omega) (by omega)⟩
 .have:=bL hs g;refine .inl ⟨g,rA.1 λh'=> ?_⟩;have:=mpp (show 0<=t by omega) h';omega
section
variable {W:List V} {side:V->V->Prop}
def Segs.clear'(H:Segs W side){a b v:V}(hab:side a b)(hv:v∈W)(s t k:Int)(hs:0<=s)(ht:0<=t)(h:cmb s (pt a) t (pt b)=cmb k (pt v) 0 (pt v))(hk:0<k):v=a\/v=b:=
 H.clear hab hv (LY (H.near _ (H.mem hab)) (H.near _ (H.mem (H.symm hab))) hs ht hk h)
def Segs.beyond(H:Segs W side){a b c d:V}(hab:side a b)(hcd:side c d)(hc:ev (lin a b) (pt c)=0)(hd:ev (lin a b) (pt d)=0)
  (h1:ev (ae a b) (pt c)<ev (ae a b) (pt d)) {x y s t:Int} (hx:0<x) (hy:0<y) (hs:0<s) (ht:0<t) (h:cmb x (pt a) y (pt b)=cmb s (pt c) t (pt d)):a=c/\b=d:=by
 have hL:=i9 (H.ne hab);have gc:=lS hc;have gd:=lS hd;have wc:=H.mem hcd;have wd:=H.mem (H.symm hcd);have e1:x*ev (ae a b) (pt a)+y*ev (ae a b) (pt b)=s*ev (ae a b) (pt c)+t*ev (ae a b) (pt d):=by rw[<-ag,<-ag,h]
 rw[k9,qQ]at e1;have ed:=congrArg P3.d h;rw[ur,ur]at ed;have one:∀v:V,(pt v).d=1:=λ_=>rfl;rw[one]at gc gd;have p1:=bL hy hL;have c0:ev (ae a b) (pt c)<bo a b:=rA.1 λg=>by
  have:=dS g (show 0<=s by omega);have:=Iu (show bo a b<ev (ae a b) (pt d) by omega) ht;have e:(x+y)*bo a b=(s+t)*bo a b:=by rw[ed]
  rw[pq,pq]at e;have:=bL hx hL;omega
 have d0:0<ev (ae a b) (pt d):=rA.1 λg=>by have:=mpn (show 0<=t by omega) g;have:=fz hs (show ev (ae a b) (pt c)<0 by omega);omega
 have hac:a=c:=by
  rcases cC (ev (ae a b) (pt c)) 0 with g|g
  .rcases H.clear' hcd (H.mem hab) (ev (ae a b) (pt d)) (-(ev (ae a b) (pt c))) (ev (ae a b) (pt d)-ev (ae a b) (pt c)) (by omega) (by omega) (by
    unfold cmb pt at gc gd|-;simp only[P3.mk.injEq]at gc gd|-;have hL0:bo a b≠0:=by omega
    refine⟨?_,?_,?_⟩
    .refine nM hL0 ?_;grind
    .refine nM hL0 ?_;grind
    .omega) (by omega)with e|e
   .exact e
   .rw[<-e,k9]at d0;omega
  .rcases H.clear' hab wc (bo a b-ev (ae a b) (pt c)) (ev (ae a b) (pt c)) (bo a b) (by omega) g (by rw[zL]at gc;rw[gc];unfold cmb pt;simp) hL with e|e
   .exact e.symm
   .rw[e,qQ]at c0;omega
 refine⟨hac,?_⟩;rcases cC (bo a b) (ev (ae a b) (pt d))with g|g
 .rcases H.clear' hcd (H.mem (H.symm hab)) (ev (ae a b) (pt d)-bo a b) (bo a b) (ev (ae a b) (pt d)) (by omega) (by omega) (by unfold cmb pt at gd|-;grind) (by omega)with e|e
  .exact absurd (by grind) (H.ne hab)
  .exact e
 .rcases H.clear' hab wd (bo a b-ev (ae a b) (pt d)) (ev (ae a b) (pt d)) (bo a b) (by omega) (by omega) (by rw[zL]at gd;rw[gd];unfold cmb pt;simp) hL with e|e
  .grind
  grind
def Segs.net(H:Segs W side):Net W side:=by
 refine⟨H.symm,H.ne,H.mem,λhab hv s t k hs ht h hk=>H.clear' hab hv s t k hs ht h hk,?_⟩;intro a b c d hab hcd x y s t hx hy hs ht h;have na:=H.near _ (H.mem hab);have nb:=H.near _ (H.mem (H.symm hab));have nc:=H.near _ (H.mem hcd);have nd:=H.near _ (H.mem (H.symm hcd));have f1:s*ev (lin a b) (pt c)+t*ev (lin a b) (pt d)=0:=by rw[<-ag,<-h,ag,cH,cX];omega
 have f2:x*ev (lin c d) (pt a)+y*ev (lin c d) (pt b)=0:=by rw[<-ag,h,ag,cH,cX];omega
 by_cases hc:ev (lin a b) (pt c)=0
 .have hd:ev (lin a b) (pt d)=0:=by
   rw[hc,du,zO]at f1;rcases cp.1 f1 with g|g
   .omega
   .exact g
  rcases cC (ev (ae a b) (pt c)) (ev (ae a b) (pt d))with g|g
  .exact .inl (H.beyond hab hcd hc hd g hx hy hs ht h)
  .rcases cC (ev (ae a b) (pt d)) (ev (ae a b) (pt c))with g'|g'
   .obtain⟨e1,e2⟩:=H.beyond hab (H.symm hcd) hd hc g' hx hy ht hs (by rw[h,mA]);grind
   .exfalso;have gc:=lS hc;have gd:=lS hd;rw[show ev (ae a b) (pt d)=ev (ae a b) (pt c) by omega]at gd;have hL:=i9 (H.ne hab);have one:∀v:V,(pt v).d=1:=λ_=>rfl;rw[one]at gc gd;rw[gc]at gd;simp only[P3.mk.injEq,pt]at gd;have q1:=nM (by grind) gd.1;have q2:=nM (by grind) gd.2.1;refine H.ne hcd ?_;cases c;simp_all
 .exfalso;have ha:ev (lin c d) (pt a)≠0:=λg=>by
   have g2:ev (lin c d) (pt b)=0:=by
    rw[g,du,zO]at f2;rcases cp.1 f2 with g|g
    .omega
    .exact g
   have k1:=aCq (a:=a) (b:=b) (H.ne hcd) g g2;exact hc k1
  have hd:ev (lin a b) (pt d)≠0:=λg=>by
   rw[g,du,oW]at f1;rcases cp.1 f1 with g|g
   .omega
   .exact hc g
  refine H.cross hab hcd ((o9 ⟨a,b⟩ ⟨c,d⟩).cross (by simp[bD,na,nb,nc,nd]) ?_ ⟨MK hs ht f1 hc,MK hx hy f2 ha⟩);rintro p hp ⟨o1,o2⟩;have z1:ev (lin a b) (pt p)=0:=by rw[dt];exact((gi (by simp[bD,na,nb])).1 o1).2
  simp only[bI,cq,or_false]at hp;have z2:ev (lin c d) (pt p)=0:=by rw[dt];exact((gi (by simp[bD,nc,nd])).1 o2).2
  rcases hp with rfl|rfl|rfl|rfl
  .exact ha z2
  .rw[z2,du,oW]at f2;rcases cp.1 f2 with g|g
   .omega
   .exact ha g
  .exact hc z1
  omega
end
end Geo
end
namespace Geo
def aAd{a b:V}{p:P3}(hne:a≠b)(h0:ev (lin a b) p=0)(x1:min a.x b.x*p.d<=p.x)(x2:p.x<=max a.x b.x*p.d)(y1:min a.y b.y*p.d<=p.y)(y2:p.y<=max a.y b.y*p.d):
  ∃x y k:Int,0<=x/\0<=y/\0<k/\x+y=k*p.d/\cmb x (pt a) y (pt b)=⟨k*p.x,k*p.y,k*p.d⟩:=by
 have hL:=i9 hne;have g:=lS h0;have one:∀u v q:Int,min u v*p.d<=q->q<=max u v*p.d->0<=(v-u)*(q-u*p.d)/\0<=(v-u)*(v*p.d-q):=λu v q h1 h2=>by
  rcases wn u v with h|h
  .rw[Int.min_eq_left h]at h1;rw[Int.max_eq_right h]at h2;exact⟨mpp (by omega) (by omega),mpp (by omega) (by omega)⟩
  .rw[Int.min_eq_right h]at h1;rw[Int.max_eq_left h]at h2;exact⟨mnn (by omega) (by omega),mnn (by omega) (by omega)⟩
 obtain⟨u1,u2⟩:=one _ _ _ x1 x2;obtain⟨v1,v2⟩:=one _ _ _ y1 y2;have ea:ev (ae a b) p=(b.x-a.x)*(p.x-a.x*p.d)+(b.y-a.y)*(p.y-a.y*p.d):=by unfold ev ae;grind
 have eb:bo a b*p.d-ev (ae a b) p=(b.x-a.x)*(b.x*p.d-p.x)+(b.y-a.y)*(b.y*p.d-p.y):=by unfold ev ae bo;grind
 exact⟨bo a b*p.d-ev (ae a b) p,ev (ae a b) p,bo a b,by omega,by omega,hL,by omega,g⟩
def HG{e:S}{p:Pt}(hp:0<p.den)(hne:e.a≠e.b)(h:onP e p=true):∃x y k:Int,0<=x/\0<=y/\0<k/\x+y=k*p.den/\cmb x (pt e.a) y (pt e.b)=⟨k*p.x,k*p.y,k*p.den⟩:=by rw[QX e p hp]at h;unfold onR at h;simp only[bj,decide_eq_true_eq,beq_iff_eq,o4]at h;obtain⟨⟨⟨⟨h1,h2⟩,h3⟩,h4⟩,h5⟩:=h;exact aAd (p:=p3 p) hne (by rw[<-h5];unfold fP cross sub toV ev lin p3;grind) h1 h2 h3 h4
def Gb{e:S}{v:V}(hv:bD e=true)(hne:e.a≠e.b)(h:onS e v=true):∃x y k:Int,0<=x/\0<=y/\0<k/\x+y=k/\cmb x (pt e.a) y (pt e.b)=cmb k (pt v) 0 (pt v):=by obtain⟨x,y,k,h1,h2,h3,h4,h5⟩:=HG (p:=dq v) (by show(0:Int)<1;omega) hne ((Fj e v).2 ((gi hv).1 h));refine⟨x,y,k,h1,h2,h3,by rw[h4];show k*1=k;omega,?_⟩;rw[h5];unfold cmb pt dq;simp
def My{a b v:V}(ha:aX a 4000=true)(hb:aX b 4000=true):onS ⟨b,a⟩ v=onS ⟨a,b⟩ v:=by
 have v1:bD ⟨a,b⟩=true:=by simp[bD,ha,hb]
 have v2:bD ⟨b,a⟩=true:=by simp[bD,ha,hb]
 rw[fL,gi v1,gi v2];have e1:fW ⟨b,a⟩ v=fW ⟨a,b⟩ v:=by unfold fW;dsimp only;rw[Int.min_comm,Int.max_comm,Int.min_comm b.y,Int.max_comm b.y]
 have e2:cross (sub a b) (sub v b)= -cross (sub b a) (sub v a):=K4 b a v;grind
def yH{p:Pt}:∀{l:List S} {ins:Bool},(∃e∈l,onP e p=true)->eE p l ins=1
 |[],_,⟨e,he,_⟩=>by cases he
 |e::l,ins,⟨e',he',ho⟩=>by
  unfold eE;cases h:onP e p with
  |true=>rfl
  |false=>
   rcases bI.1 he' with rfl|he'
   .grind
   .exact yH ⟨e',he',ho⟩
def aAF{k:Int}(hk:0<k)(p:P3)(e:S):hit ⟨k*p.x,k*p.y,k*p.d⟩ e=hit p e:=by
 have e1:∀w,dn ⟨k*p.x,k*p.y,k*p.d⟩ w=dn p w:=λw=>decide_eq_decide.2 (by rw[show w.y*(k*p.d)=k*(w.y*p.d) by grind];simp_all)
 have e2:decide (0<ev (lin e.a e.b) ⟨k*p.x,k*p.y,k*p.d⟩)=decide (0<ev (lin e.a e.b) p):=decide_eq_decide.2 (by rw[show ev (lin e.a e.b) ⟨k*p.x,k*p.y,k*p.d⟩=k*ev (lin e.a e.b) p by unfold ev;grind];exact⟨λh=>S7 h (by omega),λh=>bL hk h⟩)
 unfold hit;grind
def yJ{k:Int}(hk:0<k)(r:aD)(p:P3):cK r ⟨k*p.x,k*p.y,k*p.d⟩=cK r p:=by
 unfold cK
 congr 1
 exact mU λe _=>aAF hk p e
def half(c:S):P3:=cmb 1 (pt c.a) 1 (pt c.b)
def O9(c:S):∃k:Int,0<k/\half c=⟨k*(p3 (gP c)).x,k*(p3 (gP c)).y,k*(p3 (gP c)).d⟩:=by
 unfold gP;split
 .refine⟨2,by omega,?_⟩;unfold half cmb pt p3;grind
 .refine⟨1,by omega,?_⟩;unfold half cmb pt p3;grind
def Ve(c:S):0<(gP c).den:=by unfold gP;grind
def WP{r:aD}(hr:VR r){c:S}(ha:aX c.a 2000=true)(hb:aX c.b 2000=true)(h:∀e∈aJ r,∀x y s:Int,0<=x->0<=y->0<s->cmb x (pt e.a) y (pt e.b)≠cmb s (pt c.a) s (pt c.b)):
  bg r (gP c)=if cK r (half c)then 2 else 0:=by
 obtain⟨k,hk,e⟩:=O9 c;rw[Ai hr (Dm ha hb) λe' he'=> ?_,e,yJ hk];refine pu.2 λho=> ?_;have hne:=hr.rb he';obtain⟨x,y,m,h1,h2,h3,h4,h5⟩:=HG (Ve c) hne ho;refine h e' he' (k*x) (k*y) m (mpp (by omega) h1) (mpp (by omega) h2) h3 ?_;unfold half at e;unfold cmb p3 at*;grind
def Om{r:aD}(hr:VR r){c:S}(ha:aX c.a 2000=true)(hb:aX c.b 2000=true)(h:bg r (gP c)≠1):bg r (gP c)=if cK r (half c)then 2 else 0:=by obtain⟨k,hk,e⟩:=O9 c;rw[Ai hr (Dm ha hb) λe' he'=> ?_,e,yJ hk];refine pu.2 λho=>h ?_;unfold bg;rw[(iF _).2 hr,Dm ha hb];exact yH ⟨e',he',ho⟩
end Geo
namespace Geo
structure Most(s:Shape)(v:List V)(acc:List S)(i k:Nat):Prop where
 chord:∀d∈acc,iK s d=true
 apart:acc.Pairwise λd e=>bi d e≠2
 most:∀a b,a<b->b<v.length->(a<i\/(a=i/\b<k))->iK s ⟨nth v a,nth v b⟩=true->(⟨nth v a,nth v b⟩:S)∈acc\/∃d∈acc,bi d ⟨nth v a,nth v b⟩=2
def WV{s:Shape}{v:List V}{acc:List S}{i k:Nat}(h:Most s v acc i k):Most s v (pP s v acc i k) i (k+1):=by
 have up:∀{acc':List S},(∀d∈acc,d∈acc')->((iK s ⟨nth v i,nth v k⟩=true)->(⟨nth v i,nth v k⟩:S)∈acc'\/∃d∈acc',bi d ⟨nth v i,nth v k⟩=2)->
   ∀a b,a<b->b<v.length->(a<i\/(a=i/\b<k+1))->iK s ⟨nth v a,nth v b⟩=true->(⟨nth v a,nth v b⟩:S)∈acc'\/∃d∈acc',bi d ⟨nth v a,nth v b⟩=2:=by
  intro acc' hs hn a b hab hb hl hc;by_cases he:a=i/\b=k
  .grind
  .rcases h.most a b hab hb (by omega) hc with h1|⟨d,h1,h2⟩
   .grind
   grind
 unfold pP;cases hc:iK s ⟨nth v i,nth v k⟩&&(acc.all λd=>bi d ⟨nth v i,nth v k⟩ !=2)with
 |true=>
  rw[if_pos rfl];rw[bj,bh]at hc;refine⟨λd hd=> ?_,?_,by grind⟩
  .rcases bl.1 hd with hd|hd
   .exact h.chord d hd
   grind
  .rw[S3];refine⟨h.apart,by grind,λd hd e he=> ?_⟩;grind
 |false=>
  refine⟨h.chord,h.apart,up (λd hd=>hd) λh1=> ?_⟩;grind
def Mg{s:Shape}{v:List V}{acc:List S}{i:Nat}(h:Most s v acc i (i+1)):∀m,Most s v (qv s v acc i m) i (i+1+m)
 |0=>h
 |m+1=>WV (Mg h m)
def Nq(s:Shape)(v:List V):∀i,Most s v (iJ s v i) i (i+1)
 |0=>⟨(λd hd=>by cases hd),wi,(by grind)⟩
 |i+1=>by
  have h:=Mg (Nq s v i) (v.length-(i+1));exact⟨h.chord,h.apart,λa b h1 h2 h3=>h.most a b h1 h2 (by omega)⟩
def FH(s:Shape)(v:List V):Most s v (nA s v) v.length (v.length+1):=Nq s v v.length
end Geo
namespace Geo
def Fr{s t:S}(h:cF s t=2):(bD s&&bD t)=true/\(∀p,p∈ends s t->¬cE s t p)/\turn s.a s.b t.a*turn s.a s.b t.b<0/\turn t.a t.b s.a*turn t.a t.b s.b<0:=by
 have M:=o9 s t;have hv:(bD s&&bD t)=true:=by
  cases hv:(bD s&&bD t)with
  |true=>rfl
  |false=>have:=M.none hv;omega
 have hn:∀p,p∈ends s t->¬cE s t p:=by
  intro p hp ho;by_cases hu:∀p q,p∈[s.a,s.b,t.a,t.b]->q∈[s.a,s.b,t.a,t.b]->cE s t p->cE s t q->p=q
  .have:=M.touch hv hu ⟨p,hp,ho⟩;omega
  .refine hu λp q hp hq o1 o2=>dQ λhne=> ?_;have:=M.over p q hp hq hne o1 o2;omega
 refine⟨hv,hn,dQ λhc=> ?_⟩;have:=M.else_ hv hn hc;omega
def Ae{s t:S}{p:V}(hp:p∈ends s t)(ho:cE s t p):cF s t≠2:=λh=>(Fr h).2.1 p hp ho
def K5(a b c:V):turn b a c= -turn a b c:=by unfold turn;rw[show cross (sub a b) (sub c b)= -cross (sub b a) (sub c a) by have:=K4 a b c;omega];unfold sgn;grind
def xo{a b:V}{t:S}(h:cF ⟨b,a⟩ t=2):cF ⟨a,b⟩ t=2:=by
 obtain⟨h1,h2,h3,h4⟩:=Fr h;have hva:aX a 4000=true/\aX b 4000=true:=by simp[bD]at h1;grind
 have hv:(bD ⟨a,b⟩&&bD t)=true:=by simp[bD]at h1|-;grind
 refine(o9 ⟨a,b⟩ t).cross hv (λp hp ho=>h2 p ?_ ?_) ⟨?_,?_⟩
 .rw[kR];grind
 .obtain⟨o1,o2⟩:=ho;exact⟨by rw[My hva.1 hva.2];exact o1,o2⟩
 .rw[K5 b a,K5 b a,Int.neg_mul_neg];exact h3
 grind
def eC(B:List S)(a b:V):Prop:=(⟨a,b⟩:S)∈B\/(⟨b,a⟩:S)∈B
def OF{W:List V}{B:List S}(hn:∀v∈W,aX v 4000=true)(hw:∀e∈B,e.a∈W/\e.b∈W/\e.a≠e.b)(hc:∀e∈B,∀v∈W,onS e v=true->v=e.a\/v=e.b)(hx:∀e∈B,∀d∈B,cF e d≠2):Segs W (eC B):=by
 refine⟨λh=>h.symm,λh=> ?_,λh=> ?_,hn,λh hv ho=> ?_,λh h' hm=> ?_⟩
 .rcases h with h|h
  .grind
  grind
 .rcases h with h|h
  .grind
  grind
 .rcases h with h|h
  .grind
  .rw[My (hn _ (hw _ h).1) (by grind)]at ho;grind
 .rcases h with h|h<;>rcases h' with h'|h'
  .grind
  .exact hx _ h _ h' (by rw[mi]at hm|-;exact xo hm)
  .exact hx _ h _ h' (xo hm)
  .exact hx _ h _ h' (by have:=xo hm;rw[mi]at this|-;exact xo this)
def VR.nocross{r:aD}(h:VR r){e d:S}(he:e∈aJ r)(hd:d∈aJ r):cF e d≠2:=by
 obtain⟨_,i,hi,rfl⟩:=i7.1 he;obtain⟨_,k,hk,rfl⟩:=i7.1 hd;have vi:=jw h.near i hi;have main:∀i k,i<r.length->k<r.length->i<k->cF (bO r i) (bO r k)≠2:=λi k hi hk hik=>by
  have vi:=jw h.near i hi;have vk:=jw h.near k hk;by_cases e1:k=i+1
  .have e2:(bO r i).b=(bO r k).a:=by show nth r ((i+1) % r.length)=nth r k;rw[dh (by omega),e1]
   exact Ae (p:=(bO r i).b) (by rw[kR];simp) ⟨jp vi,by rw[e2];exact fQ vk⟩
  .by_cases e1:i=0/\k=r.length-1
   .have e2:(bO r k).b=(bO r i).a:=by show nth r ((k+1) % r.length)=nth r i;rw[e1.1,e1.2,show r.length-1+1=r.length by omega,kj]
    exact Ae (p:=(bO r i).a) (by rw[kR];simp) ⟨fQ vi,by rw[<-e2];exact jp vk⟩
   .have:=h.apart i k hik hk (by omega) e1;omega
 rcases zM i k with g|g|g
 .grind
 .subst g;exact Ae (p:=(bO r i).a) (by rw[kR];simp) ⟨fQ vi,fQ vi⟩
 .rw[mi];grind
def BL{α:Type}{R:α->α->Prop}(hs:∀a b,R a b->R b a):∀{l:List α},l.Pairwise R->∀a∈l,∀b∈l,a=b\/R a b
 |[],_,a,ha,_,_=>by cases ha
 |x::l,h,a,ha,b,hb=>by
  rw[iS]at h;rcases bI.1 ha with e|ha'<;>rcases bI.1 hb with e'|hb'
  .grind
  .grind
  .grind
  .exact BL hs h.2 a ha' b hb'
def VS.nocross{s:Shape}(h:VS s){e d:S}(he:e∈ao s)(hd:d∈ao s):cF e d≠2:=by
 obtain⟨r,hr,he⟩:=dG.1 he;obtain⟨q,hq,hd⟩:=dG.1 hd;rcases BL (λa b h=>by rw[uo];exact h) h.pair r hr q hq with rfl|g
 .exact(h.ring hr).nocross he hd
 .unfold fH at g;grind
def Eb{s:Shape}{e:S}(he:e∈ao s):e.a∈bk s/\e.b∈bk s:=by obtain⟨r,hr,he⟩:=dG.1 he;obtain⟨h1,h2⟩:=i8 he;exact⟨lu.2 ⟨r,hr,h1⟩,lu.2 ⟨r,hr,h2⟩⟩
structure Tg(s:Shape)(D:List S):Prop where
 vs:VS s
 chord:∀d∈D,ia s d=true
 ends:∀d∈D,d.a∈bk s/\d.b∈bk s/\d.a≠d.b
 apart:∀d∈D,∀e∈D,cF d e≠2
 most:∀a∈bk s,∀b∈bk s,a≠b->ia s ⟨a,b⟩=true->ia s ⟨b,a⟩=true->(⟨a,b⟩:S)∈D\/(⟨b,a⟩:S)∈D\/∃d∈D,cF d ⟨a,b⟩=2
 once:D.Pairwise λd e=>d≠e/\d≠⟨e.b,e.a⟩
def sides(s:Shape)(D:List S):V->V->Prop:=eC (ao s++D)
def Tg.segs{s:Shape}{D:List S}(T:Tg s D):Segs (bk s) (sides s D):=by
 have h:=T.vs;have hn:∀v∈bk s,aX v 4000=true:=λv hv=>ko (i6 h hv) (by omega);have ed:∀e∈ao s,∀d∈D,cF e d≠2:=λe he d hd hm=>by have:=T.chord d hd;unfold ia at this;rw[bj,bh]at this;unfold cU at this;grind
 refine OF hn (λe he=> ?_) (λe he v hv ho=> ?_) (λe he d hd=> ?_)
 .rcases bl.1 he with he|he
  .exact⟨(Eb he).1,(Eb he).2,h.rb he⟩
  .exact T.ends e he
 .rcases bl.1 he with he|he
  .exact h.touch hv he ho
  .exact EJ h (T.chord e he) hv ho
 .rcases bl.1 he with he|he<;>rcases bl.1 hd with hd|hd
  .exact h.nocross he hd
  .grind
  .rw[mi];grind
  .exact T.apart e he d hd
end Geo
namespace Geo
def c8(s:Shape)(p:P3):Bool:=cK s.outer p&&s.holes.all λh=> !(cK h p)
def JX{a b p:V}{y k:Int}(hk:0<k)(h:cmb 0 (pt a) y (pt b)=cmb k (pt p) 0 (pt p)):p=b:=by
 simp only[cmb,pt,P3.mk.injEq]at h;have e:y=k:=by omega
 subst e;have q1:=nM (by grind) (show y*b.x=y*p.x by omega);have q2:=nM (by grind) (show y*b.y=y*p.y by omega);cases p;cases b;grind
def Na{a b u w:V}(h1:turn a b u*turn a b w<0)(h2:turn u w a*turn u w b<0):∃x y s t:Int,0<x/\0<y/\0<s/\0<t/\cmb x (pt a) y (pt b)=cmb s (pt u) t (pt w):=by
 unfold turn at h1 h2;rw[xT,<-dt,<-dt]at h1 h2;have g:=gc a b (pt u) (pt w);rw[<-aBI]at g;have e:ev (lin u w) (pt b)-ev (lin u w) (pt a)=ev (lin a b) (pt u)-ev (lin a b) (pt w):=by unfold ev lin pt;grind
 rcases h1 with⟨p1,p2⟩|⟨p1,p2⟩
 .exact⟨_,_,_,_,by omega,by omega,by omega,by omega,g⟩
 .refine⟨-(ev (lin u w) (pt b)),ev (lin u w) (pt a),ev (lin a b) (pt w),-(ev (lin a b) (pt u)),by omega,by omega,by omega,by omega,?_⟩;unfold cmb at g|-;grind
def Xu{e c:S}(ve:bD e=true)(vc:bD c=true)(hne:e.a≠e.b)(hcne:c.a≠c.b)
  (hno:∀x y s t:Int,0<=x->0<=y->0<s->0<t->cmb x (pt e.a) y (pt e.b)≠cmb s (pt c.a) t (pt c.b)) (hte:∀p,p=c.a\/p=c.b->onS e p=true->p=e.a\/p=e.b):cU e c=true:=by
 have A:∀p,cE e c p->p=c.a\/p=c.b:=by
  rintro p ⟨o1,o2⟩;obtain⟨x,y,k,h1,h2,h3,h4,h5⟩:=Gb ve hne o1;obtain⟨s,t,m,g1,g2,g3,g4,g5⟩:=Gb vc hcne o2;rcases cC 0 s with hs|hs
  .rcases cC 0 t with ht|ht
   .refine absurd ?_ (hno (m*x) (m*y) (k*s) (k*t) (mpp (by omega) h1) (mpp (by omega) h2) (bL h3 hs) (bL h3 ht));unfold cmb pt at*;grind
   .have:t=0:=by omega
    subst this;exact .inl (JX g3 (by rw[mA];exact g5))
  .have:s=0:=by omega
   subst this;exact .inr (JX g3 g5)
 have M:=o9 e c;have hv:(bD e&&bD c)=true:=by rw[ve,vc];rfl
 unfold cU;by_cases hp:∃p,p∈ends e c/\cE e c p
 .obtain⟨p,hp,ho⟩:=hp;have c1:=A p ho;have c2:=hte p c1 ho.1;have k1:cF e c=1:=by
   refine M.touch hv (λq r hq hr oq or=>dQ λhqr=> ?_) ⟨p,hp,ho⟩;have q1:=A q oq;have r1:=A r or;have q2:=hte q q1 oq.1;have r2:=hte r r1 or.1;have:(e.a=c.a/\e.b=c.b)\/(e.a=c.b/\e.b=c.a):=by grind
   rcases this with⟨w1,w2⟩|⟨w1,w2⟩
   .exact hno 1 1 1 1 (by omega) (by omega) (by omega) (by omega) (by rw[w1,w2])
   .exact hno 1 1 1 1 (by omega) (by omega) (by omega) (by omega) (by rw[w1,w2,mA])
  have k2:vh e c=true:=by rw[AU];grind
  grind
 .have k0:cF e c=0:=by refine M.else_ hv (λp hp' ho=>hp ⟨p,hp',ho⟩) λ⟨h1,h2⟩=> ?_;obtain⟨x,y,s,t,hx,hy,hs,ht,g⟩:=Na h1 h2;grind
  rw[k0];rfl
def Nf{s:Shape}(h:VS s){u w:V}(hu:u∈bk s)(hw:w∈bk s)(hne:u≠w)(hno:∀e∈ao s,∀x y s t:Int,0<=x->0<=y->0<s->0<t->cmb x (pt e.a) y (pt e.b)≠cmb s (pt u) t (pt w))
  (hi:c8 s (cmb 1 (pt u) 1 (pt w))=true):ia s ⟨u,w⟩=true:=by
 have nu:=i6 h hu;have nw:=i6 h hw;unfold ia;rw[bj,bh];refine⟨λe he=>Xu (J3 h he) (by unfold bD;rw[ko nu (by omega),ko nw (by omega)];rfl) (h.rb he) hne (hno e he) λp hp ho=> ?_,?_⟩
 .refine h.touch ?_ he ho;grind
 .rw[beq_iff_eq,AG];have mem:∀r∈aE s,∀e∈aJ r,e∈ao s:=λr hr e he=>dG.2 ⟨r,hr,he⟩;have wm:∀r∈aE s,bg r (gP ⟨u,w⟩)=if cK r (half ⟨u,w⟩)then 2 else 0:=λr hr=>
   WP (h.ring hr) nu nw (by grind)
  unfold c8 at hi;rw[bj,bh]at hi;refine⟨(qC s).2 h,?_,λq hq=> ?_⟩
  .rw[wm _ cI];exact if_pos hi.1
  .rw[wm _ (cG _ hq)];have:=hi.2 q hq;exact if_neg (by unfold half;grind)
def ZY{s:Shape}(h:VS s){c:S}(ha:c.a∈bk s)(hb:c.b∈bk s)(hc:ia s c=true):c8 s (half c)=true:=by
 unfold ia at hc;rw[bj,beq_iff_eq,AG]at hc;have na:=i6 h ha;have nb:=i6 h hb;unfold c8;rw[bj,bh];refine⟨?_,λq hq=> ?_⟩
 .have:=Om h.outer na nb (by omega);grind
 .have:=Om (h.ring (cG _ hq)) na nb (by grind);grind
def Kz:∀l:List S,dp (l.map λ_=>false)=false
 |[] =>rfl
 |e::l=>by show(false !=dp (l.map λ_=>false))=false;rw[Kz l];rfl
def OW{r:aD}(h2:2<=r.length)(hn:∀v∈r,-2000<=v.x/\v.x<=2000/\ -2000<=v.y/\v.y<=2000){q:P3}(hq:0<q.d)(h:2000*q.d<q.x\/q.x< -(2000*q.d)\/2000*q.d<q.y\/q.y< -(2000*q.d)):cK r q=false:=by
 have flat:∀q:P3,0<q.d->(2000*q.d<q.y\/q.y< -(2000*q.d))->cK r q=false:=by
  intro q hq h;have dnq:∀v∈r,dn q v=decide (2000*q.d<q.y):=λv hv=>decide_eq_decide.2 (by obtain⟨_,_,h3,h4⟩:=hn v hv;have l1:=ls h3 (show 0<=q.d by omega);have l2:=ls h4 (show 0<=q.d by omega);omega)
  have:∀e∈aJ r,hit q e=false:=λe he=>by obtain⟨ha,hb⟩:=i8 he;unfold hit;grind
  unfold cK;rw[mU (g:=λ_=>false) this];exact Kz _
 by_cases hy:2000*q.d<q.y\/q.y< -(2000*q.d)
 .grind
 .have hx:2000*q.d<q.x\/q.x< -(2000*q.d):=by omega
  rw[vI (q:=⟨q.x,q.y+4001*q.d,q.d⟩) h2 hq hq λe he=> ?_]
  .grind
  .rintro⟨x,y,s,t,hx0,hy0,hxy,hs,ht,g⟩;obtain⟨ha,hb⟩:=i8 he;simp only[cmb,pt,P3.mk.injEq]at g;have a1:=hn _ ha;have b1:=hn _ hb;have l1:=dS a1.1 hx0;have l2:=dS a1.2.1 hx0;have l3:=dS b1.1 hy0;have l4:=dS b1.2.1 hy0;have hst:0<s+t:=by
    refine rA.1 λh=> ?_;have:s=0:=by omega
    have:t=0:=by omega
    subst s t;omega
   rcases hx with hx|hx
   .have:=Iu hx hst;grind
   .have:=Iu hx hst;grind
def Fd{r:aD}(h:VR r):∀v∈r,-2000<=v.x/\v.x<=2000/\ -2000<=v.y/\v.y<=2000:=λv hv=>by have:=Fo h.near hv;unfold aX at this;grind
def NH{s:Shape}(h:VS s){p q:P3}(hp:0<p.d)(hq:0<q.d)(hm:∀e∈ao s,¬fY e p q):c8 s p=c8 s q:=by
 have key:∀r∈aE s,cK r p=cK r q:=λr hr=>vI (by have:=(h.ring hr).three;omega) hp hq λe he=>hm e (dG.2 ⟨r,hr,he⟩);unfold c8;rw[key _ cI]
 congr 1
 rw[fL,bh,bh];constructor
 .intro g r hr;rw[<-key r (cG _ hr)];exact g r hr
 .intro g r hr;rw[key r (cG _ hr)];exact g r hr
def Tg.filled{s:Shape}{D:List S}(T:Tg s D):Filled (bk s) (sides s D) (c8 s):=by
 have h:=T.vs;refine⟨T.segs.net,λp q hp hq hm=> ?_,λu hu w hw hne hno hi=> ?_,⟨2000,by omega,λq hq hf=> ?_⟩⟩
 .exact NH h hp hq λe he=>hm e.a e.b (.inl (ig _ he))
 .have c1:ia s ⟨u,w⟩=true:=Nf h hu hw hne (λe he x y k m hx hy hk hm'=>hno e.a e.b (.inl (ig _ he)) x y k m hx hy hk hm') hi;have c2:ia s ⟨w,u⟩=true:=Nf h hw hu hne.symm (λe he x y k m hx hy hk hm'=>by rw[mA k m];exact hno e.a e.b (.inl (ig _ he)) x y m k hx hy hm' hk) (by rw[mA];exact hi)
  rcases T.most u hu w hw hne c1 c2 with g|g|⟨d,hd,hm⟩
  .exact .inl (by grind)
  .exact .inr (by grind)
  .exfalso;obtain⟨_,_,m1,m2⟩:=Fr hm;obtain⟨x,y,k,m,hx,hy,hk,hm',g⟩:=Na m1 m2;exact hno d.a d.b (.inl (gq _ hd)) x y k m (by omega) (by omega) hk hm' g
 .unfold c8;rw[OW (by have:=h.outer.three;omega) (Fd h.outer) hq hf];rfl
def zI(acc:List (Nat×Nat))(i k:Nat):Prop:=acc.Nodup/\∀p∈acc,p.1<i\/(p.1=i/\p.2<k)
def W7{s:Shape}{v:List V}{acc:List (Nat×Nat)}{i k:Nat}(h:zI acc i k):zI (qe s v acc i k) i (k+1):=by
 unfold qe;split
 .refine⟨?_,λp hp=> ?_⟩
  .rw[lv];refine⟨h.1,by simp,λa ha b hb e=> ?_⟩;obtain rfl:=bn.1 hb;subst e;have:=h.2 _ ha;simp at this
  .rcases bl.1 hp with hp|hp
   .have:=h.2 p hp;omega
   grind
 .exact⟨h.1,λp hp=>by have:=h.2 p hp;omega⟩
def Mx{s:Shape}{v:List V}{acc:List (Nat×Nat)}{i:Nat}(h:zI acc i (i+1)):∀m,zI (rowP s v acc i m) i (i+1+m)
 |0=>h
 |m+1=>W7 (Mx h m)
def Oc(s:Shape)(v:List V):∀i,zI (eW s v i) i (i+1)
 |0=>⟨List.nodup_nil,λp hp=>by cases hp⟩
 |i+1=>by
  have:=Mx (s:=s) (v:=v) (Oc s v i) (v.length-(i+1));exact⟨this.1,λp hp=>by have:=this.2 p hp;omega⟩
def QH{s:Shape}(h:VS s){v:List V}(hv:∀x,x∈v↔x∈bk s)(hn:v.Nodup):Tg s (nA s v):=by
 obtain⟨e,F⟩:=Bo h (by grind) hn;have O:=Oc s v v.length;have hD:∀d∈nA s v,∃p∈dK s v,d=c7 v p:=by grind
 have ends:∀d∈nA s v,d.a∈bk s/\d.b∈bk s/\d.a≠d.b:=λd hd=>by obtain⟨p,hp,rfl⟩:=hD d hd;have:=F.lt p hp;exact⟨(hv _).1 (dO (by omega)),(hv _).1 (dO this.2),λg=>by have:=fS hn (by omega) this.2 g;omega⟩
 refine⟨h,λd hd=> ?_,ends,λd hd d' hd'=> ?_,λa ha b hb hab c1 c2=> ?_,?_⟩
 .obtain⟨p,hp,rfl⟩:=hD d hd;exact F.chord p hp
 .have vd:∀d∈nA s v,bD d=true:=λd hd=>by obtain⟨h1,h2,_⟩:=ends d hd;unfold bD;rw[ko (i6 h h1) (by omega),ko (i6 h h2) (by omega)];rfl
  have ap:(nA s v).Pairwise λd e=>cF d e≠2:=(FH s v).apart.imp λ{a b} h=>by rw[pB];exact h
  rcases BL (λa b h=>by rw[mi];exact h) ap d hd d' hd' with rfl|g
  .exact Ae (p:=d.a) (by rw[kR];simp) ⟨fQ (vd d hd),fQ (vd d hd)⟩
  .exact g
 .obtain⟨i,hi,rfl⟩:=eL.1 ((hv a).2 ha);obtain⟨k,hk,rfl⟩:=eL.1 ((hv b).2 hb);rcases zM i k with g|g|g
  .rcases(FH s v).most i k g hk (.inl hi) (by rw[<-F7 h ha hb hab];exact c1)with m|⟨d,hd,m⟩
   .exact .inl m
   .exact .inr (.inr ⟨d,hd,by rw[pB];exact m⟩)
  .grind
  .rcases(FH s v).most k i g hi (.inl hk) (by rw[<-F7 h hb ha hab.symm];exact c2)with m|⟨d,hd,m⟩
   .grind
   .refine .inr (.inr ⟨d,hd,?_⟩);rw[<-pB]at m;rw[mi]at m|-;exact xo m
 .rw[<-e,km];have O1:=O.1;refine(DL.1 O1).imp ?_;rintro p q ⟨hp,hq,hne⟩;have lp:=F.lt p hp;have lq:=F.lt q hq;refine⟨λg=> ?_,λg=> ?_⟩
  .unfold c7 at g;simp only[S.mk.injEq]at g;have i1:=fS hn (by omega) (by omega) g.1;have i2:=fS hn (by omega) (by omega) g.2;grind
  .unfold c7 at g;simp only[S.mk.injEq]at g;have i1:=fS hn (by omega) (by omega) g.1;have i2:=fS hn (by omega) (by omega) g.2;omega
end Geo
section
namespace Geo
def KB{a b c:V}(hne:c≠a)(n:Int){h:Int}(hc:0<ev (lin a b) (pt c))(hh:h<ev (lin a b) (pt c)):∃q,In (thin c a n) q/\In [lin a b,lin c a,over b c h] q:=by
 have hL2:=i9 hne;have e9:(a.x-c.x)*(a.x-c.x)-(a.y-c.y)* -(a.y-c.y)=bo c a:=by unfold bo;grind
 obtain⟨M0,hM0,hI⟩:=ot hne (x:= -(a.y-c.y)) (y:=a.x-c.x) (by omega) n;have e1:∀M:Int,ev (lin a b) (co c a M (-(a.y-c.y)) (a.x-c.x))=M*ev (lin a b) (pt c)+ev (lin a b) ⟨-(a.y-c.y),a.x-c.x,0⟩:=λM=>by unfold ev lin co pt;grind
 generalize hk:ev (lin a b) ⟨-(a.y-c.y),a.x-c.x,0⟩=k at e1;have hP:=hI (M0+k.natAbs) (by omega);have hβ:0<ev (lin a b) (co c a (M0+k.natAbs) (-(a.y-c.y)) (a.x-c.x)):=by rw[e1];have:=dS (show 1<=ev (lin a b) (pt c) by omega) (show 0<=M0+(k.natAbs:Int) by omega);omega
 generalize co c a (M0+k.natAbs) (-(a.y-c.y)) (a.x-c.x)=P at*;obtain⟨p0,p1,p2,p3⟩:=mD.1 hP;have e0:ev (lin b c) (pt a)=ev (lin a b) (pt c):=iH a b c;refine⟨cmb (1+(ev (over b c h) P).natAbs) (pt a) 1 P,?_,by simp only[cmb,pt];omega,?_⟩
 .rw[mD,ag,ag,ag,cX,qQ,k9];have g1:=mpp (show 0<=1+((ev (over b c h) P).natAbs:Int) by omega) (show 0<=bo c a by omega);have g2:n*(1*ev (lin c a) P)=n*ev (lin c a) P:=by rw[Is]
  refine⟨by simp only[cmb,pt];omega,by omega,?_,?_⟩<;>rw[du,zO]at* <;>omega
 .simp only[bI,cq,or_false,forall_eq_or_imp,forall_eq];refine⟨?_,?_,?_⟩
  .rw[ag,cH];omega
  .rw[ag,cX];omega
  .rw[ag];have ho:1<=ev (over b c h) (pt a):=by rw[mE,e0];show 1<=ev (lin a b) (pt c)-h*1;omega
   have:=dS ho (show 0<=1+((ev (over b c h) P).natAbs:Int) by omega);omega
section
variable {W:List V} {side:V->V->Prop} {ins:P3->Bool}
def Corner.both(H:Calm W side ins){a b c:V}{h:Int}(K:Corner W side a b c h)(hab:side a b)(hac:side a c)(hc:0<ev (lin a b) (pt c))(hh:h<ev (lin a b) (pt c)):Lft ins a b↔Lft ins c a:=by
 have N:=H.net;have key:∀{q1 q2:P3},In [lin a b,lin c a,over b c h] q1->In [lin a b,lin c a,over b c h] q2->ins q1=ins q2:=λh1 h2=>H.const (λu v huv=>K.free N huv) h1 h2;constructor
 .rintro⟨n0,hn⟩;obtain⟨q1,g1,g2⟩:=Ei (N.ne hab) n0 hc hh;refine yZ H (N.symm hac) λn=> ?_;obtain⟨q2,k1,k2⟩:=KB (N.ne (N.symm hac)) n hc hh;grind
 .rintro⟨n0,hn⟩;obtain⟨q1,g1,g2⟩:=KB (N.ne (N.symm hac)) n0 hc hh;refine yZ H hab λn=> ?_;obtain⟨q2,k1,k2⟩:=Ei (N.ne hab) n hc hh;grind
open Classical in
def Xd(_N:Net W side){a b c:V}(hab:side a b)(hac:side a c)(hc:0<ev (lin a b) (pt c))(hs:∀x,side a x->¬(0<ev (lin a b) (pt x)/\0<ev (lin c a) (pt x))):∃h,h<ev (lin a b) (pt c)/\Corner W side a b c h:=by
 have top:∀w∈W,w≠a->0<=ev (lin a b) (pt w)->0<=ev (lin c a) (pt w)->ev (lin b c) (pt w)<ev (lin a b) (pt c):=by
  intro w _ hwa h1 h2;have:=F8 a b c (pt w);rw[show(pt w).d=1 from rfl,zL]at this;refine rA.1 λg=>hwa ?_;have z1:ev (lin a b) (pt w)=0:=by omega
  have z2:ev (lin c a) (pt w)=0:=by omega
  have z3:ev (lin b c) (pt w)=ev (lin a b) (pt c):=by omega
  have q1:=Su a b c ⟨1,0,0⟩ (pt w);have q2:=Su a b c ⟨0,1,0⟩ (pt w);rw[z1,z2,z3,zK,zK,oW,oW]at q1 q2;have r1:=nM (by omega) q1;have r2:=nM (by omega) q2;simp only[ev,pt]at r1 r2;cases w;cases a;simp only[V.mk.injEq];simp only at r1 r2;omega
 obtain⟨M,hM⟩:∃h,0<=h/\h<ev (lin a b) (pt c)/\∀w∈W,w≠a->0<=ev (lin a b) (pt w)->0<=ev (lin c a) (pt w)->ev (lin b c) (pt w)<=h:=by
  by_cases hl:(W.filter λw=>decide (w≠a/\0<=ev (lin a b) (pt w)/\0<=ev (lin c a) (pt w)))=[]
  .refine⟨0,kk _,hc,λw hw h1 h2 h3=> ?_⟩;have:w∈(W.filter λw=>decide (w≠a/\0<=ev (lin a b) (pt w)/\0<=ev (lin c a) (pt w))):=by grind
   grind
  .obtain⟨w,hw,hm⟩:=CK (λw=>ev (lin b c) (pt w)) hl;obtain⟨w1,w2⟩:=fG.1 hw;have w3:=of_decide_eq_true w2;have:=top w w1 w3.1 w3.2.1 w3.2.2;refine⟨max 0 (ev (lin b c) (pt w)),by omega,by omega,λu hu h1 h2 h3=> ?_⟩;grind
 exact⟨M,hM.2.1,hab,hac,hc,hs,hM.1,hM.2.2⟩
def Lb(H:Calm W side ins){a b c:V}(hab:side a b)(hac:side a c)(hc:0<ev (lin a b) (pt c))(hs:∀x,side a x->x=b\/x=c):Lft ins a b↔Lft ins c a:=by
 obtain⟨h,hh,K⟩:=Xd H.net hab hac hc λx hx ⟨h1,h2⟩=>by
  rcases hs x hx with rfl|rfl
  .rw[cX]at h1;omega
  .rw[cH]at h2;omega
 exact K.both H hab hac hc hh
end
end Geo
end
section
namespace Geo
structure T3 where
 a:V
 b:V
 c:V
deriving DecidableEq
def T3.sides(t:T3):List S:=[⟨t.a,t.b⟩,⟨t.b,t.c⟩,⟨t.c,t.a⟩]
def T3.rot(t:T3):T3:=⟨t.b,t.c,t.a⟩
section
variable {W:List V} {side:V->V->Prop} {ins:P3->Bool}
structure All3(W:List V)(side:V->V->Prop)(ins:P3->Bool)(TL:List T3):Prop where
 tri:∀t∈TL,Tri W side ins t.a t.b t.c
 all:∀a b c,Tri W side ins a b c->(⟨a,b,c⟩:T3)∈TL\/(⟨b,c,a⟩:T3)∈TL\/(⟨c,a,b⟩:T3)∈TL
 once:TL.Pairwise λt u=>t≠u/\t≠u.rot/\t≠u.rot.rot
def xn{t:T3}{e:S}:e∈t.sides↔(e.a=t.a/\e.b=t.b)\/(e.a=t.b/\e.b=t.c)\/(e.a=t.c/\e.b=t.a):=by cases e;unfold T3.sides;grind
def All3.perm(H:Filled W side ins){TL:List T3}(A:All3 W side ins TL){DS:List S}(hn:DS.Nodup)(hm:∀e:S,e∈DS↔side e.a e.b/\Lft ins e.a e.b):(TL.flatMap T3.sides).Perm DS:=by
 have N:=H.net;refine(List.perm_ext_iff_of_nodup ?_ hn).2 λe=> ?_
 .rw[oV,List.flatMap_def,List.pairwise_flatten];refine⟨λl hl=> ?_,?_⟩
  .obtain⟨t,ht,rfl⟩:=bR.1 hl;have h:=A.tri t ht;have n2:=N.ne h.bc;unfold T3.sides;simp_all
  .rw[km];refine(DL.1 A.once).imp ?_;rintro t u ⟨ht,hu,h1,h2,h3⟩ e he e' he' rfl;have T:=A.tri t ht;have U:=A.tri u hu;have key:∀{a b c x:V},Tri W side ins a b c->Tri W side ins a b x->c=x:=λh h'=>VF N h h';cases t;cases u;rw[xn]at he he';rcases he with⟨e1,e2⟩|⟨e1,e2⟩|⟨e1,e2⟩<;>rcases he' with⟨f1,f2⟩|⟨f1,f2⟩|⟨f1,f2⟩<;>rw[e1]at f1<;>rw[e2]at f2<;>subst f1<;>subst f2
   .grind
   .have:=key T U.rot;subst this;exact h2 rfl
   .have:=key T U.rot.rot;subst this;exact h3 rfl
   .have:=key T.rot U;subst this;exact h3 rfl
   .have:=key T.rot U.rot;grind
   .have:=key T.rot U.rot.rot;subst this;exact h2 rfl
   .have:=key T.rot.rot U;subst this;exact h2 rfl
   .have:=key T.rot.rot U.rot;subst this;exact h3 rfl
   .have:=key T.rot.rot U.rot.rot;grind
 .rw[hm,dG];constructor
  .rintro⟨t,ht,he⟩;have T:=A.tri t ht;rcases xn.1 he with⟨e1,e2⟩|⟨e1,e2⟩|⟨e1,e2⟩<;>rw[e1,e2]
   .exact⟨T.ab,T.lft H⟩
   .exact⟨T.bc,T.rot.lft H⟩
   .exact⟨T.ca,T.rot.rot.lft H⟩
  .rintro⟨h1,h2⟩;obtain⟨c,T⟩:=X7 H h1 h2;rcases A.all _ _ _ T with g|g|g
   .exact⟨_,g,xn.2 (by grind)⟩
   .exact⟨_,g,xn.2 (by grind)⟩
   .exact⟨_,g,xn.2 (by grind)⟩
def K9(f:S->Int):∀TL:List T3,((TL.flatMap T3.sides).map f).sum=(TL.map λt=>f ⟨t.a,t.b⟩+f ⟨t.b,t.c⟩+f ⟨t.c,t.a⟩).sum
 |[] =>rfl
 |t::TL=>by
  have:=K9 f TL;rw[ff,dM,uU,this,dX,DG];unfold T3.sides;grind
def All3.sum(H:Filled W side ins){TL:List T3}(A:All3 W side ins TL){DS:List S}(hn:DS.Nodup)(hm:∀e:S,e∈DS↔side e.a e.b/\Lft ins e.a e.b)(f:S->Int):
  (TL.map λt=>f ⟨t.a,t.b⟩+f ⟨t.b,t.c⟩+f ⟨t.c,t.a⟩).sum=(DS.map f).sum:=by
 rw[<-K9];exact LR ((A.perm H hn hm).map f)
open Classical in
def MH(N:Net W side)(ins:P3->Bool)(hW:W.Nodup):∃TL,All3 W side ins TL:=by
 refine⟨(W.flatMap λa=>W.flatMap λb=>W.map λc=>(⟨a,b,c⟩:T3)).filter λt=>decide (Tri W side ins t.a t.b t.c/\bf t.a t.b=true/\bf t.a t.c=true),λt ht=> ?_,λa b c h=> ?_,?_⟩
 .grind
 .have wa:=N.mem h.ab;have wb:=N.mem h.bc;have wc:=N.mem h.ca;have n1:=N.ne h.ab;have n2:=N.ne h.bc;have n3:=N.ne h.ca;have inl:∀{a b c:V},a∈W->b∈W->c∈W->Tri W side ins a b c->bf a b=true->bf a c=true->(⟨a,b,c⟩:T3)∈(W.flatMap λa=>W.flatMap λb=>W.map λc=>(⟨a,b,c⟩:T3)).filter λt=>decide (Tri W side ins t.a t.b t.c/\bf t.a t.b=true/\bf t.a t.c=true):=
   by grind
  by_cases g1:bf a b=true
  .by_cases g2:bf a c=true
   .grind
   .have g3:=A9 (by grind) n3.symm;exact .inr (.inr (inl wc wa wb h.rot.rot g3 (ul g3 g1)))
  .have g3:=A9 (by grind) n1;by_cases g2:bf b c=true
   .exact .inr (.inl (inl wb wc wa h.rot g2 g3))
   .have g4:=A9 (by grind) n2;exact .inr (.inr (inl wc wa wb h.rot.rot (ul g4 g3) g4))
 .have nd:(W.flatMap λa=>W.flatMap λb=>W.map λc=>(⟨a,b,c⟩:T3)).Nodup:=by
   rw[oV]at hW|-;rw[List.flatMap_def,List.pairwise_flatten];refine⟨λl hl=> ?_,?_⟩
   .grind
   .grind
  refine(DL.1 (oV.1 (nd.filter _))).imp ?_;rintro t u ⟨ht,hu,hne⟩;have T:=(of_decide_eq_true (fG.1 ht).2).2;have U:=(of_decide_eq_true (fG.1 hu).2).2;refine⟨hne,λe=> ?_,λe=> ?_⟩
  .rw[e]at T;have:=ul U.1 T.2;unfold T3.rot at this;rw[xP]at this;cases this
  .rw[e]at T;have:=ul U.2 T.1;unfold T3.rot at this;rw[xP]at this;cases this
end
end Geo
end
section
namespace Geo
def swp(e:S):S:=⟨e.b,e.a⟩
def N4(e:S):swp (swp e)=e:=rfl
section
variable {W:List V} {side:V->V->Prop} {ins:P3->Bool}
def Pp(H:Calm W side ins){a b:V}(hab:side a b):∃N0:Int,1<=N0/\∀n,N0<=n->(∀u v,side u v->fZ (thin a b n) ⟨u,v⟩)/\∀q,In (thin a b n) q->(Lft ins a b↔ins q=true):=by
 obtain⟨N0,h1,h2⟩:=H.net.thin hab;refine⟨N0,h1,λn hn=>⟨h2 n hn,λq hq=>⟨λ⟨m,hm⟩=> ?_,λhi=>yZ H hab λm=> ?_⟩⟩⟩
 .obtain⟨p,hp⟩:=xj (H.net.ne hab) (max n m);rw[H.const (h2 n hn) hq (rJ (by omega) hp)];grind
 .obtain⟨p,hp⟩:=xj (H.net.ne hab) (max n m);exact⟨p,rJ (by omega) hp,by rw[<-hi];exact H.const (h2 n hn) (rJ (by omega) hp) hq⟩
end
def VR.AN{r:aD}(h:VR r):(aJ r).Nodup:=by unfold aJ;rw[if_neg (by have:=h.three;omega),oV,km];refine(DL.1 (oV.1 List.nodup_range)).imp ?_;rintro i k ⟨hi,hk,hne⟩ e;exact hne (h.inj (by grind) (by grind) (congrArg S.a e))
def VR.aAm{r:aD}(h:VR r){e:S}(he:e∈aJ r):swp e∉aJ r:=by
 intro hs;have h3:=h.three;obtain⟨_,i,hi,rfl⟩:=i7.1 he;obtain⟨_,k,hk,e⟩:=i7.1 hs;have e1:nth r ((i+1) % r.length)=nth r k:=congrArg S.a e;have e2:nth r i=nth r ((k+1) % r.length):=congrArg S.b e;have m1:=bz (i+1) (show 0<r.length by omega);have m2:=bz (k+1) (show 0<r.length by omega);have i1:=h.inj m1 hk e1;have i2:=h.inj hi m2 e2;by_cases g1:i+1<r.length
 .rw[dh g1]at i1;by_cases g2:k+1<r.length
  .rw[dh g2]at i2;omega
  .rw[show k+1=r.length by omega,kj]at i2;omega
 .rw[show i+1=r.length by omega,kj]at i1;rw[dh (by omega)]at i2;omega
def VR.calm{r:aD}(h:VR r):Calm r (eC (aJ r)) (cK r):=by refine⟨(OF (λv hv=>ko (Fo h.near hv) (by omega)) (λe he=>⟨(i8 he).1,(i8 he).2,h.rb he⟩) (λe he v hv ho=>h.K6 hv he ho) (λe he d hd=>h.nocross he hd)).net,λp q hp hq hm=> ?_⟩;exact vI (by have:=h.three;omega) hp hq λe he=>hm e.a e.b (.inl he)
def VR.flip{r:aD}(h:VR r){a b:V}(he:(⟨a,b⟩:S)∈aJ r):Lft (cK r) a b↔¬Lft (cK r) b a:=by
 have C:=h.calm;have hab:eC (aJ r) a b:= .inl he;have hne:=C.net.ne hab;obtain⟨n1,_,h1⟩:=Pp C hab;obtain⟨n2,_,h2⟩:=Pp C (C.net.symm hab);obtain⟨p,q,hp,hq,hpq⟩:=Geo.flip (r:=r) (by have:=h.three;omega) h.AN hne he (N:=max n1 n2) (by omega) λe he' hn=>by
  have hs:eC (aJ r) e.a e.b:= .inl he';refine⟨?_,(h1 _ (by omega)).1 _ _ hs,(h2 _ (by omega)).1 _ _ hs⟩;rcases C.net.off hab hs with g|⟨g1,g2⟩|⟨g1,g2⟩
  .exact g
  .exact absurd (by cases e;grind) hn
  .exfalso;refine h.aAm he ?_;have:swp ⟨a,b⟩=e:=by cases e;simp only at g1 g2;unfold swp;rw[g1,g2]
   grind
 grind
def VR.around{r:aD}(h:VR r){i:Nat}(hi:i<r.length){x:V}(hx:eC (aJ r) (nth r ((i+1) % r.length)) x):x=nth r ((i+1+1) % r.length)\/x=nth r i:=by
 have hm:=bz (i+1) (show 0<r.length by omega);rcases hx with hx|hx
 .obtain⟨_,k,hk,e⟩:=i7.1 hx;have e1:=h.inj hm hk (congrArg S.a e);have e2:x=nth r ((k+1) % r.length):=congrArg S.b e;refine .inl ?_;rw[e2,<-e1,lP]
 .obtain⟨_,k,hk,e⟩:=i7.1 hx;have e1:=h.inj hm (bz (k+1) (by grind)) (congrArg S.b e);have e2:x=nth r k:=congrArg S.a e;refine .inr ?_;rw[e2]
  congr 1
  by_cases g1:i+1<r.length<;>by_cases g2:k+1<r.length
  .rw[dh g1,dh g2]at e1;omega
  .rw[dh g1,show k+1=r.length by omega,kj]at e1;omega
  .rw[dh g2,show i+1=r.length by omega,kj]at e1;omega
  .omega
def Bm{r:aD}(h:VR r){i:Nat}(hi:i<r.length):bO r i∈aJ r:=i7.2 ⟨by have:=h.three;omega,i,hi,rfl⟩
def VR.next{r:aD}(h:VR r){i:Nat}(hi:i<r.length):Lft (cK r) (bO r i).a (bO r i).b↔Lft (cK r) (bO r ((i+1) % r.length)).a (bO r ((i+1) % r.length)).b:=by
 have C:=h.calm;have hm:=bz (i+1) (show 0<r.length by omega);have t:=h.turn' i hi;have ei:bO r i=⟨nth r i,nth r ((i+1) % r.length)⟩:=rfl;have ek:bO r ((i+1) % r.length)=⟨nth r ((i+1) % r.length),nth r ((i+1+1) % r.length)⟩:=by show(⟨_,nth r (((i+1) % r.length+1) % r.length)⟩:S)=_;rw[lP]
 have m1:=Bm h hi;have m2:=Bm h hm;have ar:=λx=>h.around hi (x:=x);rw[ei]at m1|-;rw[ek]at m2|-;unfold Geo.turn at t;rw[Ne,o4,<-dt]at t;generalize nth r i=u at*;generalize nth r ((i+1) % r.length)=v at*;generalize nth r ((i+1+1) % r.length)=w at*;rcases mR t with g|g
 .have g':0<ev (lin v u) (pt w):=by rw[jy];omega
  have:=Lb C (.inr m1) (.inl m2) g' (by grind);rw[h.flip m1,h.flip m2,this]
 .have g':0<ev (lin v w) (pt u):=by rw[iH];exact g
  exact(Lb C (.inl m2) (.inr m1) g' ar).symm
def VR.GE{r:aD}(h:VR r):∀i,i<r.length->(Lft (cK r) (bO r i).a (bO r i).b↔Lft (cK r) (bO r 0).a (bO r 0).b)
 |0,_=>Iff.rfl
 |i+1,hi=>by
  have:=h.next (i:=i) (by omega);rw[dh hi]at this;rw[<-this];exact h.GE i (by omega)
def Oo{s:Shape}{D:List S}(T:Tg s D){a b:V}(hab:sides s D a b)(hi:c8 s (cmb 1 (pt a) 1 (pt b))=true)
  (ho:∀e∈ao s,∀x y k:Int,0<=x->0<=y->0<k->cmb x (pt e.a) y (pt e.b)≠cmb k (pt a) k (pt b)):Lft (c8 s) a b:=by
 have H:=T.filled;have hne:=H.net.ne hab;have hL:=i9 hne;refine yZ H.calm hab λn=> ?_;obtain⟨N0,_,h2⟩:=H.net.thin hab;obtain⟨q,hq⟩:=xj hne (max n N0);refine⟨q,rJ (by omega) hq,?_⟩;rw[<-hi];refine NH T.vs hq.1 (by simp[cmb,pt]) λe he hm=> ?_;obtain⟨x,y,t,k,hx,hy,hxy,ht,hk,g⟩:=hm;rcases cC 0 t with ht'|ht'
 .obtain⟨f,hf,hle⟩:=h2 (max n N0) (by omega) e.a e.b (.inl (ig _ he)) x y hx hy hxy;have e1:x*ev f (pt e.a)+y*ev f (pt e.b)=t*ev f q+k*(ev f (pt a)+ev f (pt b)):=by rw[<-ag,g,ag,ag,Is,Is]
  dsimp only at hle;have p1:=bL ht' (hq.2 f hf);have p2:0<=ev f (pt a)+ev f (pt b):=by
   unfold thin at hf;simp only[bI,cq,or_false]at hf;rcases hf with rfl|rfl|rfl
   .rw[cH,cX];omega
   .rw[l9,l9,cH,cX,k9,qQ];omega
   .rw[o7,o7,cH,cX,k9,qQ,BA];omega
  have:=mpp hk p2;omega
 .have:t=0:=by omega
  subst this;have hd:=congrArg P3.d g;simp only[cmb,pt]at hd;refine ho e he x y k hx hy (by omega) ?_;rw[g];unfold cmb;grind
def om{s:Shape}{D:List S}(T:Tg s D){d e:S}(hd:d∈D)(he:e∈ao s):e≠d/\e≠swp d:=by
 have h:=T.vs;have hc:=T.chord d hd;obtain⟨d1,d2,d3⟩:=T.ends d hd;have vd:bD d=true:=by unfold bD;rw[ko (i6 h d1) (by omega),ko (i6 h d2) (by omega)];rfl
 have ve:=J3 h he;unfold ia at hc;rw[bj,bh]at hc;have ht:=hc.1 e he;have k:cE e d e.a->cE e d e.b->False:=λo1 o2=>by have:=(o9 e d).over e.a e.b (by simp) (by simp) (h.rb he) o1 o2;unfold cU at ht;grind
 refine⟨λg=> ?_,λg=> ?_⟩
 .subst g;exact k ⟨fQ ve,fQ ve⟩ ⟨jp ve,jp ve⟩
 .subst g;exact k ⟨fQ ve,jp vd⟩ ⟨jp ve,fQ vd⟩
def NX{s:Shape}{D:List S}(T:Tg s D){a b:V}(hd:(⟨a,b⟩:S)∈D\/(⟨b,a⟩:S)∈D):∀e∈ao s,∀x y k:Int,0<=x->0<=y->0<k->cmb x (pt e.a) y (pt e.b)≠cmb k (pt a) k (pt b):=by
 intro e he x y k hx hy hk g;have N:=T.segs.net;have hab:sides s D a b:=hd.imp (by grind) (by grind);have hs:sides s D e.a e.b:= .inl (ig _ he);have vt:∀{v:V} {y:Int},v∈bk s->cmb k (pt a) k (pt b)=cmb y (pt v) 0 (pt v)->0<y->False:=λ{v y} hv g hy=>by
  rcases N.clear hab hv k k y (by omega) (by omega) g hy with rfl|rfl
  .have:=vN (a:=v) (b:=b) (s:=k) hk (by rw[g];have:=congrArg P3.d g;simp only[cmb,pt]at this|-;grind);exact N.ne hab this.symm
  .have:=vN (a:=v) (b:=a) (s:=k) hk (by rw[mA,g];have:=congrArg P3.d g;simp only[cmb,pt]at this|-;grind);exact N.ne hab this
 have hd0:=congrArg P3.d g;rw[ur,ur]at hd0;have ev:=Eb he;rcases cC 0 x with hx'|hx'
 .rcases cC 0 y with hy'|hy'
  .rcases N.apart hs hab _ _ _ _ hx' hy' hk hk g with⟨e1,e2⟩|⟨e1,e2⟩<;>rcases hd with hd|hd
   .exact(om T hd he).1 (by cases e;grind)
   .exact(om T hd he).2 (by cases e;simp only at e1 e2;rw[e1,e2];rfl)
   .exact(om T hd he).2 (by cases e;simp only at e1 e2;rw[e1,e2];rfl)
   .exact(om T hd he).1 (by cases e;grind)
  .have:y=0:=by omega
   subst this;exact vt ev.1 (by rw[<-g];unfold cmb;simp) hx'
 .have:x=0:=by omega
  subst this;exact vt ev.2 (by rw[<-g];unfold cmb;simp) (show 0<y by omega)
def NY{s:Shape}{D:List S}(T:Tg s D){d:S}(hd:d∈D):Lft (c8 s) d.a d.b/\Lft (c8 s) d.b d.a:=by obtain⟨d1,d2,_⟩:=T.ends d hd;have hi:=ZY T.vs d1 d2 (T.chord d hd);refine⟨Oo T (.inl (gq _ hd)) hi (NX T (.inl hd)),Oo T (.inr (gq _ hd)) ?_ (NX T (.inr hd))⟩;rw[mA];exact hi
end Geo
end
namespace Geo
def mO(E D:List S):List S:=E++(D++D.map swp)
def GL{l:List S}(h:l.Nodup):(l.map swp).Nodup:=by rw[oV]at h|-;rw[km];exact h.imp λ{a b} hne e=>hne (by rw[<-N4 a,e,N4])
def mq{l:List S}{e:S}:e∈l.map swp↔swp e∈l:=by rw[bR];exact⟨λ⟨d,hd,e⟩=>by rw[<-e];exact hd,λh=>⟨swp e,h,rfl⟩⟩
def Kt{s:Shape}{D E:List S}(T:Tg s D)(hE:E.Nodup)(hs:∀e∈E,e∈ao s\/swp e∈ao s):(mO E D).Nodup:=by
 have off:∀e∈E,∀d∈D,e≠d/\e≠swp d:=λe he d hd=>by
  rcases hs e he with g|g
  .exact om T hd g
  .have:=om T hd g;exact⟨by grind,λh=>this.1 (by rw[h];rfl)⟩
 have hD:D.Nodup:=oV.2 (T.once.imp (by grind));unfold mO;rw[lv,lv];refine⟨hE,⟨hD,GL hD,λa ha b hb e=> ?_⟩,λa ha b hb e=> ?_⟩
 .subst e;rw[mq]at hb;rcases BL (R:=λd e:S=>d≠swp e) (λa b h e=>h (by rw[e];rfl)) (T.once.imp λ{a b} h=>h.2) _ ha _ hb with g|g
  .exact(T.ends a ha).2.2 (congrArg S.a g)
  .exact g rfl
 grind
def NW{s:Shape}{D E:List S}(T:Tg s D)(hm:∀e:S,e∈E↔eC (ao s) e.a e.b/\Lft (c8 s) e.a e.b)(e:S):e∈mO E D↔sides s D e.a e.b/\Lft (c8 s) e.a e.b:=by
 unfold mO;rw[bl,bl,mq,hm];constructor
 .rintro(⟨h1,h2⟩|h|h)
  .exact⟨h1.imp (by grind) (by grind),h2⟩
  .exact⟨.inl (gq _ h),(NY T h).1⟩
  .exact⟨.inr (gq _ h),(NY T h).2⟩
 .rintro⟨h1,h2⟩;rcases h1 with h|h<;>rcases bl.1 h with h|h
  .exact .inl ⟨.inl h,h2⟩
  .simp_all
  .exact .inl ⟨.inr h,h2⟩
  .exact .inr (.inr h)
def YH(f:S->Int)(E D:List S):((mO E D).map f).sum=(E.map f).sum+(D.map λd=>f d+f (swp d)).sum:=by unfold mO;rw[dM,dM,uU,uU,dU,N6];rfl
def FU{α:Type}{f:α->Int}:∀{l:List α},(∀x∈l,f x=0)->(l.map f).sum=0
 |[],_=>rfl
 |x::l,h=>by rw[dX,DG,h x (by grind),FU (by grind)];rfl
def KC{α:Type}{f:α->Int}:∀{l:List α},(∀x∈l,0<=f x)->0<=(l.map f).sum
 |[],_=>kk _
 |x::l,h=>by
  have:=KC λy hy=>h y (cG _ hy);grind
def Xa(a b c:V):cross a b+cross b c+cross c a=ev (lin a b) (pt c):=by unfold cross ev lin pt;grind
def VR.alone{r:aD}(h:VR r):VS ⟨r,[]⟩:=by refine⟨Nat.zero_le _,h,by grind,?_,by grind,by grind,by grind,by grind,by grind⟩;have:=h.most;unfold jA aE;grind
def VR.left{r:aD}(h:VR r){e:S}(he:e∈aJ r):Lft (cK r) e.a e.b:=by
 obtain⟨_,i,hi,rfl⟩:=i7.1 he;rw[h.GE i hi];refine dQ λhn=> ?_;have hv:=h.alone;have hvs:bk ⟨r,[]⟩=r:=by unfold bk aE;simp
 have hes:ao ⟨r,[]⟩=aJ r:=by unfold ao aE;simp
 have T:=QH hv (v:=r) (by grind) h.nodup;have H:=T.filled;have hi':c8 ⟨r,[]⟩=cK r:=by funext p;unfold c8;simp
 obtain⟨TL,A⟩:=MH H.net (c8 ⟨r,[]⟩) hv.nodup;have no:∀e∈aJ r,¬Lft (cK r) e.a e.b:=λe he=>by obtain⟨_,i,hi,rfl⟩:=i7.1 he;rw[h.GE i hi];exact hn
 have hm:∀e:S,e∈(aJ r).map swp↔eC (ao ⟨r,[]⟩) e.a e.b/\Lft (c8 ⟨r,[]⟩) e.a e.b:=λe=>by
  rw[mq,hi',hes];constructor
  .intro g;refine⟨.inr g,dQ λhx=>no _ g ?_⟩;exact(h.flip (a:=e.b) (b:=e.a) g).2 hx
  .rintro⟨g|g,g2⟩
   .grind
   .exact g
 have nd:=Kt T (GL h.AN) λe he=> .inr (by rw[hes];exact mq.1 he);have S1:=A.sum H nd (NW T hm) (λe=>cross e.a e.b);rw[YH,FU (f:=λd:S=>cross d.a d.b+cross (swp d).a (swp d).b) λd _=>by unfold cross swp;grind,dU]at S1;have e1:((aJ r).map ((λe:S=>cross e.a e.b)∘swp)).sum= -Geo.area r:=by
  rw[Ef (by omega)];have:((aJ r).map λe=>cross e.a e.b+((λe:S=>cross e.a e.b)∘swp) e).sum=0:=FU λd _=>by simp only[DH,cross,swp];grind
  rw[N6]at this;omega
 have S2:0<=(TL.map λt=>cross t.a t.b+cross t.b t.c+cross t.c t.a).sum:=KC λt ht=>by rw[Xa];have:=(A.tri t ht).left;omega
 have:=h.area;grind
def VR.right{r:aD}(h:VR r){e:S}(he:e∈aJ r):¬Lft (cK r) e.b e.a:=(h.flip he).1 (h.left he)
end Geo
end Go.Proofs.YthbofdolalagjaaGreat
