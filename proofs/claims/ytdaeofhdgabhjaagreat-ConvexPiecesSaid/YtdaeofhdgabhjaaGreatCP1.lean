/- What the statement stands on: contracts of functions, plain laws. Part 1 of 6, no condition of its own. (G1 G2 G3 G4 G5 G6 G7 G8 G9 H1 H2 H3 H4 H9 H6 H7 H8 I1 I2 I3 I4 I5 I6 I7 I8 I9 I10 H5 I11 I12 I13 I14 I15 I16 I17 I18 I19) -/

set_option linter.all false
set_option maxRecDepth 100000
set_option maxHeartbeats 8000000
open Int renaming lt_or_gt_of_ne->mZ,mul_le_mul_left->Hy,mul_zero->eL,lt_or_le->br,mul_pos_of_neg_of_neg->CT,mul_nonneg->cV,mul_neg_of_neg_of_pos->ma,mul_eq_zero->dt,le_total->vT,mul_le_mul_of_nonneg_right->lz,zero_mul->yZ,mul_one->yb,dvd_iff_tmod_eq_zero->SI,add_zero->nW,mul_pos->bV,mul_le_mul_of_nonneg_left->dg,lt_trichotomy->ye,pos_of_mul_pos_right->SM,mul_neg_of_pos_of_neg->gm,le_of_lt->H6,zero_add->vY,mul_neg->mf,mul_nonpos_of_nonpos_of_nonneg->SN,mul_nonpos_of_nonneg_of_nonpos->H9,neg_mul->nf,not_le->lD,le_refl->jH,mul_comm->fx,sub_neg->IA,one_mul->IB,eq_of_mul_eq_mul_left->mg,not_lt->Ca,add_mul->rU,mul_lt_mul_of_pos_left->SO
open Bool renaming and_eq_true->bw,true_and->nT,false_eq_true->qM,not_true->yY,eq_iff_iff->fm,or_eq_true->jv,and_true->H4,eq_false_iff->vZ
open List renaming mem_cons->bT,not_mem_nil->cn,pairwise_cons->iB,Pairwise.nil->tT,mem_filter->iX,length_nil->lv,length_cons->gk,range->bQ,all_eq_true->bk,mem_range->cG,not_any_eq_all_not->SH,getElem_of_mem->jX,perm_append_comm->vV,getD_eq_getElem?_getD->du,getElem?_append_left->mb,getElem?_drop->vX,getElem?_append_right->kZ,nodup_iff_pairwise_ne->pC,pairwise_iff_getElem->nU,getElem?_eq_getElem->dp,flatten_cons->mc,mem_append->bg,flatMap_cons->fM,mem_flatMap->cZ,mem_flatten->k9,nodup_append->nV,Perm.refl->CU,mem_map->bZ,map_cons->dB,sum_cons->CV,map_append->dM,mem_singleton->bi,pairwise_append->SJ,mem_cons_self->cI,mem_cons_of_mem->cE,mem_append_left->iC,map_map->dq,any_eq_true->l0,ext_getElem->rT,length_map->da,getElem_map->jG,getElem_range->qO,map_congr_left->nZ,pairwise_map->kK,ne_nil_of_mem->IC,mem_append_right->fb,Pairwise.and_mem->ID,sum_append->rV
open Classical renaming byContradiction->fH
open Nat renaming mod_lt->bq,mod_eq_of_lt->dZ,mod_self->ju,gcd->bX,lt_trichotomy->yd,mod_add_mod->kc,add_mod_right->pB,add_assoc->rS,gcd_dvd_right->Hz,lt_or_ge->nY,gcd_dvd_left->H0,dvd_trans->H3,sub_add_cancel->H7
open Function renaming comp->CW
open Decidable renaming not_not->SL
namespace Go.Proofs.YtdaeofhdgabhjaaGreat.Geo
end Go.Proofs.YtdaeofhdgabhjaaGreat.Geo
open Go.Proofs.YtdaeofhdgabhjaaGreat.Geo
namespace Go.Proofs.YtdaeofhdgabhjaaGreat
@[reducible]def aA{α:Sort _}(a:α)(f:α->Prop):Prop:=f a
namespace Geo
structure V where
 x:Int
 y:Int
deriving DecidableEq,Inhabited
structure S where
 a:V
 b:V
deriving DecidableEq,Inhabited
def sub(p q:V):V:=⟨p.x-q.x,p.y-q.y⟩
def cross(p q:V):Int:=p.x*q.y-p.y*q.x
def sgn(n:Int):Int:=if 0<n then 1 else if n<0 then-1 else 0
def turn(a b c:V):Int:=sgn (cross (sub b a) (sub c a))
def bf(p q:V):Bool:=decide (p.y<q.y)||(p.y==q.y&&decide (p.x<q.x))
def bL(p:V)(m:Int):Bool:=decide (-m<=p.x)&&decide (p.x<=m)&&decide (-m<=p.y)&&decide (p.y<=m)
def bJ(s:S):Bool:=bL s.a 4000&&bL s.b 4000
def fV(s:S)(p:V):Bool:=decide (min s.a.x s.b.x<=p.x)&&decide (p.x<=max s.a.x s.b.x)&&decide (min s.a.y s.b.y<=p.y)&&decide (p.y<=max s.a.y s.b.y)
def onS(s:S)(p:V):Bool:=bJ s&&fV s p&&turn s.a s.b p==0
def oC(n:Int):sgn n=0↔n=0:=by unfold sgn;grind
def FX(n:Int):0<sgn n↔0<n:=by unfold sgn;grind
def ZD(n:Int):sgn n<0↔n<0:=by unfold sgn;grind
def wN(m n:Int):sgn m*sgn n<0↔(0<m/\n<0)\/(m<0/\0<n):=by unfold sgn;grind
def fF(x y:Int):Int:=if x<y then-1 else if y<x then 1 else 0
def bn(p q:V):Int:=if fF p.y q.y=0 then fF p.x q.x else fF p.y q.y
def oS(s t:S)(d:Int):Int:=
 let a0:=cross (sub t.a s.a) (sub t.b t.a)
 let b0:=cross (sub t.a s.a) (sub s.b s.a)
 let a:=if d<0 then-a0 else a0
 let b:=if d<0 then-b0 else b0
 let e:=if d<0 then-d else d
 if a<0\/e<a\/b<0\/e<b then 0 else if a=0\/a=e\/b=0\/b=e then 1 else 2
def loS(s:S):V:=if bf s.b s.a then s.b else s.a
def hiS(s:S):V:=if bf s.b s.a then s.a else s.b
def fC(s t:S):V:=if bf (loS s) (loS t)then loS t else loS s
def fN(s t:S):V:=if bf (hiS t) (hiS s)then hiS t else hiS s
def cC(s t:S):Int:=
 if !(bJ s&&bJ t)then 0
 else if cross (sub s.b s.a) (sub t.b t.a)≠0 then oS s t (cross (sub s.b s.a) (sub t.b t.a))
 else if s.a=s.b/\onS t s.a=true then 1
 else if t.a=t.b/\onS s t.a=true then 1
 else if s.a=s.b\/t.a=t.b\/turn s.a s.b t.a≠0 then 0
 else if bn (fC s t) (fN s t)=0 then 1
 else if bn (fC s t) (fN s t)= -1 then 3
 else 0
def cB(s t:S)(p:V):Prop:=onS s p=true/\onS t p=true
structure MeetIs(s t:S)(k:Int):Prop where
 none:(bJ s&&bJ t)=false->k=0
 over:∀p q,p∈[s.a,s.b,t.a,t.b]->q∈[s.a,s.b,t.a,t.b]->p≠q->cB s t p->cB s t q->k=3
 touch:(bJ s&&bJ t)=true->(∀p q,p∈[s.a,s.b,t.a,t.b]->q∈[s.a,s.b,t.a,t.b]->cB s t p->cB s t q->p=q)->(∃p,p∈[s.a,s.b,t.a,t.b]/\cB s t p)->k=1
 cross:(bJ s&&bJ t)=true->(∀p,p∈[s.a,s.b,t.a,t.b]->¬cB s t p)->(turn s.a s.b t.a*turn s.a s.b t.b<0/\turn t.a t.b s.a*turn t.a t.b s.b<0)->k=2
 else_:(bJ s&&bJ t)=true->(∀p,p∈[s.a,s.b,t.a,t.b]->¬cB s t p)->¬(turn s.a s.b t.a*turn s.a s.b t.b<0/\turn t.a t.b s.a*turn t.a t.b s.b<0)->k=0
def BB(d b v w:Int)(hd:0<d)(h:d*w=b*v)(hv:v≠0):(min 0 v<=w/\w<=max 0 v)↔(0<=b/\b<=d):=by
 rcases mZ hv with hv|hv
 .have e1:w<=0↔0<=b:=by
   rw[<-Hy hd,eL,h];constructor
   .intro h1;rcases br b 0 with h2|h2
    .have:=CT h2 hv;omega
    .exact h2
   .intro h1;have:=cV h1 (show(0:Int)<= -v by omega);grind
  have e2:v<=w↔b<=d:=by
   rw[<-Hy hd,h];constructor
   .simp_all
   .simp_all
  omega
 .have e1:0<=w↔0<=b:=by
   rw[<-Hy hd,eL,h];constructor
   .intro h1;rcases br b 0 with h2|h2
    .have:=ma h2 hv;omega
    .exact h2
   .intro h1;exact cV h1 (by omega)
  have e2:w<=v↔b<=d:=by rw[<-Hy hd,h];exact Int.mul_le_mul_right hv
  omega
def oP(s:S)(p:V)(d b:Int)(hd:0<d)(hx:d*(p.x-s.a.x)=b*(s.b.x-s.a.x))(hy:d*(p.y-s.a.y)=b*(s.b.y-s.a.y))(hv:s.a≠s.b):
  fV s p=true↔(0<=b/\b<=d):=by
 obtain⟨⟨ax,ay⟩,⟨bx,b_y⟩⟩:=s;obtain⟨px,py⟩:=p;simp only[fV,bw,decide_eq_true_eq]at*;simp only[ne_eq,V.mk.injEq,not_and]at hv;by_cases h1:bx-ax=0
 .have h2:b_y-ay≠0:=by intro h2;grind
  rw[h1,eL]at hx;have h3:px-ax=0:=by
   rcases dt.1 hx with h|h
   .omega
   .exact h
  have:=BB d b _ _ hd hy h2;omega
 .by_cases h2:b_y-ay=0
  .rw[h2,eL]at hy;have h3:py-ay=0:=by
    rcases dt.1 hy with h|h
    .omega
    .exact h
   have:=BB d b _ _ hd hx h1;omega
  .have e1:=BB d b _ _ hd hx h1;have e2:=BB d b _ _ hd hy h2;omega
def gX{s:S}{p:V}(hv:bJ s=true):onS s p=true↔(fV s p=true/\cross (sub s.b s.a) (sub p s.a)=0):=by unfold onS turn;rw[hv];simp only[nT,bw,beq_iff_eq,oC]
def fQ{s:S}(hv:bJ s=true):onS s s.a=true:=by rw[gX hv];refine⟨?_,by simp[cross,sub]⟩;simp[fV];omega
def jT{s:S}(hv:bJ s=true):onS s s.b=true:=by rw[gX hv];refine⟨?_,by simp only[cross,sub];grind⟩;simp[fV];omega
def q1{d a b sa sb ta tb:Int}(h:d*(ta-sa)=a*(sb-sa)-b*(tb-ta))(e:a=0):d*(sa-ta)=b*(tb-ta):=by grind
def q2{d a b sa sb ta tb:Int}(h:d*(ta-sa)=a*(sb-sa)-b*(tb-ta))(e:a=d):d*(sb-ta)=b*(tb-ta):=by grind
def q3{d a b sa sb ta tb:Int}(h:d*(ta-sa)=a*(sb-sa)-b*(tb-ta))(e:b=0):d*(ta-sa)=a*(sb-sa):=by grind
def q4{d a b sa sb ta tb:Int}(h:d*(ta-sa)=a*(sb-sa)-b*(tb-ta))(e:b=d):d*(tb-sa)=a*(sb-sa):=by grind
def z13{d a b sa sb ta tb:Int}(h:d*(ta-sa)=a*(sb-sa)-b*(tb-ta))(e:a=0)(f:b=0):d*(ta-sa)=0:=by grind
def z14{d a b sa sb ta tb:Int}(h:d*(ta-sa)=a*(sb-sa)-b*(tb-ta))(e:a=0)(f:b=d):d*(tb-sa)=0:=by grind
def z23{d a b sa sb ta tb:Int}(h:d*(ta-sa)=a*(sb-sa)-b*(tb-ta))(e:a=d)(f:b=0):d*(ta-sb)=0:=by grind
def z24{d a b sa sb ta tb:Int}(h:d*(ta-sa)=a*(sb-sa)-b*(tb-ta))(e:a=d)(f:b=d):d*(tb-sb)=0:=by grind
def YD(s t:S)(hs:bJ s=true)(ht:bJ t=true)(hd:cross (sub s.b s.a) (sub t.b t.a)≠0):
  MeetIs s t (oS s t (cross (sub s.b s.a) (sub t.b t.a))):=by
 have hsab:s.a≠s.b:=by intro h;apply hd;rw[h];simp[cross,sub]
 have htab:t.a≠t.b:=by intro h;apply hd;rw[h];simp[cross,sub]
 obtain⟨a0,ha0⟩:∃a,a=cross (sub t.a s.a) (sub t.b t.a):=⟨_,rfl⟩;obtain⟨b0,hb0⟩:∃a,a=cross (sub t.a s.a) (sub s.b s.a):=⟨_,rfl⟩;obtain⟨d0,hd0⟩:∃a,a=cross (sub s.b s.a) (sub t.b t.a):=⟨_,rfl⟩;have f1:cross (sub t.b t.a) (sub s.a t.a)=a0:=by rw[ha0];simp only[cross,sub];grind
 have f2:cross (sub t.b t.a) (sub s.b t.a)=a0-d0:=by rw[ha0,hd0];simp only[cross,sub];grind
 have f3:cross (sub s.b s.a) (sub t.a s.a)= -b0:=by rw[hb0];simp only[cross,sub];grind
 have f4:cross (sub s.b s.a) (sub t.b s.a)=d0-b0:=by rw[hb0,hd0];simp only[cross,sub];grind
 have gx:d0*(t.a.x-s.a.x)=a0*(s.b.x-s.a.x)-b0*(t.b.x-t.a.x):=by rw[ha0,hb0,hd0];simp only[cross,sub];grind
 have gy:d0*(t.a.y-s.a.y)=a0*(s.b.y-s.a.y)-b0*(t.b.y-t.a.y):=by rw[ha0,hb0,hd0];simp only[cross,sub];grind
 rw[<-hd0]at hd;obtain⟨a,b,d,hdp,hx,hy,hab⟩:∃a b d:Int,0<d/\d*(t.a.x-s.a.x)=a*(s.b.x-s.a.x)-b*(t.b.x-t.a.x)/\d*(t.a.y-s.a.y)=a*(s.b.y-s.a.y)-b*(t.b.y-t.a.y)/\((d0<0/\a= -a0/\b= -b0/\d= -d0)\/(¬d0<0/\a=a0/\b=b0/\d=d0)):=by
  by_cases h:d0<0
  .exact⟨-a0,-b0,-d0,by omega,by grind,by grind,by grind⟩
  .exact⟨a0,b0,d0,by omega,gx,gy,by grind⟩
 have hK:oS s t d0=if a<0\/d<a\/b<0\/d<b then 0 else if a=0\/a=d\/b=0\/b=d then 1 else 2:=by unfold oS;simp only[<-ha0,<-hb0];rcases hab with⟨h,rfl,rfl,rfl⟩|⟨h,rfl,rfl,rfl⟩<;>simp only[h,if_true,if_false]
 have c1:cB s t s.a↔(a=0/\0<=b/\b<=d):=by
  unfold cB;rw[gX ht,f1];have e:a0=0↔a=0:=by clear gx gy hx hy;omega
  rw[e];constructor
  .rintro⟨_,h1,h2⟩;exact⟨h2,(oP t s.a d b hdp (q1 hx h2) (q1 hy h2) htab).1 h1⟩
  .rintro⟨h2,h3⟩;exact⟨fQ hs,(oP t s.a d b hdp (q1 hx h2) (q1 hy h2) htab).2 h3,h2⟩
 have c2:cB s t s.b↔(a=d/\0<=b/\b<=d):=by
  unfold cB;rw[gX ht,f2];have e:a0-d0=0↔a=d:=by clear gx gy hx hy;omega
  rw[e];constructor
  .rintro⟨_,h1,h2⟩;exact⟨h2,(oP t s.b d b hdp (q2 hx h2) (q2 hy h2) htab).1 h1⟩
  .rintro⟨h2,h3⟩;exact⟨jT hs,(oP t s.b d b hdp (q2 hx h2) (q2 hy h2) htab).2 h3,h2⟩
 have c3:cB s t t.a↔(b=0/\0<=a/\a<=d):=by
  unfold cB;rw[gX hs,f3];have e: -b0=0↔b=0:=by clear gx gy hx hy;omega
  rw[e];constructor
  .rintro⟨⟨h1,h2⟩,_⟩;exact⟨h2,(oP s t.a d a hdp (q3 hx h2) (q3 hy h2) hsab).1 h1⟩
  .rintro⟨h2,h3⟩;exact⟨⟨(oP s t.a d a hdp (q3 hx h2) (q3 hy h2) hsab).2 h3,h2⟩,fQ ht⟩
 have c4:cB s t t.b↔(b=d/\0<=a/\a<=d):=by
  unfold cB;rw[gX hs,f4];have e:d0-b0=0↔b=d:=by clear gx gy hx hy;omega
  rw[e];constructor
  .rintro⟨⟨h1,h2⟩,_⟩;exact⟨h2,(oP s t.b d a hdp (q4 hx h2) (q4 hy h2) hsab).1 h1⟩
  .rintro⟨h2,h3⟩;exact⟨⟨(oP s t.b d a hdp (q4 hx h2) (q4 hy h2) hsab).2 h3,h2⟩,jT ht⟩
 have hT:(turn s.a s.b t.a*turn s.a s.b t.b<0/\turn t.a t.b s.a*turn t.a t.b s.b<0)↔(0<a/\a<d/\0<b/\b<d):=by
  unfold turn;rw[wN,wN,f1,f2,f3,f4];clear hx hy gx gy c1 c2 c3 c4 f1 f2 f3 f4 hK ha0 hb0 hd0;rcases hab with⟨h,rfl,rfl,rfl⟩|⟨h,rfl,rfl,rfl⟩
  .omega
  .omega
 rw[<-hd0,hK];clear hK f1 f2 f3 f4;have hone:∀p q,p∈[s.a,s.b,t.a,t.b]->q∈[s.a,s.b,t.a,t.b]->cB s t p->cB s t q->p=q:=by
  have zz:∀x:Int,d*x=0->x=0:=λx h=>by rcases dt.1 h with h|h<;>omega
  have e13:cB s t s.a->cB s t t.a->s.a=t.a:=by rw[c1,c3];rintro⟨h1,_⟩ ⟨h2,_⟩;have h3:=zz _ (z13 hx h1 h2);have h4:=zz _ (z13 hy h1 h2);cases hsa:s.a;cases hta:t.a;simp only[hsa,hta]at h3 h4;simp;omega
  have e14:cB s t s.a->cB s t t.b->s.a=t.b:=by rw[c1,c4];rintro⟨h1,_⟩ ⟨h2,_⟩;have h3:=zz _ (z14 hx h1 h2);have h4:=zz _ (z14 hy h1 h2);cases hsa:s.a;cases hta:t.b;simp only[hsa,hta]at h3 h4;simp;omega
  have e23:cB s t s.b->cB s t t.a->s.b=t.a:=by rw[c2,c3];rintro⟨h1,_⟩ ⟨h2,_⟩;have h3:=zz _ (z23 hx h1 h2);have h4:=zz _ (z23 hy h1 h2);cases hsa:s.b;cases hta:t.a;simp only[hsa,hta]at h3 h4;simp;omega
  have e24:cB s t s.b->cB s t t.b->s.b=t.b:=by rw[c2,c4];rintro⟨h1,_⟩ ⟨h2,_⟩;have h3:=zz _ (z24 hx h1 h2);have h4:=zz _ (z24 hy h1 h2);cases hsa:s.b;cases hta:t.b;simp only[hsa,hta]at h3 h4;simp;omega
  have e12:cB s t s.a->cB s t s.b->False:=by rw[c1,c2];clear hx hy;omega
  have e34:cB s t t.a->cB s t t.b->False:=by rw[c3,c4];clear hx hy;omega
  intro p q hp hq h1 h2;simp only[bT,cn,or_false]at hp hq;rcases hp with rfl|rfl|rfl|rfl<;>rcases hq with rfl|rfl|rfl|rfl
  .rfl
  .grind
  .grind
  .grind
  .grind
  .rfl
  .grind
  .grind
  .grind
  .grind
  .rfl
  .grind
  .grind
  .grind
  .grind
  .rfl
 clear hx hy hd0 hab hd;constructor
 .grind
 .grind
 .grind
 .omega
 grind
def leV(p q:V):Prop:=p.y<q.y\/(p.y=q.y/\p.x<=q.x)
instance(p q:V):Decidable (leV p q):=by unfold leV;infer_instance
def sO(p:V):leV p p:= .inr (by grind)
def qf{p q r:V}(h1:leV p q)(h2:leV q r):leV p r:=by unfold leV at*;omega
def xF{p q:V}(h1:leV p q)(h2:leV q p):p=q:=by cases p;cases q;unfold leV at*;grind
def wu(p q:V):leV p q\/leV q p:=by unfold leV;omega
def mE(p q:V):bf p q=true↔¬leV q p:=by unfold bf leV;simp;omega
def qW(p q:V):bf p q=false↔leV q p:=by rw[<-Bool.not_eq_true,mE];grind
def wv(p q:V):bn p q=0↔p=q:=by cases p;cases q;unfold bn fF;grind
def Mi(p q:V):bn p q= -1↔bf p q=true:=by unfold bn fF bf;grind
def xY(p q:V):bn p q<0↔bf p q=true:=by unfold bn fF bf;grind
def N4(s:S):(loS s=s.a/\hiS s=s.b)\/(loS s=s.b/\hiS s=s.a):=by unfold loS hiS;grind
def Mo(s:S)(p:V)(hne:s.a≠s.b)(hc:cross (sub s.b s.a) (sub p s.a)=0):fV s p=true↔(leV (loS s) p/\leV p (hiS s)):=by
 simp only[cross,sub]at hc;by_cases hy:s.b.y=s.a.y
 .have hx:s.b.x≠s.a.x:=by intro hx;apply hne;cases hsa:s.a;cases hsb:s.b;simp only[hsa,hsb]at hx hy;simp[hx,hy]
  unfold loS hiS;cases h:bf s.b s.a
  .have h1:=(qW _ _).1 h;simp only[fV,leV,bw,decide_eq_true_eq]at*;grind
  .have h1:=(mE _ _).1 h;simp only[fV,leV,bw,decide_eq_true_eq]at*;grind
 .have hxy:p.y=s.a.y->p.x=s.a.x:=by
   intro h;have h0:p.y-s.a.y=0:=by omega
   rw[h0]at hc;have:(s.b.y-s.a.y)*(p.x-s.a.x)=0:=by omega
   rcases dt.1 this with h|h<;>omega
  have hxz:p.y=s.b.y->p.x=s.b.x:=by
   intro h;rw[h]at hc;have:(s.b.y-s.a.y)*(p.x-s.b.x)=0:=by grind
   rcases dt.1 this with h|h<;>omega
  rcases mZ hy with h|h
  .have hb:=oP s p (s.a.y-s.b.y) (s.a.y-p.y) (by omega) (by grind) (by grind) hne;rw[hb];have h1:bf s.b s.a=true:=by rw[mE];unfold leV;omega
   unfold loS hiS;rw[h1];simp only[if_true,leV];omega
  .have hb:=oP s p (s.b.y-s.a.y) (p.y-s.a.y) (by omega) (by grind) (by grind) hne;rw[hb];have h1:bf s.b s.a=false:=by rw[qW];unfold leV;omega
   unfold loS hiS;rw[h1];simp only[qM,if_false,leV];omega
def zM{s:S}(h:s.a=s.b){p:V}(hp:fV s p=true):p=s.a:=by cases hsa:s.a;cases hsb:s.b;cases p;simp only[fV,hsa,hsb,V.mk.injEq,bw,decide_eq_true_eq]at*;omega
def JF(u v w:V)(h1:cross u v=0)(h2:cross v w=0)(hv:v≠⟨0,0⟩):cross u w=0:=by
 simp only[cross]at*;by_cases hx:v.x=0
 .have hy:v.y≠0:=by intro hy;apply hv;cases v;simp at hx hy;simp[hx,hy]
  have:v.y*(u.x*w.y-u.y*w.x)=0:=by grind
  rcases dt.1 this with h|h
  .omega
  .exact h
 .have:v.x*(u.x*w.y-u.y*w.x)=0:=by grind
  rcases dt.1 this with h|h
  .omega
  .exact h
def GL{p q:V}(h:p≠q):sub q p≠⟨0,0⟩:=by intro h';apply h;cases p;cases q;simp only[sub,V.mk.injEq]at*;omega
def oK(s t:S):MeetIs s t (cC s t):=by
 unfold cC;by_cases hv:(bJ s&&bJ t)=true
 .have hs:bJ s=true:=by simp at hv;exact hv.1
  have ht:bJ t=true:=by simp at hv;exact hv.2
  rw[if_neg (by rw[hv];simp)];by_cases hd:cross (sub s.b s.a) (sub t.b t.a)≠0
  .rw[if_pos hd];exact YD s t hs ht hd
  .rw[if_neg hd];have hd0:cross (sub s.b s.a) (sub t.b t.a)=0:=by omega
   have hnv:∀k,(bJ s&&bJ t)=false->k=(0:Int):=by intro k h;rw[hv]at h;cases h
   have hside:¬(turn s.a s.b t.a*turn s.a s.b t.b<0/\turn t.a t.b s.a*turn t.a t.b s.b<0):=by
    rintro⟨h,_⟩;unfold turn at h;rw[wN]at h;have e:cross (sub s.b s.a) (sub t.b s.a)=cross (sub s.b s.a) (sub t.a s.a)+cross (sub s.b s.a) (sub t.b t.a):=by simp only[cross,sub];grind
    omega
   have allone:∀z,(∀p,p∈[s.a,s.b,t.a,t.b]->cB s t p->p=z)->cB s t z->z∈[s.a,s.b,t.a,t.b]->MeetIs s t 1:=by intro z hz hzo hzm;refine⟨hnv 1,by grind,λ_ _ _=>rfl,by grind,by grind⟩
   have nothing:(∀p,p∈[s.a,s.b,t.a,t.b]->¬cB s t p)->MeetIs s t 0:=by intro h;exact⟨λ_=>rfl,by grind,by grind,by grind,λ_ _ _=>rfl⟩
   by_cases h1:s.a=s.b/\onS t s.a=true
   .rw[if_pos h1];exact allone s.a (λp _ h=>zM h1.1 ((gX hs).1 h.1).1) ⟨fQ hs,h1.2⟩ (by simp)
   .rw[if_neg h1];by_cases h2:t.a=t.b/\onS s t.a=true
    .rw[if_pos h2];exact allone t.a (λp _ h=>zM h2.1 ((gX ht).1 h.2).1) ⟨h2.2,fQ ht⟩ (by simp)
    .rw[if_neg h2];by_cases h3:s.a=s.b\/t.a=t.b\/turn s.a s.b t.a≠0
     .rw[if_pos h3];apply nothing;rintro p hp ⟨hps,hpt⟩;by_cases hsd:s.a=s.b
      .have:=zM hsd ((gX hs).1 hps).1;grind
      .by_cases htd:t.a=t.b
       .have:=zM htd ((gX ht).1 hpt).1;grind
       .have h4:turn s.a s.b t.a≠0:=by
         rcases h3 with h|h|h
         .grind
         .grind
         .exact h
        have c1:=((gX hs).1 hps).2;have c2:=((gX ht).1 hpt).2;have hv0:=GL htd;have c3:=JF _ _ _ hd0 c2 hv0;apply h4;unfold turn;rw[oC];have e:cross (sub s.b s.a) (sub t.a s.a)=cross (sub s.b s.a) (sub p s.a)-cross (sub s.b s.a) (sub p t.a):=by simp only[cross,sub];grind
        omega
     .rw[if_neg h3];have hsd:s.a≠s.b:=by grind
      have htd:t.a≠t.b:=by grind
      have hta:cross (sub s.b s.a) (sub t.a s.a)=0:=by
       have:turn s.a s.b t.a=0:=by grind
       unfold turn at this;rwa[oC]at this
      have hl1:∀p,p∈[s.a,s.b,t.a,t.b]->cross (sub s.b s.a) (sub p s.a)=0:=by
       intro p hp;simp only[bT,cn,or_false]at hp;rcases hp with rfl|rfl|rfl|rfl
       .simp[cross,sub]
       .simp only[cross];grind
       .exact hta
       .have e:cross (sub s.b s.a) (sub t.b s.a)=cross (sub s.b s.a) (sub t.a s.a)+cross (sub s.b s.a) (sub t.b t.a):=by simp only[cross,sub];grind
        omega
      have hl2:∀p,p∈[s.a,s.b,t.a,t.b]->cross (sub t.b t.a) (sub p t.a)=0:=by
       intro p hp;have h5:=hl1 p hp;have e:cross (sub s.b s.a) (sub p t.a)=cross (sub s.b s.a) (sub p s.a)-cross (sub s.b s.a) (sub t.a s.a):=by simp only[cross,sub];grind
       have h6:cross (sub s.b s.a) (sub p t.a)=0:=by omega
       have h7:cross (sub t.b t.a) (sub s.b s.a)=0:=by
        have:cross (sub t.b t.a) (sub s.b s.a)= -cross (sub s.b s.a) (sub t.b t.a):=by simp only[cross,sub];grind
        omega
       exact JF _ _ _ h7 h6 (GL hsd)
      have hlo:leV (loS s) (fC s t)/\leV (loS t) (fC s t)/\(fC s t=loS s\/fC s t=loS t):=by
       unfold fC;cases h:bf (loS s) (loS t)
       .have:=(qW _ _).1 h;simp[this,sO]
       .have h':=(mE _ _).1 h;have:leV (loS s) (loS t):=(wu _ _).elim id (by grind);simp[this,sO]
      have hhi:leV (fN s t) (hiS s)/\leV (fN s t) (hiS t)/\(fN s t=hiS s\/fN s t=hiS t):=by
       unfold fN;cases h:bf (hiS t) (hiS s)
       .have:=(qW _ _).1 h;simp[this,sO]
       .have h':=(mE _ _).1 h;have:leV (hiS t) (hiS s):=(wu _ _).elim id (by grind);simp[this,sO]
      have hmem:∀p,(p=loS s\/p=hiS s\/p=loS t\/p=hiS t)->p∈[s.a,s.b,t.a,t.b] :=by intro p h;have h5:=N4 s;have h6:=N4 t;simp only[bT,cn,or_false];grind
      have hon:∀p,p∈[s.a,s.b,t.a,t.b]->(cB s t p↔leV (fC s t) p/\leV p (fN s t)):=by
       intro p hp;unfold cB;rw[gX hs,gX ht,Mo s p hsd (hl1 p hp),Mo t p htd (hl2 p hp)];constructor
       .grind
       .rintro⟨a1,a2⟩;exact⟨⟨⟨qf hlo.1 a1,qf a2 hhi.1⟩,hl1 p hp⟩,⟨qf hlo.2.1 a1,qf a2 hhi.2.1⟩,hl2 p hp⟩
      have mlo:fC s t∈[s.a,s.b,t.a,t.b] :=hmem _ (by grind);have mhi:fN s t∈[s.a,s.b,t.a,t.b] :=hmem _ (by grind);by_cases h5:bn (fC s t) (fN s t)=0
      .rw[if_pos h5];have e:=(wv _ _).1 h5;refine allone (fC s t) ?_ (by grind) mlo;intro p hp h;have h6:=(hon p hp).1 h;rw[<-e]at h6;exact xF h6.2 h6.1
      .rw[if_neg h5];by_cases h6:bn (fC s t) (fN s t)= -1
       .rw[if_pos h6];have h7:=(mE _ _).1 ((Mi _ _).1 h6);have h8:leV (fC s t) (fN s t):=(wu _ _).elim id (by grind);have o1:=(hon _ mlo).2 ⟨sO _,h8⟩;have o2:=(hon _ mhi).2 ⟨h8,sO _⟩;have hne:fC s t≠fN s t:=by grind
        exact⟨by grind,by grind,by grind,by grind,by grind⟩
       .rw[if_neg h6];apply nothing;intro p hp h;have h7:=(hon p hp).1 h;have h8:=qf h7.1 h7.2;have h9:¬bf (fC s t) (fN s t)=true:=λh=>h6 ((Mi _ _).2 h);rw[mE]at h9;exact h5 ((wv _ _).2 (xF h8 (by grind)))
 .have hv':(bJ s&&bJ t)=false:=by simpa using hv
  rw[if_pos (by rw[hv'];rfl)];have hv3:¬(bJ s&&bJ t)=true:=by rw[hv'];simp
  refine⟨λ_=>rfl,λp q _ _ _ h1 _=> ?_,by grind,by grind,by grind⟩;exfalso;obtain⟨h1,h2⟩:=h1;unfold onS at h1 h2;grind
def jp:List V->V->List V
 |[],p=>[p]
 |q::r,p=>if bf q p then q::jp r p else if q=p then q::r else p::q::r
def lP(l:List V):List V:=l.foldl jp []
def MC(l:List V)(p x:V):x∈jp l p↔x=p\/x∈l:=by
 induction l with
 |nil=>simp[jp]
 |cons q r ih=>
  unfold jp;grind
def S3(l acc:List V)(x:V):x∈l.foldl jp acc↔x∈acc\/x∈l:=by
 induction l generalizing acc with
 |nil=>simp
 |cons q r ih=>rw[List.foldl_cons,ih,MC];grind
def T0(l:List V)(x:V):x∈lP l↔x∈l:=by unfold lP;rw[S3];simp
def tj{p q r:V}(h1:bf p q=true)(h2:bf q r=true):bf p r=true:=by unfold bf at*;grind
def wJ(p:V):bf p p=false:=by unfold bf;simp
def AA{p q:V}(h1:bf p q=false)(h2:p≠q):bf q p=true:=by rw[mE];intro h;exact h2 (xF h ((qW _ _).1 h1))
def T8(l:List V)(p:V)(h:l.Pairwise (λa b=>bf a b=true)):(jp l p).Pairwise (λa b=>bf a b=true):=by
 induction l with
 |nil=>simp[jp]
 |cons q r ih=>
  rw[iB]at h;unfold jp;split
  .rename_i hq;rw[iB];refine⟨?_,ih h.2⟩;intro x hx;rcases(MC _ _ _).1 hx with rfl|hx
   .exact hq
   grind
  .split
   .simp_all
   .rename_i hne;have hpq:=AA (by grind) hne;rw[iB,iB];refine⟨?_,h⟩;intro x hx;rcases bT.1 hx with rfl|hx
    .exact hpq
    .exact tj hpq (h.1 x hx)
def Sk(l acc:List V)(h:acc.Pairwise (λa b=>bf a b=true)):(l.foldl jp acc).Pairwise (λa b=>bf a b=true):=by
 induction l generalizing acc with
 |nil=>exact h
 |cons q r ih=>exact ih _ (T8 acc q h)
def If(l:List V):(lP l).Pairwise (λa b=>bf a b=true):=Sk l [] tT
def ends(s t:S):List V:=[s.a,s.b,t.a,t.b]
def dw(s t:S):List V:=lP ((ends s t).filter (λp=>onS s p&&onS t p))
def DN(s t:S)(p:V):p∈dw s t↔p∈ends s t/\cB s t p:=by unfold dw cB;rw[T0,iX];simp
def gP(s:S)(p:V):Int:=if !(bJ s)|| !(bL p 4000)then 0 else turn s.a s.b p
def bh(s t:S):Int:=
 if !(bJ s&&bJ t)then 0
 else if 1<(dw s t).length then 3
 else if(dw s t).length=1 then 1
 else if gP s t.a*gP s t.b<0/\gP t s.a*gP t s.b<0 then 2
 else 0
def oL(s t:S):cC s t=bh s t:=by
 have h:=oK s t;obtain⟨k,hk⟩:∃k,k=cC s t:=⟨_,rfl⟩;unfold bh;cases hv:(bJ s&&bJ t)with
 |false=>simp[h.none hv]
 |true=>
  have hs:bJ s=true:=by simp at hv;exact hv.1
  have ht:bJ t=true:=by simp at hv;exact hv.2
  have ws:=hs;have wt:=ht;unfold bJ at ws wt;simp only[bw]at ws wt;simp only[yY,qM,if_false,gP,hs,ht,ws,wt,Bool.or_self];have hp:=If ((ends s t).filter (λp=>onS s p&&onS t p));have hm:=DN s t;rw[show lP ((ends s t).filter (λp=>onS s p&&onS t p))=dw s t from rfl]at hp;generalize dw s t=l at hp hm;match l,hp,hm with
  |[],_,hm=>
   have hno:∀p,p∈[s.a,s.b,t.a,t.b]->¬cB s t p:=λp hp ho=>by have:=(hm p).2 ⟨hp,ho⟩;cases this
   simp only[lv];by_cases hc:turn s.a s.b t.a*turn s.a s.b t.b<0/\turn t.a t.b s.a*turn t.a t.b s.b<0
   .rw[if_pos hc];exact h.cross hv hno hc
   .rw[if_neg hc];exact h.else_ hv hno hc
  |[z],_,hm=>
   simp only[List.length_singleton];have hz:=(hm z).1 (by simp);refine h.touch hv ?_ ⟨z,hz⟩;intro p q hp hq h1 h2;have e1:=(hm p).2 ⟨hp,h1⟩;have e2:=(hm q).2 ⟨hq,h2⟩;grind
  |z::y::r,hp,hm=>
   simp only[gk];have hz:=(hm z).1 (by simp);have hy:=(hm y).1 (by simp);refine h.over z y hz.1 hy.1 ?_ hz.2 hy.2;intro e;rw[iB]at hp;have:=hp.1 y (by simp);rw[e,wJ]at this;cases this
end Geo
namespace Geo
abbrev aH:=List V
def nth(r:aH)(i:Nat):V:=r.getD i default
def nxt(r:aH)(i:Nat):V:=nth r ((i+1) % r.length)
def prv(r:aH)(i:Nat):V:=nth r ((i+r.length-1) % r.length)
def bP(r:aH)(i:Nat):S:=⟨nth r i,nxt r i⟩
def aJ(r:aH):List S:=if r.length<2 then []else(bQ r.length).map (bP r)
def area(r:aH):Int:=((bQ r.length).map λi=>cross (nth r i) (nxt r i)).sum
def near(r:aH):Bool:=r.all λv=>bL v 2000
def co(r:aH):Bool:=
 decide (3<=r.length)&&decide (r.length<=40)&&near r&&decide (0<area r)&&
 ((bQ r.length).all λi=>turn (prv r i) (nth r i) (nxt r i) !=0)&&
 ((bQ r.length).all λi=>(bQ r.length).all λk=>decide (k<=i)||k==i+1||(i==0&&k==r.length-1)||cC (bP r i) (bP r k)==0)
def eC(r:aH):Bool:=
 decide (3<=r.length)&&decide (r.length<=40)&&near r&&
 ((bQ r.length).all λi=>turn (nth r i) (nth r ((i+1) % r.length)) (nth r ((i+2) % r.length)) !=0)&&
 ((bQ r.length).all λi=>(bQ r.length).all λk=>decide (k<=i)||
   (if k=i+1\/(i=0/\k=r.length-1)then bh (bP r i) (bP r k)==1 else bh (bP r i) (bP r k)==0))&&
 decide (0<area r)
def LK(a b c:V):turn a b c=turn b c a:=by unfold turn;simp only[cross,sub];grind
def J7(a b c:V):cross (sub b a) (sub c a)= -cross (sub a b) (sub c b):=by simp only[cross,sub];grind
def MD(s t:S)(hs:bJ s=true)(ht:bJ t=true)(he:s.b=t.a)(hn:turn s.a s.b t.b≠0):cC s t=1:=by
 have h:=oK s t;have hb:cB s t s.b:=⟨jT hs,by rw[he];exact fQ ht⟩;refine h.touch (by grind) ?_ (by grind);have key:∀p,p∈[s.a,s.b,t.a,t.b]->cB s t p->p=s.b:=by
  intro p hp ho;simp only[bT,cn,or_false]at hp;rcases hp with rfl|rfl|rfl|rfl
  .exfalso;apply hn;have:=((gX ht).1 ho.2).2;rw[LK];unfold turn;rw[oC,he];exact this
  .rfl
  .exact he.symm
  .exfalso;apply hn;have:=((gX hs).1 ho.1).2;unfold turn;rw[oC];exact this
 grind
def mD(s t:S):cC s t=cC t s:=by
 have h1:=oK s t;have h2:=oK t s;have hmem:∀p,p∈[s.a,s.b,t.a,t.b] ↔p∈[t.a,t.b,s.a,s.b] :=by intro p;simp only[bT,cn,or_false];grind
 have hob:∀p,cB s t p↔cB t s p:=λp=>And.comm;cases hv:(bJ s&&bJ t)with
 |false=>rw[h1.none hv,h2.none (by grind)]
 |true=>
  have hv':(bJ t&&bJ s)=true:=by rw[Bool.and_comm];exact hv
  by_cases hx:∃p,p∈[s.a,s.b,t.a,t.b]/\cB s t p
  .by_cases hu:∀p q,p∈[s.a,s.b,t.a,t.b]->q∈[s.a,s.b,t.a,t.b]->cB s t p->cB s t q->p=q
   .rw[h1.touch hv hu hx,h2.touch hv' (by grind)];grind
   .have:∃p q,p∈[s.a,s.b,t.a,t.b]/\q∈[s.a,s.b,t.a,t.b]/\p≠q/\cB s t p/\cB s t q:=by apply fH;intro hno;apply hu;intro p q hp hq a b;apply fH;intro hne;grind
    obtain⟨p,q,hp,hq,hne,a,b⟩:=this;rw[h1.over p q hp hq hne a b,h2.over p q ((hmem p).1 hp) ((hmem q).1 hq) hne ((hob p).1 a) ((hob q).1 b)]
  .have hno:∀p,p∈[s.a,s.b,t.a,t.b]->¬cB s t p:=by grind
   have hno':∀p,p∈[t.a,t.b,s.a,s.b]->¬cB t s p:=by grind
   by_cases hc:turn s.a s.b t.a*turn s.a s.b t.b<0/\turn t.a t.b s.a*turn t.a t.b s.b<0
   .rw[h1.cross hv hno hc,h2.cross hv' hno' ⟨hc.2,hc.1⟩]
   .rw[h1.else_ hv hno hc,h2.else_ hv' hno' (by grind)]
def kg{v:V}{m n:Int}(h:bL v m=true)(hmn:m<=n):bL v n=true:=by unfold bL at*;simp only[bw,decide_eq_true_eq]at*;omega
def uO{r:aH}(h:near r=true)(i:Nat)(hi:i<r.length):bL (nth r i) 2000=true:=by unfold near at h;unfold nth;grind
def jc{r:aH}(h:near r=true)(i:Nat)(hi:i<r.length):bJ (bP r i)=true:=by unfold bJ bP nxt;have h2:(i+1) % r.length<r.length:=bq _ (by omega);simp only[bw];exact⟨kg (uO h i hi) (by omega),kg (uO h _ h2) (by omega)⟩
def jK{i n:Nat}(h:i<n):i % n=i:=dZ h
def pW{i n:Nat}(h1:n<=i)(h2:i<2*n):i % n=i-n:=by rw[Nat.mod_eq_sub_mod h1,dZ (by omega)]
def Dv(r:aH)(hn:3<=r.length):
  ((bQ r.length).all λi=>turn (prv r i) (nth r i) (nxt r i) !=0)=((bQ r.length).all λi=>turn (nth r i) (nth r ((i+1) % r.length)) (nth r ((i+2) % r.length)) !=0):=by
 rw[fm,bk,bk];constructor
 .intro h i hi;have hi:=cG.1 hi;have:=h ((i+1) % r.length) (cG.2 (bq _ (by omega)));unfold prv nxt at this;by_cases h1:i+1<r.length
  .rw[jK h1]at this|-;have e1:(i+1+r.length-1) % r.length=i:=by rw[show i+1+r.length-1=i+r.length from by omega,pW (by omega) (by omega)];omega
   grind
  .have e0:i+1=r.length:=by omega
   rw[e0,ju]at this|-;have e1:(0+r.length-1) % r.length=i:=by rw[jK (by omega)];omega
   have e2:(i+2) % r.length=(0+1) % r.length:=by rw[pW (by omega) (by omega),jK (by omega)];omega
   grind
 .intro h i hi;have hi:=cG.1 hi;have:=h ((i+r.length-1) % r.length) (cG.2 (bq _ (by omega)));unfold prv nxt;by_cases h1:i=0
  .subst h1;have e1:(0+r.length-1) % r.length=r.length-1:=by rw[jK (by omega)];omega
   have e2:(r.length-1+1) % r.length=0:=by rw[show r.length-1+1=r.length from by omega,ju]
   have e3:(r.length-1+2) % r.length=(0+1) % r.length:=by rw[pW (by omega) (by omega),jK (by omega)];omega
   grind
  .have e1:(i+r.length-1) % r.length=i-1:=by rw[pW (by omega) (by omega)];omega
   have e2:(i-1+1) % r.length=i:=by rw[show i-1+1=i from by omega];exact jK hi
   have e3:i-1+2=i+1:=by omega
   grind
def uG(r:aH):co r=eC r:=by
 unfold co eC;by_cases h3:3<=r.length
 case neg=>simp[h3]
 by_cases hn:near r=true
 case neg=>simp[hn]
 rw[Dv r h3];cases ht:((bQ r.length).all λi=>turn (nth r i) (nth r ((i+1) % r.length)) (nth r ((i+2) % r.length)) !=0)with
 |false=>simp
 |true=>
  have hpairs:((bQ r.length).all λi=>(bQ r.length).all λk=>decide (k<=i)||k==i+1||(i==0&&k==r.length-1)||cC (bP r i) (bP r k)==0)=
    ((bQ r.length).all λi=>(bQ r.length).all λk=>decide (k<=i)||
      (if k=i+1\/(i=0/\k=r.length-1)then bh (bP r i) (bP r k)==1 else bh (bP r i) (bP r k)==0)):=by
   have hturn:∀i,i<r.length->turn (nth r i) (nth r ((i+1) % r.length)) (nth r ((i+2) % r.length))≠0:=by intro i hi;rw[bk]at ht;have:=ht i (cG.2 hi);simpa using this
   have hpt:∀i k,i<r.length->k<r.length->(decide (k<=i)||k==i+1||(i==0&&k==r.length-1)||cC (bP r i) (bP r k)==0)=(decide (k<=i)||
     (if k=i+1\/(i=0/\k=r.length-1)then bh (bP r i) (bP r k)==1 else bh (bP r i) (bP r k)==0)):=by
    intro i k hi hk;rw[<-oL];by_cases hki:k<=i
    .simp[hki]
    .by_cases h1:k=i+1
     .subst h1;have:=MD (bP r i) (bP r (i+1)) (jc hn i hi) (jc hn _ hk) (by unfold bP nxt;simp[jK hk]) (by have:=hturn i hi;exact this)
      simp[this]
     .by_cases h2:i=0/\k=r.length-1
      .obtain⟨rfl,rfl⟩:=h2;have e1:(r.length-1+1) % r.length=0:=by rw[show r.length-1+1=r.length from by omega,ju]
       have:=MD (bP r (r.length-1)) (bP r 0) (jc hn _ hk) (jc hn _ hi) (by unfold bP nxt;grind) (by
        have:=hturn (r.length-1) hk;have e3:(r.length-1+2) % r.length=(0+1) % r.length:=by rw[pW (by omega) (by omega),jK (by omega)];omega
        unfold bP nxt;grind)
       rw[mD]at this;simp[this]
      .have h3:(i==0&&k==r.length-1)=false:=by rw[<-Bool.not_eq_true,bw,beq_iff_eq,beq_iff_eq];exact h2
       have h4:(k==i+1)=false:=by rw[beq_eq_false_iff_ne];exact h1
       rw[if_neg (by omega),h3,h4];simp
   rw[fm];simp only[bk,cG];constructor
   .grind
   .grind
  grind
structure Pt where
 x:Int
 y:Int
 den:Int
deriving DecidableEq,Inhabited
def toV(p:Pt)(v:V):V:=⟨p.x-v.x*p.den,p.y-v.y*p.den⟩
def gQ(s:S)(p:Pt):Int:=cross (sub s.b s.a) (toV p s.a)
def onP(s:S)(p:Pt):Bool:=
 gQ s p==0&&(decide (min (toV p s.a).x (toV p s.b).x<=0)&&decide (0<=max (toV p s.a).x (toV p s.b).x))&&(decide (min (toV p s.a).y (toV p s.b).y<=0)&&decide (0<=max (toV p s.a).y (toV p s.b).y))
def dr(s:S)(p:Pt):Bool:=
 (decide (0<=(toV p s.a).y) !=decide (0<=(toV p s.b).y))&&(decide (0<=(toV p s.a).y)==decide (0<gQ s p))
def onR(s:S)(p:Pt):Bool:=
 (decide (min s.a.x s.b.x*p.den<=p.x)&&decide (p.x<=max s.a.x s.b.x*p.den)&&decide (min s.a.y s.b.y*p.den<=p.y)&&decide (p.y<=max s.a.y s.b.y*p.den))&&sgn (gQ s p)==0
def jq(s:S)(p:Pt):Bool:=
 ((decide (s.a.y*p.den<=p.y)&&decide (p.y<s.b.y*p.den))&&decide (0<sgn (gQ s p)))||((decide (s.b.y*p.den<=p.y)&&decide (p.y<s.a.y*p.den))&&decide (sgn (gQ s p)<0))
def Ns(a b d:Int)(h:0<=d):min a b*d=min (a*d) (b*d):=by
 rcases vT a b with h1|h1
 .rw[Int.min_eq_left h1,Int.min_eq_left (lz h1 h)]
 .rw[Int.min_eq_right h1,Int.min_eq_right (lz h1 h)]
def Nx(a b d:Int)(h:0<=d):max a b*d=max (a*d) (b*d):=by
 rcases vT a b with h1|h1
 .rw[Int.max_eq_right h1,Int.max_eq_right (lz h1 h)]
 .rw[Int.max_eq_left h1,Int.max_eq_left (lz h1 h)]
def Ph(s:S)(p:Pt)(h:0<p.den):onP s p=onR s p:=by unfold onP onR toV;rw[Ns _ _ _ (by omega),Nx _ _ _ (by omega),Ns _ _ _ (by omega),Nx _ _ _ (by omega),fm];simp only[bw,decide_eq_true_eq,beq_iff_eq,oC];omega
def Ur(s:S)(p:Pt)(h0:gQ s p=0)(ha:(toV p s.a).y<0)(hb:0<=(toV p s.b).y)(_hd:0<p.den):onP s p=true:=by
 have e:gQ s p*p.den=(toV p s.a).x*(toV p s.b).y-(toV p s.a).y*(toV p s.b).x:=by unfold gQ toV cross sub;grind
 rw[h0,yZ]at e;unfold onP;rw[h0];generalize (toV p s.a).x=ax at*;generalize (toV p s.b).x=bx at*;simp only[BEq.rfl,nT,bw,decide_eq_true_eq];have hx:(min ax bx<=0/\0<=max ax bx):=by
  rcases br 0 ax with h1|h1
  .have h2:bx<=0:=by
    rcases br 0 bx with h2|h2
    .have p1:=ma ha h2;have p2:=cV (show 0<=ax by omega) hb;omega
    .exact h2
   omega
  .rcases br ax 0 with h1|h1
   .have h2:0<=bx:=by
     rcases br bx 0 with h2|h2
     .have p1:=CT ha h2;have p2:=cV (show 0<= -ax by omega) hb;grind
     .exact h2
    omega
   .omega
 omega
def aAT(s:S)(p:Pt)(h:0<p.den)(ho:onP s p=false):dr s p=jq s p:=by
 have key:(toV p s.a).y<0->0<=(toV p s.b).y->gQ s p≠0:=by intro h1 h2 h3;rw[Ur s p h3 h1 h2 h]at ho;cases ho
 unfold dr jq;rw[fm];simp only[bw,jv,decide_eq_true_eq,bne_iff_ne,ne_eq,beq_iff_eq,FX,ZD,decide_eq_decide];have ey1:(toV p s.a).y=p.y-s.a.y*p.den:=rfl;have ey2:(toV p s.b).y=p.y-s.b.y*p.den:=rfl;omega
def i8(p:Pt)(m:Int):Bool:=decide (1<=p.den)&&decide (p.den<=134217728)&&bL ⟨p.x,p.y⟩ (m*p.den)
def dK(p:Pt):Bool:=i8 p 4000&&(bX (bX p.x.natAbs p.y.natAbs) p.den.natAbs==1)
def eQ(p:Pt):List S->Bool->Int
 |[],ins=>if ins then 2 else 0
 |s::l,ins=>if onP s p then 1 else eQ p l (ins !=dr s p)
def mN(p:Pt):List S->Bool->Int
 |[],ins=>if ins then 2 else 0
 |s::l,ins=>if onR s p then 1 else mN p l (ins !=jq s p)
def ZE(p:Pt)(h:0<p.den)(l:List S)(ins:Bool):eQ p l ins=mN p l ins:=by
 induction l generalizing ins with
 |nil=>rfl
 |cons s l ih=>
  unfold eQ mN;rw[<-Ph s p h];cases ho:onP s p with
  |true=>rfl
  |false=>rw[ih,aAT s p h ho]
def bj(r:aH)(p:Pt):Int:=if !(co r)|| !(dK p)then 0 else eQ p (aJ r) false
def dc(r:aH)(p:Pt):Int:=if !(eC r)|| !(dK p)then 0 else mN p (aJ r) false
def Ec(r:aH)(p:Pt):bj r p=dc r p:=by
 unfold bj dc;rw[uG];cases hp:dK p with
 |false=>simp
 |true=>
  have:0<p.den:=by unfold dK i8 at hp;simp only[bw,decide_eq_true_eq]at hp;omega
  rw[ZE p this]
def eJ(v:V):Pt:=⟨v.x,v.y,1⟩
def dN(r:aH)(v:V):Int:=if !(bL v 4000)then 0 else bj r (eJ v)
def kk(r:aH)(v:V):Int:=if !(bL v 8000)then 0 else dc r (eJ v)
def C7(v:V):dK (eJ v)=bL v 4000:=by unfold dK i8 eJ bL;simp
def zb(r:aH)(v:V):dN r v=kk r v:=by
 unfold dN kk;rw[Ec];cases h:bL v 4000 with
 |true=>rw[kg h (by omega)]
 |false=>
  unfold dc;rw[C7,h];simp
end Geo
namespace Geo
structure Shape where
 outer:aH
 holes:List aH
deriving DecidableEq,Inhabited
def aD(s:Shape):List aH:=s.outer::s.holes
def aC(l:List aH)(i:Nat):aH:=l.getD i []
def eE(a b:aH):Bool:=(aJ a).all λx=>(aJ b).all λy=>cC x y==0
def bM(r q:aH)(place:Int):Bool:=r.all λv=>dN q v==place
def gF(s:Shape):Nat:=((aD s).map List.length).sum
def ak(s:Shape):Bool:=
 decide (s.holes.length<=6)&&(aD s).all co&&decide (gF s<=80)&&
 ((bQ s.holes.length).all λi=>bM (aC s.holes i) s.outer 2&&eE (aC s.holes i) s.outer&&
   ((bQ i).all λk=>eE (aC s.holes i) (aC s.holes k)&&bM (aC s.holes i) (aC s.holes k) 0&&bM (aC s.holes k) (aC s.holes i) 0))
def iT(a b:aH):Bool:=(aJ a).any λx=>(aJ b).any λy=>bh x y !=0
def pQ(a b:aH):Bool:=a.all λv=>kk b v==2
def lL(a b:aH):Bool:=a.any λv=>kk b v==2
def aj(s:Shape):Bool:=
 decide (s.holes.length<=6)&&eC s.outer&&
 ((bQ s.holes.length).all λi=>eC (aC s.holes i)&& !iT (aC s.holes i) s.outer&&pQ (aC s.holes i) s.outer&&
   ((bQ i).all λk=> !iT (aC s.holes i) (aC s.holes k)&& !lL (aC s.holes i) (aC s.holes k)&& !lL (aC s.holes k) (aC s.holes i)))&&
 decide (gF s<=80)
def US(a b:aH):eE a b= !iT a b:=by
 unfold eE iT;rw[SH]
 congr 1;funext x
 rw[SH]
 congr 1;funext y
 rw[oL];grind
def zD{s t:S}{p:V}(hp:p∈[s.a,s.b,t.a,t.b])(ho:cB s t p):cC s t≠0:=by
 have h:=oK s t;have hv:(bJ s&&bJ t)=true:=by obtain⟨h1,h2⟩:=ho;unfold onS at h1 h2;simp only[bw]at h1 h2|-;grind
 by_cases hu:∀p q,p∈[s.a,s.b,t.a,t.b]->q∈[s.a,s.b,t.a,t.b]->cB s t p->cB s t q->p=q
 .rw[h.touch hv hu ⟨p,hp,ho⟩];decide
 .have:∃p q,p∈[s.a,s.b,t.a,t.b]/\q∈[s.a,s.b,t.a,t.b]/\p≠q/\cB s t p/\cB s t q:=by apply fH;intro hno;apply hu;intro p q hp hq a b;apply fH;intro hne;grind
  obtain⟨p,q,hp,hq,hne,a,b⟩:=this;rw[h.over p q hp hq hne a b];decide
def mem_edges{r:aH}{s:S}:s∈aJ r↔2<=r.length/\∃i,i<r.length/\s=bP r i:=by unfold aJ;grind
def fD{r:aH}{v:V}:v∈r↔∃i,i<r.length/\v=nth r i:=by
 unfold nth;constructor
 .intro h;obtain⟨i,hi,e⟩:=jX h;exact⟨i,hi,by grind⟩
 grind
structure VR(r:aH):Prop where
 three:3<=r.length
 most:r.length<=40
 near:near r=true
 area:0<area r
 turn:∀i,i<r.length->turn (prv r i) (nth r i) (nxt r i)≠0
 turn':∀i,i<r.length->Geo.turn (nth r i) (nth r ((i+1) % r.length)) (nth r ((i+2) % r.length))≠0
 apart:∀i k,i<k->k<r.length->k≠i+1->¬(i=0/\k=r.length-1)->cC (bP r i) (bP r k)=0
def jZ(r:aH):co r=true↔VR r:=by
 constructor
 .intro h;unfold co at h;simp only[bw,decide_eq_true_eq,bk,cG]at h;obtain⟨⟨⟨⟨⟨h1,h2⟩,h3⟩,h4⟩,h5⟩,h6⟩:=h;refine⟨h1,h2,h3,h4,by grind,λi hi=> ?_,λi k hik hk h7 h8=> ?_⟩
  .have:=Dv r h1;grind
  grind
 .rintro⟨h1,h2,h3,h4,h5,_,h6⟩;unfold co;simp only[bw,decide_eq_true_eq,bk,cG];grind
def Xf{p:Pt}{l:List S}{ins:Bool}(h:eQ p l ins=1):∃s∈l,onP s p=true:=by
 induction l generalizing ins with
 |nil=>unfold eQ at h;omega
 |cons s l ih=>
  unfold eQ at h;grind
def JR(p:Pt)(l:List S)(ins:Bool):eQ p l ins=0\/eQ p l ins=1\/eQ p l ins=2:=by
 induction l generalizing ins with
 |nil=>unfold eQ;omega
 |cons s l ih=>unfold eQ;grind
def S8(r:aH)(v:V):dN r v=0\/dN r v=1\/dN r v=2:=by
 unfold dN bj;split
 .simp
 .split
  .simp
  .exact JR _ _ _
def L7(s:S)(v:V):onP s (eJ v)=true↔(fV s v=true/\cross (sub s.b s.a) (sub v s.a)=0):=by unfold onP gQ toV eJ fV;simp only[yb,bw,beq_iff_eq,decide_eq_true_eq];rw[show(⟨v.x-s.a.x,v.y-s.a.y⟩:V)=sub v s.a from rfl];omega
def Ti{r:aH}{v:V}(h:dN r v=1):∃s∈aJ r,onS s v=true:=by
 unfold dN bj at h;split at h
 .omega
 .split at h
  .omega
  .rename_i h2;obtain⟨s,hs,ho⟩:=Xf h;refine⟨s,hs,?_⟩;have hv:VR r:=by rw[<-jZ];simp at h2;exact h2.1
   obtain⟨_,i,hi,rfl⟩:=mem_edges.1 hs;rw[gX (jc hv.near i hi)];exact(L7 _ _).1 ho
def wH{a b:aH}(ha:VR a)(h:eE a b=true){v:V}(hv:v∈a){s:S}(hs:s∈aJ b)(ho:onS s v=true):False:=by obtain⟨i,hi,rfl⟩:=fD.1 hv;have hm:bP a i∈aJ a:=mem_edges.2 ⟨by have:=ha.three;omega,i,hi,rfl⟩;unfold eE at h;rw[bk]at h;have h1:=h _ hm;rw[bk]at h1;refine zD (s:=bP a i) (t:=s) (p:=nth a i) (by simp[bP]) ⟨?_,ho⟩ (by grind);exact fQ (s:=bP a i) (jc ha.near i hi)
def rr(a b:aH):eE a b=eE b a:=by
 unfold eE;rw[fm];simp only[bk,beq_iff_eq];constructor
 .intro h y hy x hx;rw[mD];grind
 .intro h x hx y hy;rw[mD];grind
def m6{a b:aH}(ha:VR a)(h:eE a b=true):bM a b 0= !lL a b:=by
 unfold bM lL;rw[SH,fm];simp only[bk];constructor
 .intro h1 v hv;rw[<-zb];grind
 .intro h1 v hv;have:=h1 v hv;rw[<-zb]at this;rcases S8 b v with e|e|e
  .rw[e];rfl
  .exfalso;obtain⟨s,hs,ho⟩:=Ti e;exact wH ha h hv hs ho
  grind
def gD{l:List aH}{i:Nat}(h:i<l.length):aC l i∈l:=by unfold aC;grind
def pX{l:List aH}{r:aH}(h:r∈l):∃i,i<l.length/\r=aC l i:=by obtain⟨i,hi,e⟩:=jX h;exact⟨i,hi,by unfold aC;grind⟩
structure VS(s:Shape):Prop where
 few:s.holes.length<=6
 outer:VR s.outer
 hole:∀i,i<s.holes.length->VR (aC s.holes i)
 corners:gF s<=80
 ins:∀i,i<s.holes.length->bM (aC s.holes i) s.outer 2=true
 apo:∀i,i<s.holes.length->eE (aC s.holes i) s.outer=true
 aph:∀i k,k<i->i<s.holes.length->eE (aC s.holes i) (aC s.holes k)=true
 out1:∀i k,k<i->i<s.holes.length->bM (aC s.holes i) (aC s.holes k) 0=true
 out2:∀i k,k<i->i<s.holes.length->bM (aC s.holes k) (aC s.holes i) 0=true
def nt(s:Shape):ak s=true↔VS s:=by
 unfold ak;simp only[bw,decide_eq_true_eq,bk,cG];constructor
 .rintro⟨⟨⟨h1,h2⟩,h3⟩,h4⟩;exact⟨h1,(jZ _).1 (h2 _ (by simp[aD])),λi hi=>(jZ _).1 (h2 _ (by simp[aD];exact .inr (gD hi))),h3,by grind,by grind,by grind,by grind,by grind⟩
 .rintro⟨h1,h2,h3,h4,h5,h6,h7,h8,h9⟩;refine⟨⟨⟨h1,?_⟩,h4⟩,by grind⟩;intro r hr;rcases bT.1 hr with rfl|hr
  .exact(jZ _).2 h2
  .obtain⟨i,hi,rfl⟩:=pX hr;exact(jZ _).2 (h3 i hi)
def ii(s:Shape):ak s=aj s:=by
 rw[fm,nt];unfold aj;simp only[bw,decide_eq_true_eq,bk,cG,<-US];constructor
 .rintro⟨h1,h2,h3,h4,h5,h6,h7,h8,h9⟩;refine⟨⟨⟨h1,by rw[<-uG];exact(jZ _).2 h2⟩,λi hi=>⟨⟨⟨by rw[<-uG];exact(jZ _).2 (h3 i hi),h6 i hi⟩,?_⟩,λk hk=>⟨⟨h7 i k hk hi,?_⟩,?_⟩⟩⟩,h4⟩
  .have:=h5 i hi;unfold bM at this;unfold pQ;rw[bk]at this|-;intro v hv;rw[<-zb];grind
  .rw[<-m6 (h3 i hi) (h7 i k hk hi)];grind
  .rw[<-m6 (h3 k (by omega)) (by rw[rr];grind)];grind
 .rintro⟨⟨⟨h1,h2⟩,h3⟩,h4⟩;have hr:∀i,i<s.holes.length->VR (aC s.holes i):=λi hi=>by have:=(h3 i hi).1.1.1;rw[<-uG]at this;exact(jZ _).1 this
  refine⟨h1,by rw[<-uG]at h2;exact(jZ _).1 h2,hr,h4,λi hi=> ?_,by grind,by grind,λi k hk hi=> ?_,λi k hk hi=> ?_⟩
  .have:=(h3 i hi).1.2;unfold pQ at this;unfold bM;rw[bk]at this|-;intro v hv;rw[zb];grind
  .rw[m6 (hr i hi) (by grind)];grind
  .rw[m6 (hr k (by omega)) (by rw[rr];grind)];grind
end Geo
namespace Geo
def dC(r:aH):Nat->Nat
 |0=>0
 |n+1=>if bf (nth r n) (nth r (dC r n))then n else dC r n
def dO(r:aH):Nat:=dC r r.length
def bo(r:aH):aH:=r.drop (dO r)++r.take (dO r)
def Db(r:aH)(n:Nat)(h:0<n):dC r n<n:=by
 induction n with
 |zero=>omega
 |succ n ih=>
  unfold dC;split
  .omega
  .rcases Nat.eq_zero_or_pos n with rfl|h0
   .simp[dC]
   omega
def sC(r:aH)(n i:Nat)(hi:i<n):leV (nth r (dC r n)) (nth r i):=by
 induction n with
 |zero=>omega
 |succ n ih=>
  unfold dC;split
  .rename_i h;have h:=(mE _ _).1 h;have h':leV (nth r n) (nth r (dC r n)):=(wu _ _).elim id (by grind);by_cases e:i=n
   .subst e;exact sO _
   .exact qf h' (ih (by omega))
  .rename_i h;have h:=(qW _ _).1 (by simpa using h);grind
def C4(r:aH)(n i:Nat)(hi:i<dC r n):bf (nth r (dC r n)) (nth r i)=true:=by
 induction n with
 |zero=>simp[dC]at hi
 |succ n ih=>
  unfold dC at hi|-;split
  .rename_i h;rw[if_pos h]at hi;rw[mE];have h1:=(mE _ _).1 h;intro h2;exact h1 (qf (sC r n i hi) h2)
  grind
def qY{r:aH}(h:0<r.length):dO r<r.length:=Db r _ h
def S4{r:aH}{k:Nat}(hk:k<r.length)(h1:∀i,i<r.length->leV (nth r k) (nth r i))(h2:∀i,i<k->nth r i≠nth r k):k=dO r:=by
 have a:=qY (r:=r) (by omega);have b:=sC r r.length k hk;have e:nth r k=nth r (dO r):=xF (h1 _ a) b;rcases yd k (dO r)with h|h|h
 .have:=C4 r r.length k h;rw[show dC r r.length=dO r from rfl,<-e,wJ]at this;cases this
 .exact h
 grind
def Dp(r:aH):(bo r).Perm r:=by refine vV.trans ?_;simp_all
def j4(r:aH):(bo r).length=r.length:=(Dp r).length_eq
def zw{r:aH}{i:Nat}(hi:i<r.length):nth (bo r) i=nth r ((i+dO r) % r.length):=by
 have hk:=qY (r:=r) (by omega);unfold bo nth;rw[du,du];by_cases h:i<r.length-dO r
 .rw[mb (by simp;omega),vX,jK (by omega)];grind
 .rw[kZ (by simp;omega),List.getElem?_take_of_lt (by simp;omega),pW (by omega) (by omega)];grind
def ri(r:aH)(s:S):s∈aJ (bo r)↔s∈aJ r:=by
 rw[mem_edges,mem_edges,j4];constructor
 .rintro⟨h2,i,hi,rfl⟩;refine⟨h2,(i+dO r) % r.length,bq _ (by omega),?_⟩;unfold bP nxt;rw[j4,zw hi,zw (bq _ (by omega)),kc,kc];grind
 .rintro⟨h2,i,hi,rfl⟩;have hk:=qY (r:=r) (by omega);refine⟨h2,(i+(r.length-dO r)) % r.length,bq _ (by omega),?_⟩;unfold bP nxt;rw[j4,zw (bq _ (by omega)),zw (bq _ (by omega)),kc,kc];have e1:(i+(r.length-dO r)+dO r) % r.length=i:=by rw[show i+(r.length-dO r)+dO r=i+r.length from by omega,pB,jK hi]
  have e2:(i+(r.length-dO r)+1+dO r) % r.length=(i+1) % r.length:=by rw[show i+(r.length-dO r)+1+dO r=i+1+r.length from by omega,pB]
  rw[e1,rS _ 1 (dO r),kc,<-rS _ 1 (dO r),e2]
def VR.touch{r:aH}(h:VR r){i k:Nat}(hi:i<r.length)(hk:k<r.length)(ho:onS (bP r k) (nth r i)=true):i=k\/i=(k+1) % r.length:=by
 have h3:=h.three;have hb:onS (bP r i) (nth r i)=true:=fQ (s:=bP r i) (jc h.near i hi);have hj:(i+r.length-1) % r.length<r.length:=bq _ (by omega);have hje:((i+r.length-1) % r.length+1) % r.length=i:=by rw[kc,show i+r.length-1+1=i+r.length from by omega,pB,jK hi]
 have hb2:onS (bP r ((i+r.length-1) % r.length)) (nth r i)=true:=by have:=jT (s:=bP r ((i+r.length-1) % r.length)) (jc h.near _ hj);unfold bP nxt at this;simp only[hje]at this;unfold bP nxt;rw[hje];exact this
 have meetsE:∀j,j<r.length->onS (bP r j) (nth r i)=true->(nth r i=nth r j\/nth r i=nxt r j)->j=k\/(j+1) % r.length=k\/(k+1) % r.length=j:=by
  intro j hj hoj hend;rcases yd j k with hlt|he|hgt
  .by_cases h1:k=j+1
   .right;left;rw[jK (by omega)];exact h1.symm
   .by_cases h2:j=0/\k=r.length-1
    .right;right;rw[h2.2,h2.1,show r.length-1+1=r.length from by omega,ju]
    .exfalso;have:=h.apart j k hlt hk h1 h2;exact zD (s:=bP r j) (t:=bP r k) (p:=nth r i) (by rcases hend with e|e<;>simp[bP,e]) ⟨hoj,ho⟩ this
  .exact .inl he
  .by_cases h1:j=k+1
   .right;right;rw[jK (by omega)];exact h1.symm
   .by_cases h2:k=0/\j=r.length-1
    .right;left;rw[h2.2,h2.1,show r.length-1+1=r.length from by omega,ju]
    .exfalso;have:=h.apart k j hgt hj h1 h2;exact zD (s:=bP r k) (t:=bP r j) (p:=nth r i) (by rcases hend with e|e<;>simp[bP,e]) ⟨ho,hoj⟩ this
 have c1:=meetsE i hi hb (.inl rfl);rcases c1 with e|e|e
 .exact .inl e
 ·
  have c2:=meetsE _ hj hb2 (.inr (by unfold nxt;rw[hje]));rcases c2 with e2|e2|e2
  .grind
  .omega
  ·
   exfalso;have hk1:(k+1) % r.length=(i+2) % r.length:=by rw[<-e,kc]
   apply h.turn' i hi;have:=((gX (jc h.near k hk)).1 ho).2;rw[LK];unfold Geo.turn;rw[oC];unfold bP nxt at this;grind
 omega
def VR.inj{r:aH}(h:VR r){i k:Nat}(hi:i<r.length)(hk:k<r.length)(he:nth r i=nth r k):i=k:=by
 have ho:onS (bP r k) (nth r i)=true:=by rw[he];exact fQ (s:=bP r k) (jc h.near k hk)
 rcases h.touch hi hk ho with e|e
 .exact e
 ·
  exfalso;have ht:=h.turn' k hk;apply ht;rw[<-e,he];unfold Geo.turn;rw[oC];simp[cross,sub]
def VR.nodup{r:aH}(h:VR r):r.Nodup:=by rw[pC,nU];intro i j hi hj hij e;have:=h.inj hi hj (by unfold nth;grind);omega
def VR.J9{r:aH}(h:VR r){v:V}(hv:v∈r){s:S}(hs:s∈aJ r)(ho:onS s v=true):v=s.a\/v=s.b:=by
 obtain⟨i,hi,rfl⟩:=fD.1 hv;obtain⟨_,k,hk,rfl⟩:=mem_edges.1 hs;rcases h.touch hi hk ho with e|e
 .left;rw[e];rfl
 .right;rw[e];rfl
def cT(s:Shape):List V:=(aD s).flatten
def aa(s:Shape):List S:=(aD s).flatMap aJ
def VS.ring{s:Shape}(h:VS s){r:aH}(hr:r∈aD s):VR r:=by
 rcases bT.1 hr with rfl|hr
 .exact h.outer
 .obtain⟨i,hi,rfl⟩:=pX hr;exact h.hole i hi
def VS.pair{s:Shape}(h:VS s):(aD s).Pairwise (λa b=>eE a b=true):=by
 unfold aD;rw[iB];refine⟨λr hr=> ?_,?_⟩
 .obtain⟨i,hi,rfl⟩:=pX hr;rw[rr];exact h.apo i hi
 .rw[nU];intro i k hi hk hik;have:=h.aph k i hik hk;unfold aC at this;rw[du,du,dp hi,dp hk]at this;rw[rr];exact this
def JY:∀(l:List aH),(∀r∈l,VR r)->l.Pairwise (λa b=>eE a b=true)->∀v∈l.flatten,∀e∈l.flatMap aJ,onS e v=true->v=e.a\/v=e.b
 |[],_,_,v,hv,_,_,_=>by simp at hv
 |r::l,hr,hp,v,hv,e,he,ho=>by
  rw[iB]at hp;rw[mc,bg]at hv;rw[fM,bg]at he;rcases hv with hv|hv<;>rcases he with he|he
  .exact(hr r (by simp)).J9 hv he ho
  .rw[cZ]at he;obtain⟨q,hq,he⟩:=he;exact(wH (hr r (by simp)) (hp.1 q hq) hv he ho).elim
  .rw[k9]at hv;obtain⟨q,hq,hv⟩:=hv;exact(wH (by grind) (by rw[rr];grind) hv he ho).elim
  .exact JY l (by grind) hp.2 v hv e he ho
def JZ:∀(l:List aH),(∀r∈l,VR r)->l.Pairwise (λa b=>eE a b=true)->l.flatten.Nodup
 |[],_,_=>by simp
 |r::l,hr,hp=>by
  rw[iB]at hp;rw[mc,nV];refine⟨(hr r (by simp)).nodup,JZ l (by grind) hp.2,?_⟩;rintro a ha b hb rfl;rw[k9]at hb;obtain⟨q,hq,hb⟩:=hb;have hvq:=hr q (by simp[hq]);obtain⟨i,hi,rfl⟩:=fD.1 hb;exact wH (hr r (by simp)) (hp.1 q hq) ha (mem_edges.2 ⟨by have:=hvq.three;omega,i,hi,rfl⟩) (fQ (s:=bP q i) (jc hvq.near i hi))
def VS.touch{s:Shape}(h:VS s){v:V}(hv:v∈cT s){e:S}(he:e∈aa s)(ho:onS e v=true):v=e.a\/v=e.b:=
 JY _ (λ_ hr=>h.ring hr) h.pair v hv e he ho
def VS.nodup{s:Shape}(h:VS s):(cT s).Nodup:=JZ _ (λ_ hr=>h.ring hr) h.pair
end Geo
namespace Geo
def kz:List aH->aH->List aH
 |[],h=>[h]
 |q::l,h=>if bf (nth q 0) (nth h 0)then q::kz l h else h::q::l
def p8(l:List aH):List aH:=l.foldl kz []
def c7(s:Shape):Shape:=⟨bo s.outer,p8 (s.holes.map bo)⟩
def Ki(l:List aH)(h:aH):(kz l h).Perm (h::l):=by
 induction l with
 |nil=>exact CU _
 |cons q l ih=>
  unfold kz;grind
def Sq(l acc:List aH):(l.foldl kz acc).Perm (acc++l):=by
 induction l generalizing acc with
 |nil=>simp
 |cons q l ih=>
  refine(ih _).trans ?_;refine((Ki acc q).append_right l).trans ?_;grind
def mB(l:List aH):(p8 l).Perm l:=by unfold p8;have:=Sq l [];grind
def leH(a b:aH):Prop:=leV (nth a 0) (nth b 0)
def UA(l:List aH)(h:aH)(hl:l.Pairwise leH):(kz l h).Pairwise leH:=by
 induction l with
 |nil=>simp[kz]
 |cons q l ih=>
  rw[iB]at hl;unfold kz;split
  .rename_i hq;rw[iB];refine⟨λx hx=> ?_,ih hl.2⟩;have hx:=(Ki l h).subset hx;rcases bT.1 hx with rfl|hx
   .exact(wu _ _).elim id (λe=>absurd e ((mE _ _).1 hq))
   grind
  .rename_i hq;have hq:=(qW _ _).1 (by simpa using hq);rw[iB,iB];refine⟨λx hx=> ?_,hl⟩;rcases bT.1 hx with rfl|hx
   .exact hq
   .exact qf hq (hl.1 x hx)
def Sl(l acc:List aH)(h:acc.Pairwise leH):(l.foldl kz acc).Pairwise leH:=by
 induction l generalizing acc with
 |nil=>exact h
 |cons q l ih=>exact ih _ (UA acc q h)
def TR(l:List aH):(p8 l).Pairwise leH:=Sl l [] tT
def y8:∀(l:List aH),l.flatten.Nodup->∀a∈l,∀b∈l,∀x,x∈a->x∈b->a=b
 |[],_,a,ha,_,_,_,_,_=>by cases ha
 |r::l,h,a,ha,b,hb,x,hxa,hxb=>by
  rw[mc,nV]at h;obtain⟨h1,h2,h3⟩:=h;rcases bT.1 ha with ea|ha'<;>rcases bT.1 hb with eb|hb'
  .rw[ea,eb]
  .rw[ea]at hxa;exact(h3 x hxa x (k9.2 ⟨_,hb',hxb⟩) rfl).elim
  .rw[eb]at hxb;exact(h3 x hxb x (k9.2 ⟨_,ha',hxa⟩) rfl).elim
  .exact y8 l h2 a ha' b hb' x hxa hxb
def Ib(l:List aH):((l.map bo).flatten).Perm l.flatten:=by
 induction l with
 |nil=>grind
 |cons r l ih=>
  exact(Dp r).append ih
def rq(s:Shape):(cT (c7 s)).Perm (cT s):=by unfold cT aD c7;refine(Dp _).append ?_;exact((mB _).flatten).trans (Ib _)
def y7(s:Shape)(e:S):e∈aa (c7 s)↔e∈aa s:=by
 unfold aa aD c7;simp only[fM,bg,cZ,ri];constructor
 .rintro(h|⟨r,hr,he⟩)
  .exact .inl h
  .have hr:=(mB _).subset hr;obtain⟨q,hq,rfl⟩:=bZ.1 hr;exact .inr ⟨q,hq,(ri q e).1 he⟩
 .rintro(h|⟨r,hr,he⟩)
  .exact .inl h
  .refine .inr ⟨bo r,(mB _).symm.subset (by grind),(ri r e).2 he⟩
def jj(p:Pt):List aH->Int->Int
 |[],w=>w
 |h::l,w=>if bj h p=2 then 0 else if bj h p=1 then 1 else jj p l w
def fB(s:Shape)(p:Pt):Int:=
 if !(ak s)then 0 else if bj s.outer p≠2 then bj s.outer p else jj p s.holes 2
def lZ(p:Pt):List aH->Int->Int
 |[],w=>w
 |h::l,w=>if dc h p=2 then 0 else if dc h p=1 then 1 else lZ p l w
def jR(s:Shape)(p:Pt):Int:=if !(aj s)then 0 else lZ p s.holes (dc s.outer p)
def YL(p:Pt)(l:List aH)(w:Int):jj p l w=lZ p l w:=by
 induction l with
 |nil=>rfl
 |cons h l ih=>unfold jj lZ;rw[Ec,ih]
def U8(p:Pt)(l:List aH)(w:Int):lZ p l w=2->w=2:=by
 induction l with
 |nil=>exact id
 |cons h l ih=>unfold lZ;omega
def UV(s:Shape)(p:Pt):(fB s p==2)=(jR s p==2):=by
 unfold fB jR;rw[ii,Ec];cases aj s with
 |false=>rfl
 |true=>
  simp only[yY,qM,if_false];by_cases h:dc s.outer p=2
  .rw[if_neg (by omega),h,YL]
  .rw[if_pos h,fm,beq_iff_eq,beq_iff_eq];exact⟨by grind,λe=>absurd (U8 _ _ _ e) h⟩
def ft(c:S):Pt:=
 if(c.a.x+c.b.x).tmod 2=0/\(c.a.y+c.b.y).tmod 2=0 then⟨(c.a.x+c.b.x).tdiv 2,(c.a.y+c.b.y).tdiv 2,1⟩else⟨c.a.x+c.b.x,c.a.y+c.b.y,2⟩
def iP(l:List V):Int:=(l.map V.x).sum
def iO(l:List V):Int:=(l.map V.y).sum
def qq(l:List V):Pt:=
 let g:Int:=bX (bX (iP l).natAbs (iO l).natAbs) l.length
 ⟨(iP l).tdiv g,(iO l).tdiv g,(l.length:Int).tdiv g⟩
def AO(x:Int)(k:Nat):x.tmod k=0↔k∣x.natAbs:=by rw[<-SI,Int.ofNat_dvd_left]
def Uu(a b:V):qq [a,b] =ft ⟨a,b⟩:=by
 unfold qq ft iP iO;simp only[dB,List.map_nil,CV,List.sum_nil,nW,gk,lv];generalize a.x+b.x=x;generalize a.y+b.y=y;have hd:bX (bX x.natAbs y.natAbs) 2∣2:=Hz _ _;have hle:=Nat.le_of_dvd (by omega) hd;have hpos:0<bX (bX x.natAbs y.natAbs) 2:=by grind
 by_cases h:x.tmod 2=0/\y.tmod 2=0
 .have e:bX (bX x.natAbs y.natAbs) 2=2:=Nat.gcd_eq_right (Nat.dvd_gcd (by grind) (by grind));grind
 .have e:bX (bX x.natAbs y.natAbs) 2=1:=by
   rcases nY (bX (bX x.natAbs y.natAbs) 2) 2 with h1|h1
   .omega
   .exfalso;have e2:bX (bX x.natAbs y.natAbs) 2=2:=by omega
    have d1:2∣bX x.natAbs y.natAbs:=by have:=H0 (bX x.natAbs y.natAbs) 2;rwa[e2]at this
    exact h ⟨(AO x 2).2 (H3 d1 (H0 _ _)),(AO y 2).2 (H3 d1 (Hz _ _))⟩
  simp_all
def pg(a b c:V):Pt:=
 if(a.x+b.x+c.x).tmod 3=0/\(a.y+b.y+c.y).tmod 3=0 then⟨(a.x+b.x+c.x).tdiv 3,(a.y+b.y+c.y).tdiv 3,1⟩else⟨a.x+b.x+c.x,a.y+b.y+c.y,3⟩
end Geo
namespace Geo
def uh(s t:S):Bool:=s.a==t.a||s.a==t.b||s.b==t.a||s.b==t.b
def cR(s t:S):Bool:=cC s t==0||(cC s t==1&&uh s t)
def gI(s:Shape)(c:S):Bool:=(aa s).all (λe=>cR e c)&&fB s (ft c)==2
def fU(d e:S):Bool:=
 if bh d e=2\/bh d e=3 then false
 else if bh d e=1 then(nth (dw d e) 0==d.a||nth (dw d e) 0==d.b)else true
def gq(s:Shape)(c:S):Bool:=(aa s).all (λe=>fU c e)&&(c.a !=c.b&&jR s (qq [c.a,c.b])==2)
def I6(s t:S):cC s t=0\/cC s t=1\/cC s t=2\/cC s t=3:=by unfold cC oS;grind
def zc{s t:S}(h:cC s t=1):(bJ s=true/\bJ t=true)/\∃z,z∈ends s t/\cB s t z/\(∀p,p∈ends s t->cB s t p->p=z)/\dw s t=[z] :=by
 rw[oL]at h;have hm:=DN s t;unfold bh at h;split at h
 .omega
 .split at h
  .omega
  .split at h
   .rename_i h1;match hc:dw s t,h1 with
    |[z],_=>
     grind
   omega
def Xw{s t:S}(h:cC s t=3):∃p q,p≠q/\p∈ends s t/\q∈ends s t/\cB s t p/\cB s t q:=by
 rw[oL]at h;have hm:=DN s t;have hs:=If ((ends s t).filter (λp=>onS s p&&onS t p));rw[show lP ((ends s t).filter (λp=>onS s p&&onS t p))=dw s t from rfl]at hs;unfold bh at h;split at h
 .omega
 .split at h
  .rename_i h1;match hc:dw s t,h1 with
   |z::y::r,_=>
    rw[hc]at hm hs;have hz:=(hm z).1 (by simp);have hy:=(hm y).1 (by simp);refine⟨z,y,?_,hz.1,hy.1,hz.2,hy.2⟩;rintro rfl;rw[iB]at hs;have:=hs.1 z (by simp);rw[wJ]at this;cases this
  omega
def j6(s t:S)(p:V):p∈ends s t↔p=s.a\/p=s.b\/p=t.a\/p=t.b:=by unfold ends;simp
def zT(s t:S):uh s t=true↔(s.a=t.a\/s.a=t.b\/s.b=t.a\/s.b=t.b):=by unfold uh;grind
def Ky{s:Shape}(h:VS s){c e:S}(ha:c.a∈cT s)(hb:c.b∈cT s)(he:e∈aa s):cR e c=fU c e:=by
 unfold cR fU;rw[mD e c,<-oL];rcases I6 c e with hk|hk|hk|hk
 .rw[hk];simp
 .rw[if_neg (by omega),if_pos hk,hk];obtain⟨⟨vc,ve⟩,z,hz,ho,hu,hcom⟩:=zc hk;rw[hcom];rw[fm];simp only[jv,beq_iff_eq,bw,zT];constructor
  .rintro(h1|⟨_,h1⟩)
   .omega
   .rcases h1 with h1|h1|h1|h1
    .left;exact(hu c.a (by rw[j6];simp) ⟨fQ vc,by rw[<-h1];exact fQ ve⟩).symm
    .right;exact(hu c.b (by rw[j6];simp) ⟨jT vc,by rw[<-h1];exact fQ ve⟩).symm
    .left;exact(hu c.a (by rw[j6];simp) ⟨fQ vc,by rw[<-h1];exact jT ve⟩).symm
    .right;exact(hu c.b (by rw[j6];simp) ⟨jT vc,by rw[<-h1];exact jT ve⟩).symm
  .rintro(h1|h1)
   .right;have:=h.touch ha he (by rw[<-h1];exact ho.2);grind
   .right;have:=h.touch hb he (by rw[<-h1];exact ho.2);grind
 .rw[hk];simp
 grind
def FF{s:Shape}(h:VS s){c:S}(ha:c.a∈cT s)(hb:c.b∈cT s)(hne:c.a≠c.b):gI s c=gq s c:=by
 unfold gI gq;rw[Uu,UV];have e1:((aa s).all λe=>cR e c)=((aa s).all λe=>fU c e):=by
  rw[fm,bk,bk];constructor
  .intro h1 e he;rw[<-Ky h ha hb he];exact h1 e he
  .intro h1 e he;rw[Ky h ha hb he];exact h1 e he
 rw[e1];have e2:(c.a !=c.b)=true:=by simpa using hne
 rw[e2,nT]
def DU{s:Shape}(h:VS s){c:S}(hc:gI s c=true){p:V}(hp:p∈cT s)(ho:onS c p=true):p=c.a\/p=c.b:=by
 unfold cT at hp;rw[k9]at hp;obtain⟨r,hr,hpr⟩:=hp;have hvr:=h.ring hr;obtain⟨i,hi,rfl⟩:=fD.1 hpr;have he:bP r i∈aa s:=cZ.2 ⟨r,hr,mem_edges.2 ⟨by have:=hvr.three;omega,i,hi,rfl⟩⟩;have ve:=jc hvr.near i hi;unfold gI at hc;rw[bw,bk]at hc;have ht:=hc.1 _ he;have hob:cB (bP r i) c (nth r i):=⟨fQ (s:=bP r i) ve,ho⟩;have hnz:=zD (s:=bP r i) (t:=c) (p:=nth r i) (by simp[bP]) hob;unfold cR at ht;simp only[jv,beq_iff_eq,bw,zT]at ht;rcases ht with ht|⟨ht,hsh⟩
 .omega
 .obtain⟨⟨_,vc⟩,z,_,_,hu,_⟩:=zc ht;have e1:=hu (nth r i) (by rw[j6];simp[bP]) hob;rw[e1];rcases hsh with h1|h1|h1|h1
  .left;exact(hu c.a (by rw[j6];simp) ⟨by rw[<-h1];exact fQ ve,fQ vc⟩).symm
  .right;exact(hu c.b (by rw[j6];simp) ⟨by rw[<-h1];exact fQ ve,jT vc⟩).symm
  .left;exact(hu c.a (by rw[j6];simp) ⟨by rw[<-h1];exact jT ve,fQ vc⟩).symm
  .right;exact(hu c.b (by rw[j6];simp) ⟨by rw[<-h1];exact jT ve,jT vc⟩).symm
def UP{s:Shape}(h:VS s){c d:S}(hc:gI s c=true)(hd:gI s d=true)(c1:c.a∈cT s)(c2:c.b∈cT s)(d1:d.a∈cT s)(d2:d.b∈cT s)
  (hne:¬((c.a=d.a/\c.b=d.b)\/(c.a=d.b/\c.b=d.a))):cR c d=(bh d c !=2):=by
 rw[<-oL,mD d c];unfold cR;have hends:∀p,p∈ends c d->cB c d p->(p=c.a\/p=c.b)/\(p=d.a\/p=d.b):=by
  intro p hp ho;have hpv:p∈cT s:=by rcases(j6 _ _ _).1 hp with rfl|rfl|rfl|rfl<;>assumption
  exact⟨DU h hc hpv ho.1,DU h hd hpv ho.2⟩
 rcases I6 c d with hk|hk|hk|hk
 .rw[hk];rfl
 .have:uh c d=true:=by obtain⟨_,z,hz,ho,_,_⟩:=zc hk;obtain⟨h1,h2⟩:=hends z hz ho;rw[zT];grind
  grind
 .rw[hk];rfl
 .obtain⟨p,q,hpq,hp,hq,op,oq⟩:=Xw hk;grind
end Geo
namespace Geo
def cX(v:List V)(p:Nat×Nat):S:=⟨nth v p.1,nth v p.2⟩
def pw(s:Shape)(v:List V)(acc:List (Nat×Nat))(i k:Nat):List (Nat×Nat):=
 if !(acc.any λd=> !(cR ⟨nth v i,nth v k⟩ (cX v d)))&&gI s ⟨nth v i,nth v k⟩then acc++[(i,k)]else acc
def rowP(s:Shape)(v:List V)(acc:List (Nat×Nat))(i:Nat):Nat->List (Nat×Nat)
 |0=>acc
 |m+1=>pw s v (rowP s v acc i m) i (i+1+m)
def eY(s:Shape)(v:List V):Nat->List (Nat×Nat)
 |0=>[]
 |i+1=>rowP s v (eY s v i) i (v.length-(i+1))
def dP(s:Shape)(v:List V):List (Nat×Nat):=eY s v v.length
def oV(s:Shape)(v:List V)(acc:List S)(i k:Nat):List S:=
 if gq s ⟨nth v i,nth v k⟩&&(acc.all λd=>bh d ⟨nth v i,nth v k⟩ !=2)then acc++[⟨nth v i,nth v k⟩]else acc
def qJ(s:Shape)(v:List V)(acc:List S)(i:Nat):Nat->List S
 |0=>acc
 |m+1=>oV s v (qJ s v acc i m) i (i+1+m)
def gp(s:Shape)(v:List V):Nat->List S
 |0=>[]
 |i+1=>qJ s v (gp s v i) i (v.length-(i+1))
def nM(s:Shape)(v:List V):List S:=gp s v v.length
def dh{v:List V}{i:Nat}(h:i<v.length):nth v i∈v:=fD.2 ⟨i,h,rfl⟩
def mI{v:List V}(hn:v.Nodup){i k:Nat}(hi:i<v.length)(hk:k<v.length)(e:nth v i=nth v k):i=k:=by unfold nth at e;rw[du,du,dp hi,dp hk]at e;rw[pC,nU]at hn;grind
structure Found(s:Shape)(v:List V)(acc:List (Nat×Nat))(i k:Nat):Prop where
 lt:∀p∈acc,p.1<p.2/\p.2<v.length
 ahead:∀p∈acc,p.1<i\/(p.1=i/\p.2<k)
 chord:∀p∈acc,gI s (cX v p)=true
 apart:acc.Pairwise λp q=>bh (cX v p) (cX v q)≠2
def VT{s:Shape}(h:VS s){v:List V}(hv:∀x∈v,x∈cT s)(hn:v.Nodup){acc:List (Nat×Nat)}{i k:Nat}(hF:Found s v acc i k)(hik:i<k)(hk:k<v.length)(hc:gI s ⟨nth v i,nth v k⟩=true):
  (!(acc.any λd=> !(cR ⟨nth v i,nth v k⟩ (cX v d))))=((acc.map (cX v)).all λd=>bh d ⟨nth v i,nth v k⟩ !=2):=by
 have key:∀d∈acc,cR ⟨nth v i,nth v k⟩ (cX v d)=(bh (cX v d) ⟨nth v i,nth v k⟩ !=2):=by
  intro d hd;obtain⟨h1,h2⟩:=hF.lt d hd;refine UP h hc (hF.chord d hd) (hv _ (dh (by omega))) (hv _ (dh hk)) (hv _ (dh (by omega))) (hv _ (dh (by omega))) ?_;rintro(⟨e1,e2⟩|⟨e1,e2⟩)
  .have a1:=mI hn (by omega) (by omega) e1;have a2:=mI hn (by omega) (by omega) e2;rcases hF.ahead d hd with h3|h3<;>omega
  .have a1:=mI hn (by omega) (by omega) e1;have a2:=mI hn (by omega) (by omega) e2;omega
 grind
def Y6{s:Shape}(h:VS s){v:List V}(hv:∀x∈v,x∈cT s)(hn:v.Nodup){acc:List (Nat×Nat)}{i k:Nat}(hF:Found s v acc i k)(hik:i<k)(hk:k<v.length):
  (pw s v acc i k).map (cX v)=oV s v (acc.map (cX v)) i k/\Found s v (pw s v acc i k) i (k+1):=by
 have hne:nth v i≠nth v k:=λe=>by have:=mI hn (by omega) hk e;omega
 have hce:=FF h (c:=⟨nth v i,nth v k⟩) (hv _ (dh (by omega))) (hv _ (dh hk)) hne;unfold pw oV;cases hc:gI s ⟨nth v i,nth v k⟩with
 |false=>
  rw[hc]at hce;rw[<-hce];simp only[Bool.and_false,Bool.false_and,qM,if_false];exact⟨by trivial,hF.lt,λp hp=>by have:=hF.ahead p hp;omega,hF.chord,hF.apart⟩
 |true=>
  rw[hc]at hce;rw[<-hce,VT h hv hn hF hik hk hc,H4,nT];by_cases hx:((acc.map (cX v)).all λd=>bh d ⟨nth v i,nth v k⟩ !=2)=true
  .rw[if_pos hx,if_pos hx];refine⟨by rw[dM];rfl,?_,?_,?_,?_⟩
   .intro p hp;rcases bg.1 hp with hp|hp
    .exact hF.lt p hp
    grind
   .intro p hp;rcases bg.1 hp with hp|hp
    .have:=hF.ahead p hp;omega
    grind
   .intro p hp;rcases bg.1 hp with hp|hp
    .exact hF.chord p hp
    .obtain rfl:=bi.1 hp;exact hc
   .rw[SJ];refine⟨hF.apart,by grind,?_⟩;intro p hp q hq;obtain rfl:=bi.1 hq;rw[List.all_map,bk]at hx;have:=hx p hp;simp only[CW,bne_iff_ne]at this;exact this
  .rw[if_neg hx,if_neg hx];exact⟨rfl,hF.lt,λp hp=>by have:=hF.ahead p hp;omega,hF.chord,hF.apart⟩
def aAC{s:Shape}(h:VS s){v:List V}(hv:∀x∈v,x∈cT s)(hn:v.Nodup){acc:List (Nat×Nat)}{i:Nat}(hF:Found s v acc i (i+1))(m:Nat)(hm:i+1+m<=v.length):
  (rowP s v acc i m).map (cX v)=qJ s v (acc.map (cX v)) i m/\Found s v (rowP s v acc i m) i (i+1+m):=by
 induction m with
 |zero=>exact⟨rfl,hF⟩
 |succ m ih=>
  obtain⟨h1,h2⟩:=ih (by omega);unfold rowP qJ;rw[<-h1];exact Y6 h hv hn h2 (by omega) (by omega)
def aA9{s:Shape}(h:VS s){v:List V}(hv:∀x∈v,x∈cT s)(hn:v.Nodup)(i:Nat)(hi:i<=v.length):
  (eY s v i).map (cX v)=gp s v i/\Found s v (eY s v i) i (i+1):=by
 induction i with
 |zero=>exact⟨rfl,⟨by simp[eY],by simp[eY],by simp[eY],by simp[eY]⟩⟩
 |succ i ih=>
  obtain⟨h1,h2⟩:=ih (by omega);unfold eY gp;rw[<-h1];obtain⟨h3,h4⟩:=aAC h hv hn h2 (v.length-(i+1)) (by omega);exact⟨h3,h4.lt,λp hp=>by have:=h4.ahead p hp;omega,h4.chord,h4.apart⟩
def Fy{s:Shape}(h:VS s){v:List V}(hv:∀x∈v,x∈cT s)(hn:v.Nodup):(dP s v).map (cX v)=nM s v/\Found s v (dP s v) v.length (v.length+1):=
 aA9 h hv hn _ (Nat.le_refl _)
end Geo
namespace Geo
abbrev Tab:=Nat->Nat->Bool
end Geo
namespace Geo
def cL:aH->aH->Int
 |[],[] =>0
 |[],_::_=> -1
 |_::_,[] =>1
 |a::l,b::m=>if bn a b≠0 then bn a b else cL l m
def K3(x y:Int):fF x y= -fF y x:=by unfold fF;grind
def Wv(p q:V):bn p q= -bn q p:=by unfold bn;rw[K3 p.y,K3 p.x];grind
def qV:∀(l m:aH),cL l m= -cL m l
 |[],[] =>rfl
 |[],_::_=>rfl
 |_::_,[] =>rfl
 |a::l,b::m=>by
  unfold cL;have:=Wv a b;by_cases h:bn a b=0
  .rw[if_neg (by omega),if_neg (by omega)];exact qV l m
  omega
def zF:∀(l m:aH),cL l m=0->l=m
 |[],[],_=>rfl
 |[],_::_,h=>by unfold cL at h;omega
 |_::_,[],h=>by unfold cL at h;omega
 |a::l,b::m,h=>by
  unfold cL at h;by_cases h0:bn a b=0
  .rw[if_neg (by omega)]at h;rw[(wv a b).1 h0,zF l m h]
  omega
def Ta(l:aH):cL l l=0:=by have:=qV l l;omega
def VU{p q r:V}(h1:bn p q<0)(h2:bn q r<0):bn p r<0:=by rw[xY]at*;exact tj h1 h2
def C6:∀(l m n:aH),cL l m<0->cL m n<0->cL l n<0
 |[],[],_,h,_=>by omega
 |[],_::_,[],_,h=>by unfold cL at h;omega
 |[],_::_,_::_,_,_=>by unfold cL;omega
 |_::_,[],_,h,_=>by unfold cL at h;omega
 |_::_,_::_,[],_,h=>by unfold cL at h;omega
 |a::l,b::m,c::n,h1,h2=>by
  unfold cL at*;by_cases e1:bn a b=0
  .rw[if_neg (by omega)]at h1;have:=(wv a b).1 e1;subst this;by_cases e2:bn a c=0
   .rw[if_neg (by omega)]at h2|-;exact C6 l m n h1 h2
   omega
  .rw[if_pos e1]at h1;by_cases e2:bn b c=0
   .have:=(wv b c).1 e2;grind
   .rw[if_pos e2]at h2;have:=VU h1 h2;omega
def jS(a b:aH):Prop:=cL a b<=0
def T5{a b:aH}(h1:jS a b)(h2:jS b a):a=b:=by unfold jS at*;apply zF;have:=qV a b;omega
def Is{a b c:aH}(h1:jS a b)(h2:jS b c):jS a c:=by
 unfold jS at*;by_cases e1:cL a b=0
 .rw[zF _ _ e1];exact h2
 .by_cases e2:cL b c=0
  .rw[<-zF _ _ e2];exact h1
  .have:=C6 a b c (by omega) (by omega);omega
def fw:List aH->aH->List aH
 |[],r=>[r]
 |q::l,r=>if cL q r<0 then q::fw l r else r::q::l
def AF(l:List aH)(r:aH):(fw l r).Perm (r::l):=by
 induction l with
 |nil=>exact CU _
 |cons q l ih=>
  unfold fw;grind
def T9(l:List aH)(r:aH)(hl:l.Pairwise jS):(fw l r).Pairwise jS:=by
 induction l with
 |nil=>simp[fw]
 |cons q l ih=>
  rw[iB]at hl;unfold fw;split
  .rw[iB];refine⟨λx hx=> ?_,ih hl.2⟩;have hx:=(AF l r).subset hx;rcases bT.1 hx with rfl|hx
   .unfold jS;omega
   grind
  .have hq':jS r q:=by unfold jS;have:=qV r q;omega
   rw[iB,iB];refine⟨λx hx=> ?_,hl⟩;rcases bT.1 hx with rfl|hx
   .exact hq'
   .exact Is hq' (hl.1 x hx)
def Sp(l acc:List aH):(l.foldl fw acc).Perm (acc++l):=by
 induction l generalizing acc with
 |nil=>simp
 |cons q l ih=>
  refine(ih _).trans ?_;refine((AF acc q).append_right l).trans ?_;grind
def Ia(l acc:List aH)(h:acc.Pairwise jS):(l.foldl fw acc).Pairwise jS:=by
 induction l generalizing acc with
 |nil=>exact h
 |cons q l ih=>exact ih _ (T9 acc q h)
def kq(l:List aH):List aH:=l.foldl fw []
def zS(l:List aH):(kq l).Perm l:=by unfold kq;have:=Sp l [];grind
def Io{l m:List aH}(hp:m.Perm l)(hs:m.Pairwise jS):m=kq l:=
 List.Perm.eq_of_pairwise (λ_ _ _ _ h1 h2=>T5 h1 h2) hs (Ia l [] tT) (hp.trans (zS l).symm)
def dd(r:aH):aH:=if co r then bo r else []
def P9(a b c:V):aH:=if turn a b c<0 then dd [a,c,b]else dd [a,b,c]
def O8(s:Shape)(v:List V)(i j k:Nat):Bool:=
 turn (nth v i) (nth v j) (nth v k) !=0&&
 ((bQ v.length).all λn=> !(n !=i&&n !=j&&n !=k&&dN (P9 (nth v i) (nth v j) (nth v k)) (nth v n) !=0))&&
 fB s (pg (nth v i) (nth v j) (nth v k))==2
end Geo
namespace Geo
structure P3 where
 x:Int
 y:Int
 d:Int
def ev(h p:P3):Int:=h.x*p.x+h.y*p.y+h.d*p.d
def cmb(m:Int)(p:P3)(n:Int)(q:P3):P3:=⟨m*p.x+n*q.x,m*p.y+n*q.y,m*p.d+n*q.d⟩
def ao(h p q:P3)(m n:Int):ev h (cmb m p n q)=m*ev h p+n*ev h q:=by unfold ev cmb;grind
def Sat(L:List P3):Prop:=∃p:P3,0<p.d/\∀h∈L,0<ev h p
def Hd(u v:Int):∃a b:Int,(a≠0\/b≠0)/\a*u+b*v=0:=by
 by_cases h:u=0
 .exact⟨1,0,.inl (by omega),by omega⟩
 .exact⟨v,-u,.inr (by omega),by grind⟩
def aBK(x1 y1 x2 y2 x3 y3:Int):∃a b c:Int,(a≠0\/b≠0\/c≠0)/\a*x1+b*x2+c*x3=0/\a*y1+b*y2+c*y3=0:=by
 by_cases h3:x3=0
 .by_cases h2:x2=0
  .obtain⟨b,c,hne,hy⟩:=Hd y2 y3;exact⟨0,b,c,by omega,by grind,by omega⟩
  .obtain⟨a,c,hne,hy⟩:=Hd (x2*y1-x1*y2) (x2*y3-x3*y2);refine⟨a*x2,-(a*x1+c*x3),c*x2,?_,by grind,by grind⟩;rcases hne with h|h
   .simp_all
   simp_all
 .obtain⟨a,b,hne,hy⟩:=Hd (x3*y1-x1*y3) (x3*y2-x2*y3);refine⟨a*x3,b*x3,-(a*x1+b*x2),?_,by grind,by grind⟩;rcases hne with h|h
  .simp_all
  simp_all
def aBJ(p q r s:P3)(hs:0<s.d):∃a b c e:Int,(a≠0\/b≠0\/c≠0\/e≠0)/\a*p.x+b*q.x+c*r.x+e*s.x=0/\a*p.y+b*q.y+c*r.y+e*s.y=0/\a*p.d+b*q.d+c*r.d+e*s.d=0:=by
 obtain⟨a,b,c,hne,hx,hy⟩:=aBK (s.d*p.x-p.d*s.x) (s.d*p.y-p.d*s.y) (s.d*q.x-q.d*s.x) (s.d*q.y-q.d*s.y) (s.d*r.x-r.d*s.x) (s.d*r.y-r.d*s.y);have hd:s.d≠0:=by omega
 refine⟨a*s.d,b*s.d,c*s.d,-(a*p.d+b*q.d+c*r.d),?_,by grind,by grind,by grind⟩;rcases hne with h|h|h
 .simp_all
 .simp_all
 simp_all
def pos(n:Int):Int:=if 0<n then n else 0
def mix(a b c e:Int)(p q r s:P3):P3:=⟨a*p.x+b*q.x+c*r.x+e*s.x,a*p.y+b*q.y+c*r.y+e*s.y,a*p.d+b*q.d+c*r.d+e*s.d⟩
def m9(h p q r s:P3)(a b c e:Int):ev h (mix a b c e p q r s)=a*ev h p+b*ev h q+c*ev h r+e*ev h s:=by unfold ev mix;grind
def vA(p q r s:P3)(a b c e:Int):(mix a b c e p q r s).d=a*p.d+b*q.d+c*r.d+e*s.d:=rfl
def mH{a b c e u v x y:Int}(ha:0<=a)(hb:0<=b)(hc:0<=c)(he:0<=e)(hne:a≠0\/b≠0\/c≠0\/e≠0)(h1:a≠0->0<u)(h2:b≠0->0<v)(h3:c≠0->0<x)(h4:e≠0->0<y):0<a*u+b*v+c*x+e*y:=by
 have t:∀{m z:Int},0<=m->(m≠0->0<z)->0<=m*z/\(m≠0->0<m*z):=by
  intro m z hm hz;by_cases h:m=0
  .grind
  .have:=bV (show 0<m by omega) (hz h);omega
 have:=t ha h1;have:=t hb h2;have:=t hc h3;have:=t he h4;omega
def aBc{h1 h2 h3 h4:P3}{R:List P3}(s1:Sat (h2::h3::h4::R))(s2:Sat (h1::h3::h4::R))(s3:Sat (h1::h2::h4::R))(s4:Sat (h1::h2::h3::R)):Sat (h1::h2::h3::h4::R):=by
 obtain⟨p,hp,fp⟩:=s1;obtain⟨q,hq,fq⟩:=s2;obtain⟨r,hr,fr⟩:=s3;obtain⟨s,hs,fs⟩:=s4;obtain⟨a,b,c,e,hne,hx,hy,hd⟩:=aBJ p q r s hs;simp only[bT,forall_eq_or_imp]at fp fq fr fs;obtain⟨p2,p3,p4,pR⟩:=fp;obtain⟨q1,q3,q4,qR⟩:=fq;obtain⟨r1,r2,r4,rR⟩:=fr;obtain⟨s1,s2,s3,sR⟩:=fs;have pn:∀n:Int,pos n-pos (-n)=n:=by intro n;unfold pos;split<;>split<;>omega
 have p0:∀n:Int,0<=pos n:=by intro n;unfold pos;split<;>omega
 have pz:∀n:Int,pos n≠0->pos (-n)=0:=by intro n;unfold pos;split<;>split<;>omega
 have key:∀h:P3,ev h (mix (pos a) (pos b) (pos c) (pos e) p q r s)=ev h (mix (pos (-a)) (pos (-b)) (pos (-c)) (pos (-e)) p q r s):=by
  intro h;have hz:a*ev h p+b*ev h q+c*ev h r+e*ev h s=0:=by unfold ev;grind
  rw[m9,m9];have ea:=pn a;have eb:=pn b;have ec:=pn c;have ee:=pn e;grind
 have kd:(mix (pos a) (pos b) (pos c) (pos e) p q r s).d=(mix (pos (-a)) (pos (-b)) (pos (-c)) (pos (-e)) p q r s).d:=by rw[vA,vA];have ea:=pn a;have eb:=pn b;have ec:=pn c;have ee:=pn e;grind
 have dne:pos a≠0\/pos b≠0\/pos c≠0\/pos e≠0:=by
  apply fH;intro hno;simp only[not_or,SL]at hno;obtain⟨z1,z2,z3,z4⟩:=hno;have:0<pos (-a)*p.d+pos (-b)*q.d+pos (-c)*r.d+pos (-e)*s.d:=by refine mH (p0 _) (p0 _) (p0 _) (p0 _) ?_ (λ_=>hp) (λ_=>hq) (λ_=>hr) (λ_=>hs);have ea:=pn a;have eb:=pn b;have ec:=pn c;have ee:=pn e;omega
  rw[vA,vA,z1,z2,z3,z4]at kd;omega
 have dne':pos (-a)≠0\/pos (-b)≠0\/pos (-c)≠0\/pos (-e)≠0:=by apply fH;intro hno;simp only[not_or,SL]at hno;obtain⟨z1,z2,z3,z4⟩:=hno;have:0<pos a*p.d+pos b*q.d+pos c*r.d+pos e*s.d:=mH (p0 _) (p0 _) (p0 _) (p0 _) dne (λ_=>hp) (λ_=>hq) (λ_=>hr) (λ_=>hs);rw[vA,vA,z1,z2,z3,z4]at kd;omega
 refine⟨mix (pos a) (pos b) (pos c) (pos e) p q r s,?_,?_⟩
 .exact mH (p0 _) (p0 _) (p0 _) (p0 _) dne (λ_=>hp) (λ_=>hq) (λ_=>hr) (λ_=>hs)
 .intro h hm;simp only[bT]at hm;rcases hm with rfl|rfl|rfl|rfl|hm
  .by_cases z:pos a=0
   .rw[m9];exact mH (p0 _) (p0 _) (p0 _) (p0 _) dne (by grind) (λ_=>q1) (λ_=>r1) (λ_=>s1)
   .rw[key,m9];exact mH (p0 _) (p0 _) (p0 _) (p0 _) dne' (by grind) (λ_=>q1) (λ_=>r1) (λ_=>s1)
  .by_cases z:pos b=0
   .rw[m9];exact mH (p0 _) (p0 _) (p0 _) (p0 _) dne (λ_=>p2) (by grind) (λ_=>r2) (λ_=>s2)
   .rw[key,m9];exact mH (p0 _) (p0 _) (p0 _) (p0 _) dne' (λ_=>p2) (by grind) (λ_=>r2) (λ_=>s2)
  .by_cases z:pos c=0
   .rw[m9];exact mH (p0 _) (p0 _) (p0 _) (p0 _) dne (λ_=>p3) (λ_=>q3) (by grind) (λ_=>s3)
   .rw[key,m9];exact mH (p0 _) (p0 _) (p0 _) (p0 _) dne' (λ_=>p3) (λ_=>q3) (by grind) (λ_=>s3)
  .by_cases z:pos e=0
   .rw[m9];exact mH (p0 _) (p0 _) (p0 _) (p0 _) dne (λ_=>p4) (λ_=>q4) (λ_=>r4) (by grind)
   .rw[key,m9];exact mH (p0 _) (p0 _) (p0 _) (p0 _) dne' (λ_=>p4) (λ_=>q4) (λ_=>r4) (by grind)
  .rw[m9];exact mH (p0 _) (p0 _) (p0 _) (p0 _) dne (by grind) (by grind) (by grind) (by grind)
def Sat.sub{L M:List P3}(h:Sat L)(hs:∀x∈M,x∈L):Sat M:=by obtain⟨p,hp,f⟩:=h;exact⟨p,hp,by grind⟩
def aBm:∀(n:Nat) (L:List P3),L.length=n->(∀a∈L,∀b∈L,∀c∈L,Sat [a,b,c])->Sat L:=by
 intro n;induction n using Nat.strongRecOn with
 |ind n ih=>
  intro L hn h;match L,hn with
  |[],_=>exact⟨⟨0,0,1⟩,by decide,by grind⟩
  |[a],_=>exact(h a (by simp) a (by simp) a (by simp)).sub (by simp)
  |[a,b],_=>exact(h a (by simp) b (by simp) a (by simp)).sub (by simp)
  |[a,b,c],_=>simp_all
  |a::b::c::e::R,hn=>
   have g:∀M:List P3,(∀x∈M,x∈a::b::c::e::R)->M.length<n->Sat M:=by grind
   simp only[gk]at hn;refine aBc (g _ ?_ ?_) (g _ ?_ ?_) (g _ ?_ ?_) (g _ ?_ ?_);all_goals first
    |(simp only[gk];omega)
    |(intro x hx;simp only[bT]at hx|-;grind)
end Geo
namespace Geo
def lin(u v:V):P3:=⟨-(v.y-u.y),v.x-u.x,(v.y-u.y)*u.x-(v.x-u.x)*u.y⟩
def pt(v:V):P3:=⟨v.x,v.y,1⟩
def fP(u v w:V):ev (lin u v) (pt w)=cross (sub v u) (sub w u):=by unfold ev lin pt cross sub;grind
def cK(u v:V):ev (lin u v) (pt u)=0:=by unfold ev lin pt;grind
def ci(u v:V):ev (lin u v) (pt v)=0:=by unfold ev lin pt;grind
def Dh{n1 d1 n2 d2 n3 d3:Int}(h1:0<d1)(h2:0<d2)(h3:0<d3)(a:n1*d2<=n2*d1)(b:n2*d3<n3*d2):n1*d3<n3*d1:=by
 have e1:=lz a (show 0<=d3 by omega);have e2:=Int.mul_lt_mul_of_pos_right b h1;have:(n1*d3)*d2<(n3*d1)*d2:=by grind
 simp_all
def Dg{n1 d1 n2 d2 n3 d3:Int}(h1:0<d1)(h2:0<d2)(h3:0<d3)(a:n1*d2<n2*d1)(b:n2*d3<=n3*d2):n1*d3<n3*d1:=by
 have e1:=Int.mul_lt_mul_of_pos_right a h3;have e2:=lz b (show 0<=d1 by omega);have:(n1*d3)*d2<(n3*d1)*d2:=by grind
 simp_all
def j8:List (Int×Int)->Int->Int->Int->Int->Bool
 |[],ln,ld,hn,hd=>decide (ln*hd<hn*ld)
 |(a,b)::l,ln,ld,hn,hd=>
  if a<=0/\b<=0 then false
  else if a<0 then(if ln*(b-a)< -a*ld then j8 l (-a) (b-a) hn hd else j8 l ln ld hn hd)
  else if b<0 then(if a*hd<hn*(a-b)then j8 l ln ld a (a-b)else j8 l ln ld hn hd)
  else j8 l ln ld hn hd
def sD:∀(l:List (Int×Int)) (ln ld hn hd:Int),0<=ln->0<ld->0<hd->hn<=hd->
  (j8 l ln ld hn hd=true↔∃x y:Int,0<x/\0<y/\(∀p∈l,0<p.1*x+p.2*y)/\ln*(x+y)<y*ld/\y*hd<hn*(x+y))
 |[],ln,ld,hn,hd,h1,h2,h3,h4=>by
  simp only[j8,decide_eq_true_eq,cn,false_imp_iff,implies_true,true_and];constructor
  .intro h;have hn0:0<hn:=by
    rcases br 0 hn with h5|h5
    .exact h5
    .have:=cV h1 (show 0<=hd by omega);have:=cV (show 0<= -hn by omega) (show 0<=ld by omega);grind
   have hl:ln<ld:=by
    rcases br ln ld with h5|h5
    .exact h5
    .have e1:=lz h5 (show 0<=hd by omega);have e2:=lz h4 (show 0<=ld by omega);grind
   refine⟨(ld-ln)+(hd-hn),ln+hn,by omega,by omega,?_,?_⟩
   .grind
   grind
  .rintro⟨x,y,hx,hy,a,b⟩;have a':ln*(x+y)<=y*ld:=by omega
   exact Dh (n2:=y) (d2:=x+y) h2 (by omega) h3 a' b
 |(a,b)::l,ln,ld,hn,hd,h1,h2,h3,h4=>by
  have e1:∀x y:Int,(∀p∈(a,b)::l,0<p.1*x+p.2*y)↔(0<a*x+b*y/\∀p∈l,0<p.1*x+p.2*y):=by intro x y;simp
  simp only[e1];unfold j8;by_cases c1:a<=0/\b<=0
  .constructor
   .grind
   .rintro⟨x,y,hx,hy,⟨h5,_⟩,_⟩;have:=cV (show 0<= -a by omega) (show 0<=x by omega);have:=cV (show 0<= -b by omega) (show 0<=y by omega);grind
  .rw[if_neg c1];by_cases c2:a<0
   .have hba:0<b-a:=by omega
    have e2:∀x y:Int,0<a*x+b*y↔ -a*(x+y)<y*(b-a):=by intro x y;constructor<;>intro h<;>grind
    rw[if_pos c2];by_cases c3:ln*(b-a)< -a*ld
    .rw[if_pos c3,sD l (-a) (b-a) hn hd (by omega) hba h3 h4];constructor
     .rintro⟨x,y,hx,hy,h5,h6,h7⟩;exact⟨x,y,hx,hy,by grind,Dh (n2:= -a) (d2:=b-a) h2 hba (by omega) (by omega) h6,h7⟩
     .rintro⟨x,y,hx,hy,⟨h5,h6⟩,h7,h8⟩;exact⟨x,y,hx,hy,h6,(e2 x y).1 h5,h8⟩
    .rw[if_neg c3,sD l ln ld hn hd h1 h2 h3 h4];constructor
     .rintro⟨x,y,hx,hy,h5,h6,h7⟩;exact⟨x,y,hx,hy,⟨(e2 x y).2 (Dh (n2:=ln) (d2:=ld) hba h2 (by omega) (by omega) h6),h5⟩,h6,h7⟩
     .rintro⟨x,y,hx,hy,⟨h5,h6⟩,h7,h8⟩;exact⟨x,y,hx,hy,h6,h7,h8⟩
   .rw[if_neg c2];by_cases c4:b<0
    .have hab:0<a-b:=by omega
     have e2:∀x y:Int,0<a*x+b*y↔y*(a-b)<a*(x+y):=by intro x y;constructor<;>intro h<;>grind
     rw[if_pos c4];by_cases c3:a*hd<hn*(a-b)
     .rw[if_pos c3,sD l ln ld a (a-b) h1 h2 hab (by omega)];constructor
      .rintro⟨x,y,hx,hy,h5,h6,h7⟩;exact⟨x,y,hx,hy,by grind,h6,Dg (n2:=a) (d2:=a-b) (by omega) hab h3 h7 (by omega)⟩
      .rintro⟨x,y,hx,hy,⟨h5,h6⟩,h7,h8⟩;exact⟨x,y,hx,hy,h6,h7,(e2 x y).1 h5⟩
     .rw[if_neg c3,sD l ln ld hn hd h1 h2 h3 h4];constructor
      .rintro⟨x,y,hx,hy,h5,h6,h7⟩;exact⟨x,y,hx,hy,⟨(e2 x y).2 (Dg (n2:=hn) (d2:=hd) (by omega) h3 hab h7 (by omega)),h5⟩,h6,h7⟩
      .rintro⟨x,y,hx,hy,⟨h5,h6⟩,h7,h8⟩;exact⟨x,y,hx,hy,h6,h7,h8⟩
    .rw[if_neg c4,sD l ln ld hn hd h1 h2 h3 h4];constructor
     .rintro⟨x,y,hx,hy,h5,h6,h7⟩;refine⟨x,y,hx,hy,⟨?_,h5⟩,h6,h7⟩;have g1:=cV (show 0<=a by omega) (show 0<=x by omega);have g2:=cV (show 0<=b by omega) (show 0<=y by omega);rcases br 0 a with h|h
      .have:=bV h hx;omega
      .have:=bV (show 0<b by omega) hy;omega
     .rintro⟨x,y,hx,hy,⟨h5,h6⟩,h7,h8⟩;exact⟨x,y,hx,hy,h6,h7,h8⟩
structure Poly(F:List P3)(Vs:List V)(Es:List S)(c:P3):Prop where
 nonneg:∀f∈F,∀v∈Vs,0<=ev f (pt v)
 cd:0<c.d
 cin:∀f∈F,0<ev f c
 ends:∀s∈Es,s.a∈Vs/\s.b∈Vs
 side:∀q:P3,0<q.d->(∃f∈F,ev f q=0)->(∀f∈F,0<=ev f q)->∃s∈Es,∃x y k:Int,0<=x/\0<=y/\0<k/\∀h:P3,k*ev h q=x*ev h (pt s.a)+y*ev h (pt s.b)
 hull:∀q:P3,(∀f∈F,0<ev f q)->∀h:P3,(∀v∈Vs,ev h (pt v)<=0)->ev h q<=0
def big(q c:P3):∀(G:List P3),(∀g∈G,0<ev g q)->∃N:Int,1<=N/\∀g∈G,0<N*ev g q+ev g c
 |[],_=>⟨1,by decide,by grind⟩
 |g::G,h=>by
  obtain⟨N,h1,h2⟩:=big q c G (by grind);have hg:=h g cI;refine⟨N+(ev g c).natAbs,by omega,?_⟩;intro f hf;rcases bT.1 hf with rfl|hf
  .have:(N+(ev f c).natAbs)*1<=(N+(ev f c).natAbs)*ev f q:=dg (by omega) (by omega);omega
  .have h3:=h f (cE _ hf);have:=cV (show 0<=((ev g c).natAbs:Int) by omega) (show 0<=ev f q by omega);grind
def uI{F:List P3}{Vs:List V}{Es:List S}{c:P3}(A:Poly F Vs Es c){g:P3}(h:∃v∈Vs,0<ev g (pt v)):Sat (g::F):=by
 obtain⟨v,hv,hg⟩:=h;obtain⟨N,h1,h2⟩:=big (pt v) c [g] (by grind);refine⟨cmb N (pt v) 1 c,?_,?_⟩
 .have:=A.cd;simp only[cmb,pt];omega
 .intro f hf;rw[ao];rcases bT.1 hf with rfl|hf
  .grind
  .have e1:=A.nonneg f hf v hv;have e2:=A.cin f hf;have:=cV (show 0<=N by omega) e1;omega
def TS{F G:List P3}{Vs Us:List V}{Es Ds:List S}{c e:P3}(A:Poly F Vs Es c)(B:Poly G Us Ds e)
  (h1:∀g∈G,∃v∈Vs,0<ev g (pt v)) (h2:∀f∈F,∃u∈Us,0<ev f (pt u)):Sat (F++G):=by
 have hF:Sat F:=⟨c,A.cd,A.cin⟩;have hG:Sat G:=⟨e,B.cd,B.cin⟩;refine aBm _ _ rfl ?_;intro x hx y hy z hz;simp only[bg]at hx hy hz;rcases hx with hx|hx<;>rcases hy with hy|hy<;>rcases hz with hz|hz
 .exact hF.sub (by grind)
 .exact(uI A (h1 z hz)).sub (by grind)
 .exact(uI A (h1 y hy)).sub (by grind)
 .exact(uI B (h2 x hx)).sub (by grind)
 .exact(uI A (h1 x hx)).sub (by grind)
 .exact(uI B (h2 y hy)).sub (by grind)
 .exact(uI B (h2 z hz)).sub (by grind)
 .exact hG.sub (by grind)
def sr(G:List P3)(s:S):Prop:=∃x y:Int,0<x/\0<y/\∀g∈G,0<ev g (pt s.a)*x+ev g (pt s.b)*y
def Im{F G:List P3}{Vs:List V}{Es:List S}{c:P3}(A:Poly F Vs Es c){s:S}(hs:s∈Es)(h:sr G s):Sat (F++G):=by
 obtain⟨x,y,hx,hy,hg⟩:=h;have hq:∀g∈G,0<ev g (cmb x (pt s.a) y (pt s.b)):=by intro g h;rw[ao];have:=hg g h;grind
 obtain⟨N,h1,h2⟩:=big _ c G hq;refine⟨cmb N (cmb x (pt s.a) y (pt s.b)) 1 c,?_,?_⟩
 .have e1:=A.cd;have e2:=bV (show 0<N by omega) (show 0<x*1+y*1 by omega);simp only[cmb,pt];omega
 .intro f hf;rw[ao];rcases bg.1 hf with hf|hf
  .have e1:=A.nonneg f hf _ (A.ends s hs).1;have e2:=A.nonneg f hf _ (A.ends s hs).2;have e3:=A.cin f hf;have e4:0<=ev f (cmb x (pt s.a) y (pt s.b)):=by rw[ao];have:=cV (show 0<=x by omega) e1;have:=cV (show 0<=y by omega) e2;omega
   have:=cV (show 0<=N by omega) e4;omega
  grind
def Pp(p c:P3)(hp:0<p.d)(hc:0<c.d):∀(G:List P3),(∀g∈G,0<ev g p)->
  ∃m n:Int,0<=m/\0<=n/\0<m+n/\(∀g∈G,0<=ev g (cmb m p n c))/\((∃g∈G,ev g (cmb m p n c)=0)\/(m=0/\∀g∈G,0<ev g c))
 |[],_=>⟨0,1,by omega,by omega,by omega,(by grind),by grind⟩
 |g::G,h=>by
  obtain⟨m,n,hm,hn,hmn,h1,h2⟩:=Pp p c hp hc G (by grind);have hg:=h g cI;rcases ye (ev g (cmb m p n c)) 0 with h3|h3|h3
  ·
   have hq:=ao g p c m n;refine⟨-(ev g (cmb m p n c))+ev g p*m,ev g p*n,?_,?_,?_,?_,.inl ⟨g,by grind,?_⟩⟩
   .have:=cV (show 0<=ev g p by omega) hm;omega
   .exact cV (by omega) hn
   .have e1:=cV (show 0<=ev g p by omega) hm;have e2:=cV (show 0<=ev g p by omega) hn;omega
   .intro f hf;rcases bT.1 hf with rfl|hf
    .rw[ao];have:(-(ev f (cmb m p n c))+ev f p*m)*ev f p+ev f p*n*ev f c=0:=by rw[hq];grind
     omega
    .have e1:=h1 f hf;have e2:=h f (cE _ hf);have e3:=cV (show 0<=ev g p by omega) e1;have e4:=cV (show 0<= -(ev g (cmb m p n c)) by omega) (show 0<=ev f p by omega);have e5:=ao f p c m n;rw[ao];have:(-(ev g (cmb m p n c))+ev g p*m)*ev f p+ev g p*n*ev f c= -(ev g (cmb m p n c))*ev f p+ev g p*ev f (cmb m p n c):=by rw[e5];grind
     omega
   .rw[ao,hq];grind
  .refine⟨m,n,hm,hn,hmn,?_,by grind⟩;grind
  .refine⟨m,n,hm,hn,hmn,?_,?_⟩
   .grind
   .rcases h2 with⟨f,hf,h4⟩|⟨rfl,h4⟩
    .grind
    .refine .inr ⟨rfl,?_⟩;intro f hf;rcases bT.1 hf with rfl|hf
     .rw[ao]at h3;have hn0:0<n:=by omega
      have:0<n*ev f c:=by omega
      exact SM this hn0|>λh=>h
     grind
def Sm{F:List P3}{s:S}{x y:Int}(hx:0<=x)(hy:0<=y)(h:∀f∈F,0<x*ev f (pt s.a)+y*ev f (pt s.b)):sr F s:=by
 have hq:∀f∈F,0<ev f (cmb x (pt s.a) y (pt s.b)):=by intro f hf;rw[ao];exact h f hf
 obtain⟨N,h1,h2⟩:=big _ (cmb 1 (pt s.a) 1 (pt s.b)) F hq;have e1:=cV (show 0<=N by omega) hx;have e2:=cV (show 0<=N by omega) hy;refine⟨N*x+1,N*y+1,by omega,by omega,?_⟩;intro f hf;have:=h2 f hf;rw[ao,ao]at this;grind
def So{F G:List P3}{Vs Us:List V}{Es Ds:List S}{c e:P3}(A:Poly F Vs Es c)(B:Poly G Us Ds e):
  Sat (F++G)↔((∃s∈Es,sr G s)\/(∃s∈Ds,sr F s)\/∀g∈G,0<ev g c):=by
 constructor
 .rintro⟨p,hp,h⟩;obtain⟨m,n,hm,hn,hmn,h1,h2⟩:=Pp p c hp A.cd G (by grind);rcases h2 with h2|⟨_,h2⟩
  .refine .inr (.inl ?_);have hd:0<(cmb m p n c).d:=by
    have:=A.cd;have e1:=cV hm (show 0<=p.d by omega);have e2:=cV hn (show 0<=c.d by omega);show 0<m*p.d+n*c.d;rcases br 0 m with h3|h3
    .have:=bV h3 hp;omega
    .have:=bV (show 0<n by omega) this;omega
   obtain⟨s,hs,x,y,k,hx,hy,hk,hq⟩:=B.side _ hd h2 h1;refine⟨s,hs,Sm hx hy ?_⟩;intro f hf;rw[<-hq f];refine bV hk ?_;rw[ao];have e1:=h f (iC _ hf);have e2:=A.cin f hf;have e3:=cV hm (show 0<=ev f p by omega);have e4:=cV hn (show 0<=ev f c by omega);rcases br 0 m with h3|h3
   .have:=bV h3 e1;omega
   .have:=bV (show 0<n by omega) e2;omega
  grind
 .rintro(⟨s,hs,h⟩|⟨s,hs,h⟩|h)
  .exact Im A hs h
  .exact(Im B hs h).sub (by grind)
  .refine⟨c,A.cd,?_⟩;intro f hf;rcases bg.1 hf with hf|hf
   .exact A.cin f hf
   grind
def TC{F G:List P3}{Vs Us:List V}{Es Ds:List S}{c e:P3}(A:Poly F Vs Es c)(B:Poly G Us Ds e):
  Sat (F++G)↔((∀g∈G,∃v∈Vs,0<ev g (pt v))/\(∀f∈F,∃u∈Us,0<ev f (pt u))):=by
 constructor
 .rintro⟨p,hp,h⟩;constructor
  .intro g hg;apply fH;intro hno;have:=A.hull p (by grind) g (by grind);grind
  .intro f hf;apply fH;intro hno;have:=B.hull p (by grind) f (by grind);grind
 .rintro⟨h1,h2⟩;exact TS A B h1 h2
end Geo
section
set_option linter.unusedSimpArgs false
namespace Geo
def Pj(a b:Int):(0<a->0<b->0<a*b)/\(a<0->b<0->0<a*b)/\(0<a->b<0->a*b<0)/\(a<0->0<b->a*b<0)/\(a=0->a*b=0)/\(b=0->a*b=0):=
 ⟨bV,CT,gm,ma,λh=>by grind,λh=>by grind⟩
def c8(s:S)(r:aH):Bool:=j8 ((aJ r).map λe=>(cross (sub e.b e.a) (sub s.a e.a),cross (sub e.b e.a) (sub s.b e.a))) 0 1 1 1
def oM(r:aH):List P3:=(aJ r).map λe=>lin e.a e.b
def UI(s:S)(r:aH):c8 s r=true↔sr (oM r) s:=by
 unfold c8 sr oM;rw[sD _ _ _ _ _ (by omega) (by omega) (by omega) (by omega)];constructor
 .rintro⟨x,y,hx,hy,h,_⟩;refine⟨x,y,hx,hy,?_⟩;intro g hg;obtain⟨e,he,rfl⟩:=bZ.1 hg;rw[fP,fP];simp_all
 .rintro⟨x,y,hx,hy,h⟩;refine⟨x,y,hx,hy,?_,by omega,by omega⟩;intro p hp;obtain⟨e,he,rfl⟩:=bZ.1 hp;have:=h _ (bZ.2 ⟨e,he,rfl⟩);rw[fP,fP]at this;exact this
def BQ(a b:aH):Bool:=(bQ a.length).any λi=>b.all λv=>decide (turn (nth a i) (nxt a i) v<=0)
def GE(a b:aH):Bool:=BQ a b||BQ b a
def JT(a b:aH)(ha:2<=a.length):BQ a b=true↔∃f∈oM a,∀v∈b,ev f (pt v)<=0:=by
 unfold BQ oM aJ;rw[if_neg (by omega),dq];simp only[l0,cG,bk,decide_eq_true_eq,bZ,CW,bP];have sg:∀n:Int,sgn n<=0↔n<=0:=by intro n;have:=FX n;omega
 constructor
 .rintro⟨i,hi,h⟩;refine⟨_,⟨i,hi,rfl⟩,?_⟩;intro v hv;rw[fP];exact(sg _).1 (h v hv)
 .rintro⟨f,⟨i,hi,rfl⟩,h⟩;refine⟨i,hi,?_⟩;intro v hv;have:=h v hv;rw[fP]at this;exact(sg _).2 this
end Geo
end
namespace Geo
def tk:∀(L:List (Int×Int)) (ln ld hn hd:Int),ln*hd<hn*ld->(∀p∈L,¬(p.1<=0/\p.2<=0))->(∀p∈L,p.1<0-> -p.1*hd<hn*(p.2-p.1))->
  (∀q∈L,q.2<0->ln*(q.1-q.2)<q.1*ld)->(∀p∈L,∀q∈L,p.1<0->q.2<0-> -p.1*(q.1-q.2)<q.1*(p.2-p.1))->j8 L ln ld hn hd=true
 |[],ln,ld,hn,hd,h0,_,_,_,_=>by simpa[j8]using h0
 |(a,b)::L,ln,ld,hn,hd,h0,h1,h2,h3,h4=>by
  have i1:∀p∈L,¬(p.1<=0/\p.2<=0):=by grind
  have i2:∀p∈L,p.1<0-> -p.1*hd<hn*(p.2-p.1):=by grind
  have i3:∀q∈L,q.2<0->ln*(q.1-q.2)<q.1*ld:=by grind
  have i4:∀p∈L,∀q∈L,p.1<0->q.2<0-> -p.1*(q.1-q.2)<q.1*(p.2-p.1):=by grind
  unfold j8;rw[if_neg (h1 (a,b) (by grind))];split
  .rename_i ha;split
   .exact tk L _ _ _ _ (h2 (a,b) (by grind) ha) i1 i2 (λq hq hq2=>h4 (a,b) (by grind) q (by grind) ha hq2) i4
   .exact tk L _ _ _ _ h0 i1 i2 i3 i4
  .split
   .rename_i hb;split
    .exact tk L _ _ _ _ (h3 (a,b) (by grind) hb) i1 (λp hp hp1=>h4 p (by grind) (a,b) (by grind) hp1 hb) i3 i4
    .exact tk L _ _ _ _ h0 i1 i2 i3 i4
   .exact tk L _ _ _ _ h0 i1 i2 i3 i4
def enters_of{F:List P3}{s:S}(h1:∀f∈F,¬(ev f (pt s.a)<=0/\ev f (pt s.b)<=0))
  (h2:∀f∈F,∀g∈F,ev f (pt s.a)<0->ev g (pt s.b)<0->ev f (pt s.a)*ev g (pt s.b)<ev g (pt s.a)*ev f (pt s.b)):sr F s:=by
 have:j8 (F.map λf=>(ev f (pt s.a),ev f (pt s.b))) 0 1 1 1=true:=by
  refine tk _ _ _ _ _ (by decide) ?_ ?_ ?_ ?_
  .grind
  .grind
  .grind
  .grind
 rw[sD _ _ _ _ _ (by decide) (by decide) (by decide) (by decide)]at this;obtain⟨x,y,hx,hy,h,_⟩:=this;exact⟨x,y,hx,hy,λg hg=>h _ (bZ.2 ⟨g,hg,rfl⟩)⟩
def Wx(f:P3)(u v w:V):0<ev f ⟨(pg u v w).x,(pg u v w).y,(pg u v w).den⟩↔0<ev f ⟨u.x+v.x+w.x,u.y+v.y+w.y,3⟩:=by
 unfold pg;generalize u.x+v.x+w.x=x at*;generalize u.y+v.y+w.y=y at*;split
 .rename_i h;have:ev f ⟨x,y,3⟩=3*ev f ⟨x.tdiv 3,y.tdiv 3,1⟩:=by unfold ev;grind
  grind
 grind
def n9(s:Shape)(r:aH):Bool:=(aa s).all (λe=> !(c8 e r))&&fB s (pg (nth r 0) (nth r 1) (nth r 2))==2
def VR.sW{r:aH}(h:VR r){e:S}(he:e∈aJ r):e.a≠e.b:=by
 unfold aJ at he;split at he
 .cases he
 .obtain⟨i,hi,rfl⟩:=bZ.1 he;have hi:=cG.1 hi;intro h2;have h3:nth r i=nth r ((i+1) % r.length):=h2;have:=h.inj hi (bq _ (by omega)) h3;by_cases h4:i+1<r.length
  .rw[dZ h4]at this;omega
  .have h5:i+1=r.length:=by omega
   rw[h5,ju]at this;omega
def VS.sW{s:Shape}(h:VS s){e:S}(he:e∈aa s):e.a≠e.b:=by obtain⟨r,hr,he⟩:=cZ.1 he;exact(h.ring hr).sW he
end Geo
namespace Geo
structure CR(r:aH):Prop where
 len:3<=r.length
 pos:∀i n,i<r.length->n<r.length->n≠i->n≠(i+1) % r.length->0<ev (lin (nth r i) (nxt r i)) (pt (nth r n))
 near:∀v∈r,bL v 2000=true
def qe{r:aH}(h:2<=r.length){f:P3}:f∈oM r↔∃i,i<r.length/\f=lin (nth r i) (nxt r i):=by unfold oM aJ;rw[if_neg (by omega),dq];simp only[bZ,cG,CW,bP];grind
def CR.nonneg{r:aH}(h:CR r){i n:Nat}(hi:i<r.length)(hn:n<r.length):0<=ev (lin (nth r i) (nxt r i)) (pt (nth r n)):=by
 by_cases e1:n=i
 .rw[e1,cK];omega
 by_cases e2:n=(i+1) % r.length
 .rw[e2];unfold nxt;rw[ci];omega
 exact H6 (h.pos i n hi hn e1 e2)
def id3(u v w:V)(h q:P3):ev (lin u v) (pt w)*ev h q=ev (lin v w) q*ev h (pt u)+ev (lin w u) q*ev h (pt v)+ev (lin u v) q*ev h (pt w):=by unfold ev lin pt;grind
def YF(u v w:V):ev (lin u v) (pt w)=ev (lin v w) (pt u):=by unfold ev lin pt;grind
def Ke(u v:V)(q:P3):ev (lin v u) q= -ev (lin u v) q:=by unfold ev lin;grind
def Kp{D:Nat->Int}:∀{n:Nat},0<=D 1->D (n+2)<0->∃i,1<=i/\i<=n+1/\0<=D i/\D (i+1)<0
 |0,h1,h2=>by grind
 |n+1,h1,h2=>by
  by_cases h:0<=D (n+2)
  .grind
  .obtain⟨i,a,b,c,d⟩:=Kp (n:=n) h1 (by omega);grind
def CJ(r:aH):P3:=⟨(nth r 0).x+(nth r 1).x+(nth r 2).x,(nth r 0).y+(nth r 1).y+(nth r 2).y,3⟩
def CR.poly{r:aH}(h:CR r):Poly (oM r) r (aJ r) (CJ r):=by
 have hl:=h.len;have c0:∀f:P3,ev f (CJ r)=ev f (pt (nth r 0))+ev f (pt (nth r 1))+ev f (pt (nth r 2)):=by intro f;unfold CJ ev pt;grind
 have md:∀i,i<r.length->(i+1) % r.length<r.length:=λi _=>bq _ (by omega);have mdc:∀i,i<r.length->((i+1) % r.length=i+1/\i+1<r.length)\/((i+1) % r.length=0/\i+1=r.length):=λi hi=>by
  by_cases h4:i+1<r.length
  .exact .inl ⟨dZ h4,h4⟩
  .have h5:i+1=r.length:=by omega
   simp_all
 refine⟨?_,(show(0:Int)<3 by decide),?_,?_,?_,?_⟩
 .intro f hf v hv;obtain⟨i,hi,rfl⟩:=(qe (by omega)).1 hf;obtain⟨n,hn,rfl⟩:=fD.1 hv;exact h.nonneg hi hn
 .intro f hf;obtain⟨i,hi,rfl⟩:=(qe (by omega)).1 hf;rw[c0];have e0:=h.nonneg hi (show 0<r.length by omega);have e1:=h.nonneg hi (show 1<r.length by omega);have e2:=h.nonneg hi (show 2<r.length by omega);have:(0≠i/\0≠(i+1) % r.length)\/(1≠i/\1≠(i+1) % r.length)\/(2≠i/\2≠(i+1) % r.length):=by rcases mdc i hi with⟨a,b⟩|⟨a,b⟩<;>rw[a] <;>omega
  rcases this with⟨a,b⟩|⟨a,b⟩|⟨a,b⟩
  .have:=h.pos i 0 hi (by omega) a b;omega
  .have:=h.pos i 1 hi (by omega) a b;omega
  .have:=h.pos i 2 hi (by omega) a b;omega
 .intro s hs;unfold aJ at hs;rw[if_neg (by omega)]at hs;obtain⟨i,hi,rfl⟩:=bZ.1 hs;have hi:=cG.1 hi;exact⟨fD.2 ⟨i,hi,rfl⟩,fD.2 ⟨_,md i hi,rfl⟩⟩
 .rintro q hq ⟨f,hf,hz⟩ hn;obtain⟨i,hi,rfl⟩:=(qe (by omega)).1 hf;have hj:=md i hi;obtain⟨p,hp,ep⟩:∃p,p<r.length/\(p+1) % r.length=i:=by
   by_cases h0:i=0
   .exact⟨r.length-1,by omega,by rw[h0,H7 (by omega),ju]⟩
   .exact⟨i-1,by omega,by grind⟩
  have hk:=md _ hj;have n1:=hn (lin (nth r ((i+1) % r.length)) (nxt r ((i+1) % r.length))) ((qe (by omega)).2 ⟨_,hj,rfl⟩);have n2:=hn (lin (nth r p) (nxt r p)) ((qe (by omega)).2 ⟨_,hp,rfl⟩);have ea:nxt r p=nth r i:=by unfold nxt;rw[ep]
  have eb:nxt r i=nth r ((i+1) % r.length):=rfl;rw[ea]at n2;have K1:0<ev (lin (nth r i) (nxt r i)) (pt (nxt r ((i+1) % r.length))):=by
   refine h.pos i _ hi hk ?_ ?_
   .rcases mdc i hi with⟨a,b⟩|⟨a,b⟩<;>rw[a]
    .rcases mdc (i+1) b with⟨c,d⟩|⟨c,d⟩<;>rw[c] <;>omega
    .rw[dZ (by omega)];omega
   .rcases mdc i hi with⟨a,b⟩|⟨a,b⟩<;>rw[a]
    .rcases mdc (i+1) b with⟨c,d⟩|⟨c,d⟩<;>rw[c] <;>omega
    .rw[dZ (by omega)];omega
  have K2:0<ev (lin (nth r p) (nth r i)) (pt (nxt r i)):=by
   have:=h.pos p ((i+1) % r.length) hp hj ?_ ?_
   .grind
   .rcases mdc p hp with⟨a,b⟩|⟨a,b⟩
    .rcases mdc i hi with⟨c,d⟩|⟨c,d⟩<;>rw[c] <;>omega
    .have:i=0:=by omega
     rw[dZ (by omega)];omega
   .rcases mdc i hi with⟨c,d⟩|⟨c,d⟩<;>rw[c] <;>omega
  have id:=λg=>id3 (nth r i) (nxt r i) (nxt r ((i+1) % r.length)) g q;rw[hz]at id;refine⟨bP r i,?_,ev (lin (nxt r i) (nxt r ((i+1) % r.length))) q,ev (lin (nxt r ((i+1) % r.length)) (nth r i)) q,_,n1,?_,K1,λg=>by rw[id g];rw[yZ,nW];rfl⟩
  .unfold aJ;grind
  .have e:=id (lin (nth r p) (nth r i));rw[ci,eL,vY,yZ,nW]at e;rcases br (ev (lin (nxt r ((i+1) % r.length)) (nth r i)) q) 0 with h5|h5
   .have:=ma h5 K2;have:=cV (H6 K1) n2;omega
   .exact h5
 .intro q hq g hg;have d1:=hq _ ((qe (by omega)).2 ⟨0,show 0<r.length by omega,rfl⟩);have d2:=hq _ ((qe (by omega)).2 ⟨r.length-1,show r.length-1<r.length by omega,rfl⟩);have e1:nxt r 0=nth r 1:=by unfold nxt;rw[dZ (by omega)]
  have e2:nxt r (r.length-1)=nth r 0:=by unfold nxt;rw[H7 (by omega),ju]
  rw[e1]at d1;rw[e2]at d2;have d3:=Ke (nth r 0) (nth r (r.length-1)) q;obtain⟨i,a,b,c,d⟩:=Kp (D:=λi=>ev (lin (nth r 0) (nth r i)) q) (n:=r.length-3) (H6 d1) (by rw[show r.length-3+2=r.length-1 by omega];omega);have hi:i+1<r.length:=by omega
  have K:=h.pos i 0 (by omega) (by omega) (by omega) (by rw[dZ hi];omega);have f1:=hq _ ((qe (by omega)).2 ⟨i,show i<r.length by omega,rfl⟩);have en:nxt r i=nth r (i+1):=by unfold nxt;rw[dZ hi]
  rw[en]at K f1;rw[<-YF]at K;have id:=id3 (nth r 0) (nth r i) (nth r (i+1)) g q;have g1:=hg _ (fD.2 ⟨0,show 0<r.length by omega,rfl⟩);have g2:=hg _ (fD.2 ⟨i,show i<r.length by omega,rfl⟩);have g3:=hg _ (fD.2 ⟨i+1,hi,rfl⟩);have d4:=Ke (nth r 0) (nth r (i+1)) q;have p1:=cV (H6 f1) (show 0<= -ev g (pt (nth r 0)) by omega);have p2:=cV (show 0<=ev (lin (nth r (i+1)) (nth r 0)) q by omega) (show 0<= -ev g (pt (nth r i)) by omega);have p3:=cV c (show 0<= -ev g (pt (nth r (i+1))) by omega);rw[mf]at p1 p2 p3;rcases br 0 (ev g q)with h1|h1
  .have:=bV K h1;omega
  .exact h1
def dY(r:aH):Bool:=decide (3<=r.length)&&(r.all (λv=>bL v 2000)&&(bQ r.length).all λi=>(bQ r.length).all λn=>decide (n=i)||decide (n=(i+1) % r.length)||decide (0<turn (nth r i) (nxt r i) (nth r n)))
def CR.of{r:aH}(h:dY r=true):CR r:=by
 unfold dY at h;simp only[bw,decide_eq_true_eq,bk,cG,jv]at h;obtain⟨h1,h2,h3⟩:=h;refine⟨h1,λi n hi hn e1 e2=> ?_,h2⟩;rcases h3 i hi n hn with(h4|h4)|h4
 .omega
 .omega
 .rw[fP];exact(FX _).1 h4
def mF(r:aH)(p:Pt):Bool:=(aJ r).all λe=>decide (0<(e.b.x-e.a.x)*(p.y-e.a.y*p.den)-(e.b.y-e.a.y)*(p.x-e.a.x*p.den))
def TJ(r:aH)(p:Pt):mF r p=true↔∀g∈oM r,0<ev g ⟨p.x,p.y,p.den⟩:=by
 unfold mF oM;have e:∀s:S,(s.b.x-s.a.x)*(p.y-s.a.y*p.den)-(s.b.y-s.a.y)*(p.x-s.a.x*p.den)=ev (lin s.a s.b) ⟨p.x,p.y,p.den⟩:=by intro s;unfold ev lin;grind
 simp_all
def fK(a b:aH):Bool:=(aJ a).any (λs=>c8 s b)||((aJ b).any (λs=>c8 s a)||mF b (pg (nth a 0) (nth a 1) (nth a 2)))
def Ty{a b:aH}(ha:CR a)(hb:CR b):fK a b= !(GE a b):=by have A:=ha.poly;have B:=hb.poly;have la:=ha.len;have lb:=hb.len;have h1:=So A B;have h2:=TC A B;rw[fm];unfold fK GE;simp only[jv,l0,UI,TJ,Bool.not_eq_true',Bool.or_eq_false_iff];simp only[Wx];show(_\/_\/∀g∈oM b,0<ev g (CJ a))↔_;have r1:=JT a b (by omega);have r2:=JT b a (by omega);grind
def eI(a b:List aH):Bool:=a.any λr=>b.any λo=>dY r&&(dY o&&fK r o)
end Geo
section
namespace Geo
def rot(r:aH)(k:Nat):aH:=r.drop k++r.take k
def w9(r:aH)(k:Nat):(rot r k).Perm r:=by refine vV.trans ?_;simp_all
def mC(r:aH)(k:Nat):(rot r k).length=r.length:=(w9 r k).length_eq
def uX{r:aH}{k i:Nat}(hk:k<=r.length)(hi:i<r.length):nth (rot r k) i=nth r ((i+k) % r.length):=by
 unfold rot nth;rw[du,du];by_cases h:i<r.length-k
 .rw[mb (by simp;omega),vX,jK (by omega)];grind
 .rw[kZ (by simp;omega),List.length_drop,List.getElem?_take,if_pos (by omega),pW (by omega) (by omega)];grind
def AX(i k n:Nat)(_:0<n):((i+1) % n+k) % n=((i+k) % n+1) % n:=by rw[kc,kc];grind
def FC{r:aH}{k i:Nat}(hk:k<=r.length)(hi:i<r.length):bP (rot r k) i=bP r ((i+k) % r.length):=by unfold bP nxt;rw[mC,uX hk hi,uX hk (bq _ (by omega)),AX _ _ _ (by omega)]
def Wg(r:aH){k:Nat}(hk:k<=r.length):aJ (rot r k)=(aJ r).drop k++(aJ r).take k:=by
 unfold aJ;rw[mC];split
 .simp
 .apply rT
  .simp;omega
  .intro i h1 h2;simp only[da,List.length_range]at h1;rw[jG,qO,FC hk h1];by_cases h:i<r.length-k
   .rw[List.getElem_append_left (by simp;omega),List.getElem_drop,jG,qO,jK (by omega)];grind
   .rw[List.getElem_append_right (by simp;omega),List.getElem_take,jG,qO,pW (by omega) (by omega)];grind
def rj(r:aH){k:Nat}(hk:k<=r.length):(aJ (rot r k)).Perm (aJ r):=by rw[Wg r hk];refine vV.trans ?_;simp_all
def Dq{r:aH}(h:2<=r.length):area r=((aJ r).map λe=>cross e.a e.b).sum:=by unfold area aJ;rw[if_neg (by omega),dq];rfl
def KT{l m:List Int}(h:l.Perm m):l.sum=m.sum:=by
 induction h with
 |nil=>rfl
 |cons x _ ih=>grind
 |swap x y l=>grind
 |trans _ _ ih1 ih2=>rw[ih1,ih2]
def Yv{r:aH}(h:2<=r.length){k:Nat}(hk:k<=r.length):area (rot r k)=area r:=by rw[Dq h,Dq (by rw[mC];exact h)];exact KT ((rj r hk).map _)
def WK{r q:aH}(h:q.Perm r):near q=near r:=by unfold near;grind
def Zg(i k n:Nat)(_:0<n):((i+2) % n+k) % n=((i+k) % n+2) % n:=by rw[kc,kc];grind
def VR.rot{r:aH}(h:VR r){k:Nat}(hk:k<=r.length):VR (rot r k):=by
 have h3:=h.three;have ht:∀i,i<(Geo.rot r k).length->Geo.turn (nth (Geo.rot r k) i) (nth (Geo.rot r k) ((i+1) % (Geo.rot r k).length)) (nth (Geo.rot r k) ((i+2) % (Geo.rot r k).length))≠0:=by intro i hi;rw[mC]at hi|-;rw[uX hk hi,uX hk (bq _ (by omega)),uX hk (bq _ (by omega)),AX _ _ _ (by omega),Zg _ _ _ (by omega)];exact h.turn' _ (bq _ (by omega))
 have ha:∀a b,a<r.length->b<r.length->a≠b->b≠(a+1) % r.length->a≠(b+1) % r.length->cC (bP r a) (bP r b)=0:=by
  intro a b h1 h2 h4 h5 h6;have key:∀a b,a<b->b<r.length->b≠(a+1) % r.length->a≠(b+1) % r.length->cC (bP r a) (bP r b)=0:=by
   intro a b h1 h2 h5 h6;refine h.apart a b h1 h2 ?_ ?_
   .rintro rfl;exact h5 (jK h2).symm
   .rintro⟨rfl,rfl⟩;exact h6 (by rw[show r.length-1+1=r.length by omega,ju])
  rcases nY a b with h7|h7
  .grind
  .rw[mD];grind
 have e1:∀i,i<r.length->(i+1) % r.length=if i+1=r.length then 0 else i+1:=by
  intro i hi;split
  .simp_all
  .exact jK (by omega)
 have hap:∀i j,i<j->j<(Geo.rot r k).length->j≠i+1->¬(i=0/\j=(Geo.rot r k).length-1)->cC (bP (Geo.rot r k) i) (bP (Geo.rot r k) j)=0:=by
  intro i j hij hj h4 h5;rw[mC]at hj h5;rw[FC hk (by omega),FC hk hj];have inj:∀x y,x<r.length->y<r.length->(x+k) % r.length=(y+k) % r.length->x=y:=by
   intro x y hx hy e;have hm:∀z,z<r.length->(z+k) % r.length=if z+k<r.length then z+k else z+k-r.length:=by
    intro z hz;split
    .exact jK ‹_›
    .exact pW (by omega) (by omega)
   rw[hm x hx,hm y hy]at e;split at e<;>split at e<;>omega
  refine ha _ _ (bq _ (by omega)) (bq _ (by omega)) ?_ ?_ ?_
  .intro e;have:=inj _ _ (by omega) hj e;omega
  .rw[<-AX _ _ _ (by omega)];intro e;have:=inj _ _ hj (bq _ (by omega)) e;rw[e1 i (by omega)]at this;grind
  .rw[<-AX _ _ _ (by omega)];intro e;have:=inj _ _ (by omega) (by grind) e;grind
 have htn:∀i,i<(Geo.rot r k).length->Geo.turn (prv (Geo.rot r k) i) (nth (Geo.rot r k) i) (nxt (Geo.rot r k) i)≠0:=by have:=Dv (Geo.rot r k) (by rw[mC];exact h3);rw[fm,bk,bk]at this;intro i hi;have:=this.2 (by grind) i (by grind);simpa using this
 exact⟨by rw[mC];exact h3,by rw[mC];exact h.most,by rw[WK (w9 r k)];exact h.near,by rw[Yv (by omega) hk];exact h.area,htn,ht,hap⟩
def Vt(p:Pt)(a b:S)(l:List S)(ins:Bool):eQ p (a::b::l) ins=eQ p (b::a::l) ins:=by simp only[eQ];cases onP a p<;>cases onP b p<;>simp;grind
def Vu(p:Pt){l m:List S}(h:l.Perm m):∀ins,eQ p l ins=eQ p m ins:=by
 induction h with
 |nil=>omega
 |cons x _ ih=>intro ins;simp only[eQ,ih]
 |swap x y l=>intro ins;exact Vt p y x l ins
 |trans _ _ ih1 ih2=>grind
def za{r:aH}(h:VR r){k:Nat}(hk:k<=r.length)(p:Pt):bj (rot r k) p=bj r p:=by unfold bj;rw[(jZ _).2 h,(jZ _).2 (h.rot hk),Vu p (rj r hk)]
def UU{r:aH}(h:VR r){k:Nat}(hk:k<=r.length)(v:V):dN (rot r k) v=dN r v:=by unfold dN;rw[za h hk]
def GF{a b:aH}(hb:VR b){i j:Nat}(hj:j<=b.length)(w:Int):bM (rot a i) (rot b j) w=bM a b w:=by unfold bM;rw[fm,bk,bk];simp only[UU hb hj];exact⟨λg v hv=>g v ((w9 a i).mem_iff.2 hv),λg v hv=>g v ((w9 a i).mem_iff.1 hv)⟩
def LC{a b:aH}{i j:Nat}(hi:i<=a.length)(hj:j<=b.length):eE (rot a i) (rot b j)=eE a b:=by unfold eE;rw[fm,bk,bk];have h1:=rj a hi;have h2:=rj b hj;grind
def vR(a b:aH):Prop:=eE a b=true/\bM a b 0=true/\bM b a 0=true
def vR.symm{a b:aH}(h:vR a b):vR b a:=⟨by rw[rr];exact h.1,h.2.2,h.2.1⟩
structure VP(s:Shape):Prop where
 few:s.holes.length<=6
 outer:VR s.outer
 hole:∀h∈s.holes,VR h/\bM h s.outer 2=true/\eE h s.outer=true
 corners:gF s<=80
 sep:s.holes.Pairwise vR
def VS.vp{s:Shape}(h:VS s):VP s:=by
 refine⟨h.few,h.outer,λr hr=> ?_,h.corners,?_⟩
 .obtain⟨i,hi,rfl⟩:=pX hr;exact⟨h.hole i hi,h.ins i hi,h.apo i hi⟩
 .rw[nU];intro i j hi hj hij;have en:∀i (hi:i<s.holes.length),s.holes[i] =aC s.holes i:=λi hi=>by unfold aC;grind
  rw[en i hi,en j hj];exact vR.symm ⟨h.aph j i hij hj,h.out1 j i hij hj,h.out2 j i hij hj⟩
def VP.vs{s:Shape}(h:VP s):VS s:=by
 have en:∀i (hi:i<s.holes.length),s.holes[i] =aC s.holes i:=λi hi=>by unfold aC;grind
 have hs:=h.sep;rw[nU]at hs;have hp:∀i k,k<i->i<s.holes.length->vR (aC s.holes i) (aC s.holes k):=λi k hk hi=>by have:=hs k i (by omega) hi hk;rw[en k (by omega),en i hi]at this;exact this.symm
 exact⟨h.few,h.outer,λi hi=>(h.hole _ (gD hi)).1,h.corners,λi hi=>(h.hole _ (gD hi)).2.1,λi hi=>(h.hole _ (gD hi)).2.2,λi k hk hi=>(hp i k hk hi).1,λi k hk hi=>(hp i k hk hi).2.1,λi k hk hi=>(hp i k hk hi).2.2⟩
structure Begun(s t:Shape)(κ:aH->Nat):Prop where
 le:∀r,κ r<=r.length
 outer:t.outer=rot s.outer (κ s.outer)
 holes:t.holes.Perm (s.holes.map λr=>rot r (κ r))
section
variable {s t:Shape} {κ:aH->Nat}
def WC{l m:List Nat}(h:l.Perm m):l.sum=m.sum:=by grind
def Begun.valid(B:Begun s t κ)(h:VS s):VS t:=by
 have h:=h.vp;refine VP.vs ⟨?_,?_,?_,?_,?_⟩
 .rw[B.holes.length_eq,da];exact h.few
 .rw[B.outer];exact h.outer.rot (B.le _)
 .intro r hr;obtain⟨q,hq,rfl⟩:=bZ.1 (B.holes.mem_iff.1 hr);obtain⟨h1,h2,h3⟩:=h.hole q hq;refine⟨h1.rot (B.le _),?_,?_⟩
  .rw[B.outer,GF h.outer (B.le _)];exact h2
  .rw[B.outer,LC (B.le _) (B.le _)];exact h3
 .have hc:=h.corners;have e:gF t=gF s:=by
   unfold gF aD;simp only[dB,CV];rw[B.outer,mC,WC (B.holes.map _),dq]
   congr 2
   apply nZ;intro r _;exact mC r _
  omega
 .refine(B.holes.pairwise_iff λh=>h.symm).2 ?_;rw[kK];refine List.Pairwise.imp_of_mem ?_ h.sep;intro a b ha hb ⟨h1,h2,h3⟩;exact⟨by rw[LC (B.le _) (B.le _)];exact h1,by rw[GF (h.hole b hb).1 (B.le _)];exact h2,by rw[GF (h.hole a ha).1 (B.le _)];exact h3⟩
def Begun.mem_edges(B:Begun s t κ)(e:S):e∈aa t↔e∈aa s:=by
 unfold aa aD;simp only[fM,bg,cZ];rw[B.outer,(rj _ (B.le _)).mem_iff];constructor
 .rintro(h|⟨r,hr,he⟩)
  .exact .inl h
  .obtain⟨q,hq,rfl⟩:=bZ.1 (B.holes.mem_iff.1 hr);exact .inr ⟨q,hq,(rj _ (B.le _)).mem_iff.1 he⟩
 .rintro(h|⟨r,hr,he⟩)
  .exact .inl h
  .exact .inr ⟨_,B.holes.mem_iff.2 (by grind),(rj _ (B.le _)).mem_iff.2 he⟩
def Jp{p:Pt}:∀{l:List aH},jj p l 2=2↔∀h∈l,bj h p=0
 |[] =>by simp[jj]
 |h::l=>by
  have hr:bj h p=0\/bj h p=1\/bj h p=2:=by
   unfold bj;split
   .omega
   .exact JR p _ _
  simp only[jj,bT,forall_eq_or_imp];rw[<-Jp (l:=l)];omega
def zG(s:Shape)(p:Pt):fB s p=2↔(ak s=true/\bj s.outer p=2/\∀h∈s.holes,bj h p=0):=by
 unfold fB;cases ak s with
 |false=>simp
 |true=>
  simp only[yY,qM,if_false,true_and];by_cases h:bj s.outer p=2
  .rw[if_neg (by omega),Jp];simp[h]
  omega
def Begun.inside(B:Begun s t κ)(h:VS s)(p:Pt):(fB t p==2)=(fB s p==2):=by
 rw[fm,beq_iff_eq,beq_iff_eq,zG,zG,(nt _).2 h,(nt _).2 (B.valid h),B.outer,za h.outer (B.le _)];refine and_congr_right λ_=>and_congr_right λ_=> ?_;constructor
 .intro g r hr;rw[<-za (h.vp.hole r hr).1 (B.le r)];exact g _ (B.holes.mem_iff.2 (by grind))
 .intro g r hr;obtain⟨q,hq,rfl⟩:=bZ.1 (B.holes.mem_iff.1 hr);rw[za (h.vp.hole q hq).1 (B.le q)];exact g q hq
def Begun.chord(B:Begun s t κ)(h:VS s)(c:S):gI t c=gI s c:=by
 unfold gI;rw[B.inside h]
 congr 1
 rw[fm,bk,bk];exact⟨λg e he=>g e ((B.mem_edges e).2 he),λg e he=>g e ((B.mem_edges e).1 he)⟩
end
end Geo
end
section
namespace Geo
section
variable {u:V}
def NB(l:List S)(f g:S->Int):(l.map λe=>f e+g e).sum=(l.map f).sum+(l.map g).sum:=by
 induction l with
 |nil=>rfl
 |cons x l ih=>grind
def ZN{r:aH}(h:2<=r.length):(aJ r).map S.b=rot r 1:=by
 unfold aJ;rw[if_neg (by omega),dq];apply rT
 .rw[mC];simp
 .intro i h1 h2;rw[mC]at h2;have:=uX (r:=r) (k:=1) (i:=i) (by omega) h2;rw[jG,qO];show nxt r i=_;unfold nxt;rw[<-this];unfold nth;grind
def Lm{r:aH}(h:2<=r.length):(aJ r).map S.a=r:=by
 unfold aJ;rw[if_neg (by omega),dq];apply rT
 .simp
 .intro i h1 h2;rw[jG,qO];show nth r i=_;unfold nth;grind
def Ez{r:aH}(h:near r=true){v:V}(hv:v∈r):bL v 2000=true:=by unfold near at h;grind
def VQ{r:aH}(h:near r=true){e:S}(he:e∈aJ r):bJ e=true:=by obtain⟨_,i,hi,rfl⟩:=mem_edges.1 he;exact jc h i hi
end
section
variable {u:V} {s:Shape}
def Zw(x y:Int)(h:¬(x.tmod 2=0/\y.tmod 2=0)):bX (bX x.natAbs y.natAbs) 2=1:=by
 have hd:bX (bX x.natAbs y.natAbs) 2∣2:=Hz _ _;have hle:=Nat.le_of_dvd (by omega) hd;have h0:bX (bX x.natAbs y.natAbs) 2≠0:=λe=>by grind
 have h2:bX (bX x.natAbs y.natAbs) 2≠2:=λe=>by have g:=H0 (bX x.natAbs y.natAbs) 2;rw[e]at g;exact h ⟨(AO x 2).2 (H3 g (H0 _ _)),(AO y 2).2 (H3 g (Hz _ _))⟩
 omega
def Cy{c:S}(ha:bL c.a 2000=true)(hb:bL c.b 2000=true):dK (ft c)=true:=by
 unfold bL at ha hb;simp only[bw,decide_eq_true_eq]at ha hb;unfold ft;split
 .rename_i h;unfold dK i8 bL;simp only[bw,decide_eq_true_eq,beq_iff_eq];obtain⟨k,hk⟩:=SI.2 h.1;obtain⟨l,hl⟩:=SI.2 h.2;rw[hk,hl,Int.mul_tdiv_cancel_left _ (by decide),Int.mul_tdiv_cancel_left _ (by decide)];refine⟨by grind,?_⟩;simp_all
 .rename_i h;unfold dK i8 bL;simp only[bw,decide_eq_true_eq,beq_iff_eq];exact⟨by grind,Zw _ _ h⟩
def mr(h:VS s){v:V}(hv:v∈cT s):bL v 2000=true:=by obtain⟨r,hr,hv⟩:=k9.1 hv;exact Ez (h.ring hr).near hv
def JE(h:VS s){e:S}(he:e∈aa s):bJ e=true:=by obtain⟨r,hr,he⟩:=cZ.1 he;exact VQ (h.ring hr).near he
end
end Geo
end
namespace Geo
def qK(p:Pt)(l:List S)(ins:Bool):Bool:=l.foldl (λb s=>b !=dr s p) ins
def Le{p:Pt}:∀{l:List S} {ins:Bool},eQ p l ins=2->qK p l ins=true
 |[],ins,h=>by unfold eQ at h;unfold qK;grind
 |s::l,ins,h=>by
  unfold eQ at h;split at h
  .omega
  .exact Le (l:=l) (ins:=ins !=dr s p) h
def Lv{p:Pt}:∀{l:List S} {ins:Bool},(∀s∈l,dr s p=false)->qK p l ins=ins
 |[],_,_=>rfl
 |s::l,ins,h=>by
  show qK p l (ins !=dr s p)=ins;rw[Lv (by grind),h s (by grind)];simp_all
def di(l:List Bool):Bool:=l.foldr (λa b=>a !=b) false
def XE{l m:List Bool}(h:l.Perm m):di l=di m:=by
 induction h with
 |nil=>rfl
 |cons x _ ih=>show(x !=di _)=(x !=di _);rw[ih]
 |swap x y l=>show(y !=(x !=di l))=(x !=(y !=di l));cases x<;>cases y<;>cases di l<;>rfl
 |trans _ _ ih1 ih2=>rw[ih1,ih2]
def Na{p:Pt}(f:V->Bool):∀{l:List S} {ins:Bool},(∀s∈l,dr s p=(f s.a !=f s.b))->qK p l ins=(ins !=(di (l.map λs=>f s.a) !=di (l.map λs=>f s.b)))
 |[],ins,_=>by cases ins<;>rfl
 |s::l,ins,h=>by
  show qK p l (ins !=dr s p)=_;rw[Na f (by grind),h s (by grind)];show _=(ins !=((f s.a !=di _) !=(f s.b !=di _)));cases ins<;>cases f s.a<;>cases f s.b<;>cases di (l.map λs=>f s.a)<;>cases di (l.map λs=>f s.b)<;>rfl
def Eb{r:aH}(h:2<=r.length)(f:V->Bool):di ((aJ r).map λs=>f s.a)=di ((aJ r).map λs=>f s.b):=by have h1:((aJ r).map λe=>f e.b)=(rot r 1).map f:=(dq (f:=S.b) (g:=f) (l:=aJ r)).symm.trans (by rw[ZN h]);have h2:((aJ r).map λe=>f e.a)=r.map f:=(dq (f:=S.a) (g:=f) (l:=aJ r)).symm.trans (by rw[Lm h]);rw[h1,h2];exact XE ((w9 r 1).map f).symm
def ik{r:aH}{e:S}(he:e∈aJ r):e.a∈r/\e.b∈r:=by obtain⟨_,i,hi,rfl⟩:=mem_edges.1 he;exact⟨fD.2 ⟨i,hi,rfl⟩,fD.2 ⟨_,bq _ (by omega),rfl⟩⟩
def LW(s:S)(p:Pt)(h:p.den=1):gQ s p=(toV p s.a).x*(toV p s.b).y-(toV p s.a).y*(toV p s.b).x:=by unfold gQ toV cross sub;grind
def CA{x y:Int}:(0<x->0<=y->0<=x*y)/\(0<x->y<0->x*y<0)/\(x<0->0<=y->x*y<=0)/\(x<0->y<0->0<x*y):=by refine⟨λh1 h2=>cV (by omega) h2,λh1 h2=>gm h1 h2,λh1 h2=>SN (by omega) h2,λh1 h2=>CT h1 h2⟩
def WY{s:S}{p:Pt}(hd:p.den=1)(ha:0<(toV p s.a).x)(hb:0<(toV p s.b).x):dr s p=false:=by unfold dr;rw[LW s p hd];generalize (toV p s.a).x=X1 at*;generalize (toV p s.b).x=X2 at*;generalize (toV p s.a).y=Y1;generalize (toV p s.b).y=Y2;have a:= @CA X1 Y2;have b:= @CA X2 Y1;grind
def YO{s:S}{p:Pt}(hd:p.den=1)(ha:(toV p s.a).x<0)(hb:(toV p s.b).x<0):dr s p=(decide (0<=(toV p s.a).y) !=decide (0<=(toV p s.b).y)):=by unfold dr;rw[LW s p hd];generalize (toV p s.a).x=X1 at*;generalize (toV p s.b).x=X2 at*;generalize (toV p s.a).y=Y1;generalize (toV p s.b).y=Y2;have a:= @CA X1 Y2;have b:= @CA X2 Y1;grind
def Ps{s:S}{p:Pt}(h:decide (0<=(toV p s.a).y)=decide (0<=(toV p s.b).y)):dr s p=false:=by unfold dr;rw[h];simp
def U4{r:aH}(h2:2<=r.length){v:V}(h:dN r v=2):(∃a∈r,a.x<=v.x)/\(∃a∈r,v.x<=a.x)/\(∃a∈r,a.y<=v.y)/\(∃a∈r,v.y<=a.y):=by
 unfold dN bj at h;split at h
 .omega
 split at h
 .omega
 have hp:=Le h;have no:¬∀s∈aJ r,dr s (eJ v)=false:=λhn=>by rw[Lv hn]at hp;cases hp
 have tx:∀a:V,(toV (eJ v) a).x=v.x-a.x:=λa=>by unfold toV eJ;simp
 have ty:∀a:V,(toV (eJ v) a).y=v.y-a.y:=λa=>by unfold toV eJ;simp
 refine⟨fH λhn=> ?_,fH λhn=> ?_,fH λhn=> ?_,fH λhn=> ?_⟩
 .have hl:∀a∈r,v.x<a.x:=by grind
  rw[Na (λa=>decide (0<=(toV (eJ v) a).y)) (λs hs=>YO rfl (by rw[tx];have:=hl _ (ik hs).1;omega) (by rw[tx];have:=hl _ (ik hs).2;omega))]at hp;have hx:=Eb h2 (λa=>decide (0<=(toV (eJ v) a).y));grind
 .have hl:∀a∈r,a.x<v.x:=by grind
  exact no λs hs=>WY rfl (by rw[tx];have:=hl _ (ik hs).1;omega) (by rw[tx];have:=hl _ (ik hs).2;omega)
 .have hl:∀a∈r,v.y<a.y:=by grind
  exact no λs hs=>Ps (by have:=hl _ (ik hs).1;have:=hl _ (ik hs).2;grind)
 .have hl:∀a∈r,a.y<v.y:=by grind
  exact no λs hs=>Ps (by have:=hl _ (ik hs).1;have:=hl _ (ik hs).2;grind)
end Geo
section
namespace Geo
def ln(p q:P3):P3:=⟨p.y*q.d-p.d*q.y,p.d*q.x-p.x*q.d,p.x*q.y-p.y*q.x⟩
def aAQ(u v:V):lin u v=ln (pt u) (pt v):=by unfold lin ln pt;grind
def Fw(p q:P3):ev (ln p q) p=0:=by unfold ev ln;grind
def Ax(p q:P3):ev (ln p q) q=0:=by unfold ev ln;grind
def nnl{a k:Int}(hk:0<k)(h:0<=a*k):0<=a:=by
 rcases br a 0 with g|g
 .have:=ma g hk;omega
 .exact g
def npl{a k:Int}(hk:0<k)(h:a*k<=0):a<=0:=by
 rcases br 0 a with g|g
 .have:=bV g hk;omega
 .exact g
def mpp{a b:Int}(ha:0<=a)(hb:0<=b):0<=a*b:=cV ha hb
def mpn{a b:Int}(ha:0<=a)(hb:b<=0):a*b<=0:=H9 ha hb
def mnp{a b:Int}(ha:a<=0)(hb:0<=b):a*b<=0:=SN ha hb
def mnn{a b:Int}(ha:a<=0)(hb:b<=0):0<=a*b:=Int.mul_nonneg_of_nonpos_of_nonpos ha hb
def dn(p:P3)(w:V):Bool:=decide (w.y*p.d<=p.y)
def hit(p:P3)(e:S):Bool:=(dn p e.a !=dn p e.b)&&(dn p e.a==decide (0<ev (lin e.a e.b) p))
def YP(e:S)(p:Pt):dr e p=hit ⟨p.x,p.y,p.den⟩ e:=by
 unfold dr hit dn;have e1:∀w:V,decide (0<=(toV p w).y)=decide (w.y*p.den<=p.y):=λw=>decide_eq_decide.2 (by unfold toV;grind);have e2:gQ e p=ev (lin e.a e.b) ⟨p.x,p.y,p.den⟩:=by unfold gQ cross sub toV ev lin;grind
 grind
def fX(e:S)(p q:P3):Prop:=∃x y s t:Int,0<=x/\0<=y/\0<x+y/\0<=s/\0<=t/\cmb x (pt e.a) y (pt e.b)=cmb s p t q
section
variable {u v:V} {p q:P3}
def gc(u v:V)(p q:P3):cmb (ev (ln p q) (pt v)) (pt u) (-(ev (ln p q) (pt u))) (pt v)=cmb (-(ev (lin u v) q)) p (ev (lin u v) p) q:=by unfold cmb ev ln lin pt;grind
def Hj(u v:V)(p q:P3):ev (ln p q) (pt v)*(u.y*p.d-p.y)-ev (ln p q) (pt u)*(v.y*p.d-p.y)=ev (lin u v) p*(q.y*p.d-p.y*q.d):=by unfold ev ln lin pt;grind
def Hi(u v:V)(p q:P3):ev (ln p q) (pt v)*(u.y*q.d-q.y)-ev (ln p q) (pt u)*(v.y*q.d-q.y)=ev (lin u v) q*(q.y*p.d-p.y*q.d):=by unfold ev ln lin pt;grind
def aDm(u v:V)(p q:P3):ev (ln p q) (pt v)-ev (ln p q) (pt u)=ev (lin u v) p*q.d-ev (lin u v) q*p.d:=by unfold ev ln lin pt;grind
def yD(h1:0<=ev (lin u v) p)(h2:ev (lin u v) q<=0)(h3:0<=ev (ln p q) (pt v))(h4:ev (ln p q) (pt u)<=0)(h5:ev (ln p q) (pt u)<ev (ln p q) (pt v)):fX ⟨u,v⟩ p q:=
 ⟨_,_,_,_,h3,by omega,by omega,by omega,h1,gc u v p q⟩
def Bu(h1:ev (lin u v) p<=0)(h2:0<=ev (lin u v) q)(h3:ev (ln p q) (pt v)<=0)(h4:0<=ev (ln p q) (pt u))(h5:ev (ln p q) (pt v)<ev (ln p q) (pt u)):fX ⟨u,v⟩ p q:=by refine⟨-(ev (ln p q) (pt v)),ev (ln p q) (pt u),ev (lin u v) q,-(ev (lin u v) p),by omega,by omega,by omega,by omega,by omega,?_⟩;have:=gc u v p q;unfold cmb at this|-;grind
def rgt(p q:P3)(w:V):Bool:=dn q w&& !dn p w&&decide (ev (ln p q) (pt w)<0)
def fX.swap{u v:V}{p q:P3}(h:fX ⟨u,v⟩ p q):fX ⟨v,u⟩ p q:=by obtain⟨x,y,s,t,h1,h2,h3,h4,h5,h6⟩:=h;refine⟨y,x,s,t,h2,h1,by omega,h4,h5,?_⟩;rw[<-h6];unfold cmb;grind
def fX.flip{e:S}{p q:P3}(h:fX e p q):fX e q p:=by obtain⟨x,y,s,t,h1,h2,h3,h4,h5,h6⟩:=h;refine⟨x,y,t,s,h1,h2,h3,h5,h4,?_⟩;rw[h6];unfold cmb;grind
def ki(u v:V)(p:P3):ev (lin v u) p= -ev (lin u v) p:=by unfold ev lin;grind
def low(hp:0<p.d)(hq:0<q.d)(hm:¬fX ⟨u,v⟩ p q)(a:u.y*p.d<=p.y)(b:p.y<v.y*p.d)(c:u.y*q.d<=q.y)(d:v.y*q.d<=q.y):
  0<ev (lin u v) p↔ev (ln p q) (pt v)<0:=by
 have i1:=Hj u v p q;have i2:=Hi u v p q;have hK:0<q.y*p.d-p.y*q.d:=by
  have e:q.y*p.d-p.y*q.d=(v.y*p.d-p.y)*q.d-(v.y*q.d-q.y)*p.d:=by grind
  have:=bV (show 0<v.y*p.d-p.y by omega) hq;have:=mnp (show v.y*q.d-q.y<=0 by omega) (show 0<=p.d by omega);omega
 have m1:= @yD u v p q;have m2:= @Bu u v p q;generalize ev (lin u v) p=A at*;generalize ev (lin u v) q=B at*;generalize ev (ln p q) (pt u)=C at*;generalize ev (ln p q) (pt v)=D at*;generalize q.y*p.d-p.y*q.d=K at*;constructor
 .intro hA;refine fH λhn=> ?_;have hDn:0<=D:=by omega
  have s1:=mpn hDn (show u.y*p.d-p.y<=0 by omega);have s2:=bV hA hK;have s3:0<=(-C)*(v.y*p.d-p.y):=by rw[nf];omega
  have hCn:C<=0:=by have:=nnl (by grind) s3;omega
  have s4:=mpn hDn (show u.y*q.d-q.y<=0 by omega);have s5:=mnn hCn (show v.y*q.d-q.y<=0 by omega);have hBn:B<=0:=npl hK (by omega);grind
 .refine fH λhn=> ?_;have hAn:A<=0:=by omega
  have s1:=mnn (show D<=0 by omega) (show u.y*p.d-p.y<=0 by omega);have s2:=mnp hAn (show 0<=K by omega);have hCn:0<=C:=nnl (show 0<v.y*p.d-p.y by omega) (by omega);have s4:=mnn (show D<=0 by omega) (show u.y*q.d-q.y<=0 by omega);have s5:=mpn hCn (show v.y*q.d-q.y<=0 by omega);have hBn:0<=B:=nnl hK (by omega);grind
def R5(hp:0<p.d)(hq:0<q.d)(hm:¬fX ⟨u,v⟩ p q)(a:p.y<u.y*p.d)(b:p.y<v.y*p.d)(c:u.y*q.d<=q.y)(d:q.y<v.y*q.d):
  0<ev (lin u v) q↔ev (ln p q) (pt u)<0:=by
 have i1:=Hj u v p q;have i2:=Hi u v p q;have hK:0<q.y*p.d-p.y*q.d:=by
  have e:q.y*p.d-p.y*q.d=(u.y*p.d-p.y)*q.d-(u.y*q.d-q.y)*p.d:=by grind
  have:=bV (show 0<u.y*p.d-p.y by omega) hq;have:=mnp (show u.y*q.d-q.y<=0 by omega) (show 0<=p.d by omega);omega
 have m1:= @yD u v p q;have m2:= @Bu u v p q;generalize ev (lin u v) p=A at*;generalize ev (lin u v) q=B at*;generalize ev (ln p q) (pt u)=C at*;generalize ev (ln p q) (pt v)=D at*;generalize q.y*p.d-p.y*q.d=K at*;constructor
 .intro hB;refine fH λhn=> ?_;have hC:0<=C:=by omega
  have s1:=bV hB hK;have s2:=mpp hC (show 0<=v.y*q.d-q.y by omega);have hD:D<0:=by
   rcases br D 0 with g|g
   .exact g
   .have:=mpn g (show u.y*q.d-q.y<=0 by omega);omega
  have s4:=mnp (show D<=0 by omega) (show 0<=u.y*p.d-p.y by omega);have s5:=mpp hC (show 0<=v.y*p.d-p.y by omega);have hA:A<=0:=npl hK (by omega);grind
 .intro hC;refine fH λhn=> ?_;have hB:B<=0:=by omega
  have s1:=mnp hB (show 0<=K by omega);have s3:=ma hC (show 0<v.y*q.d-q.y by omega);have hD:0<D:=by
   rcases br 0 D with g|g
   .exact g
   .have:=mnn g (show u.y*q.d-q.y<=0 by omega);omega
  have s4:=mpp (show 0<=D by omega) (show 0<=u.y*p.d-p.y by omega);have s5:=mnp (show C<=0 by omega) (show 0<=v.y*p.d-p.y by omega);have hA:0<=A:=nnl hK (by omega);grind
def mid(hp:0<p.d)(hq:0<q.d)(hm:¬fX ⟨u,v⟩ p q)(a:p.y<u.y*p.d)(b:p.y<v.y*p.d)(c:u.y*q.d<=q.y)(d:v.y*q.d<=q.y):
  ¬(ev (ln p q) (pt u)<0/\0<=ev (ln p q) (pt v)):=by
 rintro⟨hC,hD⟩;have i1:=Hj u v p q;have i2:=Hi u v p q;have hK:0<q.y*p.d-p.y*q.d:=by
  have e:q.y*p.d-p.y*q.d=(u.y*p.d-p.y)*q.d-(u.y*q.d-q.y)*p.d:=by grind
  have:=bV (show 0<u.y*p.d-p.y by omega) hq;have:=mnp (show u.y*q.d-q.y<=0 by omega) (show 0<=p.d by omega);omega
 have m1:= @yD u v p q;generalize ev (lin u v) p=A at*;generalize ev (lin u v) q=B at*;generalize ev (ln p q) (pt u)=C at*;have s1:=mpp hD (show 0<=u.y*p.d-p.y by omega);have s2:=mnp (show C<=0 by omega) (show 0<=v.y*p.d-p.y by omega);have hA:0<=A:=nnl hK (by omega);have s3:=mpn hD (show u.y*q.d-q.y<=0 by omega);have s4:=mnn (show C<=0 by omega) (show v.y*q.d-q.y<=0 by omega);have hB:B<=0:=npl hK (by omega);grind
def QA(hp:0<p.d)(hq:0<q.d)(hm:¬fX ⟨u,v⟩ p q)(a:u.y*p.d<=p.y)(b:p.y<v.y*p.d)(c:u.y*q.d<=q.y)(d:q.y<v.y*q.d):
  (0<ev (lin u v) p↔0<ev (lin u v) q):=by
 have j1:ev (lin u v) p*(q.y-u.y*q.d)-ev (lin u v) q*(p.y-u.y*p.d)= -(ev (ln p q) (pt u))*(v.y-u.y):=by unfold ev ln lin pt;grind
 have j2:ev (lin u v) p*(q.y-v.y*q.d)-ev (lin u v) q*(p.y-v.y*p.d)= -(ev (ln p q) (pt v))*(v.y-u.y):=by unfold ev ln lin pt;grind
 have hv:0<v.y-u.y:=by
  have h1:0<(v.y-u.y)*p.d:=by rw[Int.sub_mul];omega
  rcases br 0 (v.y-u.y)with g|g
  .exact g
  .have:=mnp g (show 0<=p.d by omega);omega
 have m1:= @yD u v p q;have m2:= @Bu u v p q;generalize ev (lin u v) p=A at*;generalize ev (lin u v) q=B at*;generalize ev (ln p q) (pt u)=C at*;generalize ev (ln p q) (pt v)=D at*;constructor
 .intro hA;refine fH λhn=> ?_;have hB:B<=0:=by omega
  have s1:=mpp (show 0<=A by omega) (show 0<=q.y-u.y*q.d by omega);have s2:=mnp hB (show 0<=p.y-u.y*p.d by omega);have hC:0<= -C:=nnl hv (by omega);have s3:=gm hA (show q.y-v.y*q.d<0 by omega);have s4:=mnn hB (show p.y-v.y*p.d<=0 by omega);have hD:0<=D:=nnl hv (by grind);grind
 .intro hB;refine fH λhn=> ?_;have hA:A<=0:=by omega
  have s1:=mnp hA (show 0<=q.y-u.y*q.d by omega);have s2:=mpp (show 0<=B by omega) (show 0<=p.y-u.y*p.d by omega);have hC:0<=C:=nnl hv (by grind);have s3:=mnn hA (show q.y-v.y*q.d<=0 by omega);have s4:=gm hB (show p.y-v.y*p.d<0 by omega);have hD:0<= -D:=nnl hv (by omega);grind
def ZY{r:P3}(hr:0<r.d)(h0:ev (lin u v) r=0)(h:dn r u≠dn r v):∃x y k:Int,0<=x/\0<=y/\0<x+y/\0<=k/\cmb x (pt u) y (pt v)=⟨k*r.x,k*r.y,k*r.d⟩:=by
 unfold dn at h;have hk:∀{a b:Int},a*r.d<b*r.d->0<=b-a:=λ{a b} g=>by have:=nnl (a:=b-a) hr (by grind);exact this
 unfold ev lin at h0;by_cases h1:u.y*r.d<=r.y<;>by_cases h2:v.y*r.d<=r.y
 .grind
 .refine⟨v.y*r.d-r.y,r.y-u.y*r.d,v.y-u.y,by omega,by omega,by omega,hk (by omega),?_⟩;unfold cmb pt;grind
 .refine⟨r.y-v.y*r.d,u.y*r.d-r.y,u.y-v.y,by omega,by omega,by omega,hk (by omega),?_⟩;unfold cmb pt;grind
 grind
def YN(hp:0<p.d)(hq:0<q.d)(hy:p.y*q.d<=q.y*p.d)(hm:¬fX ⟨u,v⟩ p q):(hit p ⟨u,v⟩ !=hit q ⟨u,v⟩)=(rgt p q u !=rgt p q v):=by
 have mono:∀w:V,dn p w=true->dn q w=true:=λw h=>by
  unfold dn at h|-;rw[decide_eq_true_eq]at h|-;have h1:=lz h (show 0<=q.d by omega);have h2:(w.y*q.d)*p.d<=q.y*p.d:=by rw[show w.y*q.d*p.d=w.y*p.d*q.d by grind];omega
  simp_all
 have hm':¬fX ⟨v,u⟩ p q:=λh=>hm h.swap;have dT:∀{r:P3} {w:V},dn r w=true->w.y*r.d<=r.y:=λh=>of_decide_eq_true h;have dF:∀{r:P3} {w:V},dn r w=false->r.y<w.y*r.d:=λh=>lD.1 (of_decide_eq_false h);have sw:∀r:P3,(0<ev (lin v u) r↔ev (lin u v) r<0):=λr=>by rw[ki];omega
 have nz:∀r:P3,(r=p\/r=q)->dn r u≠dn r v->ev (lin u v) r≠0:=λr hr hne h0=>by
  obtain⟨x,y,k,h1,h2,h3,h4,h5⟩:=ZY (by grind) h0 hne;rcases hr with rfl|rfl
  .exact hm ⟨x,y,k,0,h1,h2,h3,h4,jH _,by rw[h5];unfold cmb;simp⟩
  .exact hm ⟨x,y,0,k,h1,h2,h3,jH _,h4,by rw[h5];unfold cmb;simp⟩
 unfold hit rgt;cases a:dn p u<;>cases b:dn p v<;>cases c:dn q u<;>cases d:dn q v<;>simp only[H4,Bool.and_false,nT,Bool.false_and,bne_self_eq_false,yY,Bool.not_false,Bool.false_bne,Bool.bne_false,Bool.bne_true];all_goals have np:=nz p (.inl rfl)
 all_goals have nq:=nz q (.inr rfl)
 all_goals rw[a,b]at np
 all_goals rw[c,d]at nq
 all_goals have sp:=sw p
 all_goals have sq:=sw q
 case false.false.false.true=>
  have h:=R5 hp hq hm' (dF b) (dF a) (dT d) (dF c);grind
 case false.false.true.false=>
  have h:=R5 hp hq hm (dF a) (dF b) (dT c) (dF d);grind
 case false.false.true.true=>
  have h:=mid hp hq hm (dF a) (dF b) (dT c) (dT d);have h':=mid hp hq hm' (dF b) (dF a) (dT d) (dT c);grind
 case false.true.false.true=>
  have h:=QA hp hq hm' (dT b) (dF a) (dT d) (dF c);grind
 case true.false.true.false=>
  have h:=QA hp hq hm (dT a) (dF b) (dT c) (dF d);grind
 case false.true.true.true=>
  have h:=low hp hq hm' (dT b) (dF a) (dT d) (dT c);grind
 case true.false.true.true=>
  have h:=low hp hq hm (dT a) (dF b) (dT c) (dT d);grind
 case false.true.false.false=>grind
 case false.true.true.false=>grind
 case true.false.false.false=>grind
 case true.false.false.true=>grind
 case true.true.false.true=>grind
 grind
def Km{e:S}(hp:0<p.d)(hq:0<q.d)(hy:p.y*q.d<=q.y*p.d)(hm:¬fX e p q):(hit p e !=hit q e)=(rgt p q e.a !=rgt p q e.b):=YN hp hq hy hm
end
def cH(r:aH)(p:P3):Bool:=di ((aJ r).map (hit p))
def uT(f g:S->Bool):∀l:List S,di (l.map λe=>f e !=g e)=(di (l.map f) !=di (l.map g))
 |[] =>rfl
 |e::l=>by
  show((f e !=g e) !=di (l.map λe=>f e !=g e))=((f e !=di (l.map f)) !=(g e !=di (l.map g)));rw[uT f g l];cases f e<;>cases g e<;>cases di (l.map f)<;>cases di (l.map g)<;>rfl
def uM{r:aH}(h2:2<=r.length){p q:P3}(hp:0<p.d)(hq:0<q.d)(hm:∀e∈aJ r,¬fX e p q):cH r p=cH r q:=by
 have key:∀{p q:P3},0<p.d->0<q.d->p.y*q.d<=q.y*p.d->(∀e∈aJ r,¬fX e p q)->cH r p=cH r q:=by
  intro p q hp hq hy hm;have h1:di ((aJ r).map λe=>hit p e !=hit q e)=di ((aJ r).map λe=>rgt p q e.a !=rgt p q e.b):=by
   congr 1
   apply nZ;intro e he;exact Km hp hq hy (hm e he)
  rw[uT,uT,Eb h2]at h1;unfold cH;generalize di ((aJ r).map (hit p))=x at*;generalize di ((aJ r).map (hit q))=y at*;cases x<;>cases y<;>simp at h1|-
 rcases vT (p.y*q.d) (q.y*p.d)with h|h
 .grind
 .exact(key hq hp h λe he hm2=>hm e he hm2.flip).symm
def Lw(p:Pt):∀(l:List S) (ins:Bool),qK p l ins=(ins !=di (l.map λe=>dr e p))
 |[],ins=>by cases ins<;>rfl
 |e::l,ins=>by
  show qK p l (ins !=dr e p)=(ins !=(dr e p !=di (l.map λe=>dr e p)));rw[Lw p l];simp_all
def NL{p:Pt}:∀{l:List S} {ins:Bool},(∀e∈l,onP e p=false)->eQ p l ins=if qK p l ins then 2 else 0
 |[],ins,_=>rfl
 |e::l,ins,h=>by
  unfold eQ;rw[h e (by grind)];exact NL (l:=l) (ins:=ins !=dr e p) (by grind)
def p3(p:Pt):P3:=⟨p.x,p.y,p.den⟩
def Dt{r:aH}(hv:VR r){p:Pt}(hp:dK p=true)(ho:∀e∈aJ r,onP e p=false):bj r p=if cH r (p3 p)then 2 else 0:=by unfold bj;rw[(jZ _).2 hv,hp];show eQ p (aJ r) false=_;rw[NL ho,Lw];unfold cH p3;simp only[YP,Bool.false_bne]
end Geo
end
namespace Geo
def q7(h p:P3):ev ⟨-h.x,-h.y,-h.d⟩ p= -ev h p:=by unfold ev;grind
def BZ(k c:Int)(h p:P3):ev ⟨k*h.x,k*h.y,k*h.d+c⟩ p=k*ev h p+c*p.d:=by unfold ev;grind
def Ld{u v:V}{p q:P3}(hp:0<p.d)(hq:0<q.d)(h:P3)(hu:ev h (pt u)=0)(hv:ev h (pt v)=0)(h1:ev h p<0)(h2:ev h q<0):∃f:P3,ev f p<0/\ev f q<0/\0<ev f (pt u)/\0<ev f (pt v):=by
 refine⟨⟨(p.d+q.d)*h.x,(p.d+q.d)*h.y,(p.d+q.d)*h.d+1⟩,?_,?_,?_,?_⟩<;>rw[BZ]
 .have:=dg (show ev h p<= -1 by omega) (show 0<=p.d+q.d by omega);omega
 .have:=dg (show ev h q<= -1 by omega) (show 0<=p.d+q.d by omega);omega
 .rw[hu];show 0<(p.d+q.d)*0+1*1;omega
 .rw[hv];show 0<(p.d+q.d)*0+1*1;omega
def NJ{u v:V}{p q:P3}(hp:0<p.d)(hq:0<q.d)(h:P3)(h1:ev h p=0)(h2:ev h q=0)(hu:0<ev h (pt u))(hv:0<ev h (pt v)):∃f:P3,ev f p<0/\ev f q<0/\0<ev f (pt u)/\0<ev f (pt v):=by
 refine⟨⟨2*h.x,2*h.y,2*h.d+ -1⟩,?_,?_,?_,?_⟩<;>rw[BZ]
 .omega
 .omega
 .show 0<2*ev h (pt u)+ -1*1;omega
 .show 0<2*ev h (pt v)+ -1*1;omega
def ae(u v:V):P3:=⟨v.x-u.x,v.y-u.y,-((v.x-u.x)*u.x+(v.y-u.y)*u.y)⟩
def bm(u v:V):Int:=(v.x-u.x)*(v.x-u.x)+(v.y-u.y)*(v.y-u.y)
def kR(u v:V):ev (ae u v) (pt u)=0:=by unfold ev ae pt;grind
def ph(u v:V):ev (ae u v) (pt v)=bm u v:=by unfold ev ae pt bm;grind
def zd(x:Int):0<=x*x:=by
 rcases vT 0 x with h|h
 .exact mpp h h
 .exact mnn h h
def BK{x:Int}(h:x≠0):0<x*x:=by
 rcases mZ h with g|g
 .exact CT g g
 .exact bV g g
def il{u v:V}(h:u≠v):0<bm u v:=by
 unfold bm;have h1:=zd (v.x-u.x);have h2:=zd (v.y-u.y);by_cases hx:v.x-u.x=0
 .by_cases hy:v.y-u.y=0
  .exfalso;cases u;cases v;grind
  .have:=BK hy;omega
 .have:=BK hx;omega
def kh{u v:V}{r:P3}(h:ev (lin u v) r=0):cmb (bm u v*r.d-ev (ae u v) r) (pt u) (ev (ae u v) r) (pt v)=⟨bm u v*r.x,bm u v*r.y,bm u v*r.d⟩:=by unfold ev lin at h;unfold cmb ev ae pt bm;grind
def sep{u v:V}{p q:P3}(hp:0<p.d)(hq:0<q.d)(hne:u≠v)(hm:¬fX ⟨u,v⟩ p q):∃f:P3,ev f p<0/\ev f q<0/\0<ev f (pt u)/\0<ev f (pt v):=by
 have hd:=aDm u v p q;have m1:= @yD u v p q;have m2:= @Bu u v p q;have a1:=cK u v;have a2:=ci u v;have b1:=Fw p q;have b2:=Ax p q;have L:=il hne;have T1:=kR u v;have T2:=ph u v;by_cases c1:0<ev (lin u v) p/\0<ev (lin u v) q
 .exact Ld hp hq ⟨-(lin u v).x,-(lin u v).y,-(lin u v).d⟩ (by rw[q7];omega) (by rw[q7];omega) (by rw[q7];omega) (by rw[q7];omega)
 by_cases c2:ev (lin u v) p<0/\ev (lin u v) q<0
 .exact Ld hp hq (lin u v) a1 a2 c2.1 c2.2
 by_cases c3:0<ev (ln p q) (pt u)/\0<ev (ln p q) (pt v)
 .exact NJ hp hq (ln p q) b1 b2 c3.1 c3.2
 by_cases c4:ev (ln p q) (pt u)<0/\ev (ln p q) (pt v)<0
 .exact NJ hp hq ⟨-(ln p q).x,-(ln p q).y,-(ln p q).d⟩ (by rw[q7];omega) (by rw[q7];omega) (by rw[q7];omega) (by rw[q7];omega)
 have hz:ev (lin u v) p=0/\ev (lin u v) q=0:=by
  have q1:ev (lin u v) p=0\/0<ev (lin u v) p\/ev (lin u v) p<0:=by omega
  have q2:ev (lin u v) q=0\/0<ev (lin u v) q\/ev (lin u v) q<0:=by omega
  have e1:∀{x k:Int},0<k->0<x->0<x*k:=λh1 h2=>bV h2 h1;have e2:∀{x k:Int},0<k->x<0->x*k<0:=λh1 h2=>ma h2 h1;have p1:= @e1 (ev (lin u v) p) q.d hq;have p2:= @e2 (ev (lin u v) p) q.d hq;have p3:= @e1 (ev (lin u v) q) p.d hp;have p4:= @e2 (ev (lin u v) q) p.d hp;have z1:ev (lin u v) p=0->ev (lin u v) p*q.d=0:=λh=>by grind
  have z2:ev (lin u v) q=0->ev (lin u v) q*p.d=0:=λh=>by grind
  have m1:0<=ev (lin u v) p->ev (lin u v) q<=0->0<=ev (ln p q) (pt v)->ev (ln p q) (pt u)<=0->¬ev (ln p q) (pt u)<ev (ln p q) (pt v):=by grind
  have m2:ev (lin u v) p<=0->0<=ev (lin u v) q->ev (ln p q) (pt v)<=0->0<=ev (ln p q) (pt u)->¬ev (ln p q) (pt v)<ev (ln p q) (pt u):=by grind
  generalize ev (lin u v) p*q.d=AQ at*;generalize ev (lin u v) q*p.d=BP at*;rcases q1 with h|h|h<;>rcases q2 with g|g|g<;>simp only[h,g,true_implies]at p1 p2 p3 p4 z1 z2<;>omega
 have op:=kh hz.1;have oq:=kh hz.2;generalize hTp:ev (ae u v) p=Tp at*;generalize hTq:ev (ae u v) q=Tq at*;generalize bm u v=K at*;have np:Tp<0\/K*p.d<Tp:=by refine fH λhn=> ?_;have hKp:=bV L hp;refine hm ⟨_,_,K,0,show 0<=K*p.d-Tp by omega,show 0<=Tp by omega,by omega,by omega,by omega,?_⟩;rw[op];unfold cmb;simp only[P3.mk.injEq];refine⟨?_,?_,?_⟩<;>omega
 have nq:Tq<0\/K*q.d<Tq:=by refine fH λhn=> ?_;have hKq:=bV L hq;refine hm ⟨_,_,0,K,show 0<=K*q.d-Tq by omega,show 0<=Tq by omega,by omega,by omega,by omega,?_⟩;rw[oq];unfold cmb;simp only[P3.mk.injEq];refine⟨?_,?_,?_⟩<;>omega
 have hKp:=bV L hp;have hKq:=bV L hq;have nu:¬(Tp<0/\0<Tq)/\¬(0<Tp/\Tq<0):=by
  unfold cmb pt at op oq;simp only[P3.mk.injEq]at op oq;refine⟨λh=> ?_,λh=> ?_⟩
  .have x1:=bV h.2 hKp;have x2:=ma h.1 hKq;refine hm ⟨Tq*(K*p.d)-Tp*(K*q.d),0,K*Tq,-(K*Tp),by omega,by omega,by omega,mpp (by omega) (by omega),by rw[<-mf];exact mpp (by omega) (by omega),?_⟩;unfold cmb pt;grind
  .have x1:=bV h.1 hKq;have x2:=ma h.2 hKp;refine hm ⟨Tp*(K*q.d)-Tq*(K*p.d),0,-(K*Tq),K*Tp,by omega,by omega,by omega,by rw[<-mf];exact mpp (by omega) (by omega),mpp (by omega) (by omega),?_⟩;unfold cmb pt;grind
 have up:0<(p.d+q.d)*K:=by grind
 by_cases hb:Tp<0
 .refine⟨⟨(p.d+q.d)*(ae u v).x,(p.d+q.d)*(ae u v).y,(p.d+q.d)*(ae u v).d+1⟩,?_,?_,?_,?_⟩<;>rw[BZ]
  .rw[hTp];have:=dg (show Tp<= -1 by omega) (show 0<=p.d+q.d by omega);omega
  .rw[hTq];have:=dg (show Tq<= -1 by omega) (show 0<=p.d+q.d by omega);omega
  .rw[T1];show 0<(p.d+q.d)*0+1*1;omega
  .rw[T2];show 0<(p.d+q.d)*K+1*1;omega
 .have e1:∀r T:Int,(-(p.d+q.d))*T+((p.d+q.d)*K+1)*r=(p.d+q.d)*(K*r-T)+r:=by grind
  refine⟨⟨-(p.d+q.d)*(ae u v).x,-(p.d+q.d)*(ae u v).y,-(p.d+q.d)*(ae u v).d+((p.d+q.d)*K+1)⟩,?_,?_,?_,?_⟩<;>rw[BZ]
  .rw[hTp,e1];have:=dg (show K*p.d-Tp<= -1 by omega) (show 0<=p.d+q.d by omega);omega
  .rw[hTq,e1];have:=dg (show K*q.d-Tq<= -1 by omega) (show 0<=p.d+q.d by omega);omega
  .rw[T1,e1];show 0<(p.d+q.d)*(K*1-0)+1;grind
  .rw[T2,e1];show 0<(p.d+q.d)*(K*1-K)+1;omega
def fY(F:List P3)(e:S):Prop:=∀x y:Int,0<=x->0<=y->0<x+y->∃f∈F,x*ev f (pt e.a)+y*ev f (pt e.b)<=0
def In(F:List P3)(q:P3):Prop:=0<q.d/\∀f∈F,0<ev f q
def fY.no{F:List P3}{e:S}(h:fY F e){p q:P3}(hp:In F p)(hq:In F q):¬fX e p q:=by
 rintro⟨x,y,s,t,h1,h2,h3,h4,h5,h6⟩;obtain⟨f,hf,g⟩:=h x y h1 h2 h3;have e1:=congrArg (ev f) h6;rw[ao,ao]at e1;have e2:=congrArg P3.d h6;simp only[cmb,pt]at e2;have g1:=mpp h4 (show 0<=ev f p by have:=hp.2 f hf;omega);have g2:=mpp h5 (show 0<=ev f q by have:=hq.2 f hf;omega);rcases br 0 s with k|k
 .have:=bV k (hp.2 f hf);omega
 .rcases br 0 t with k2|k2
  .have:=bV k2 (hq.2 f hf);omega
  grind
def fY.swap{F:List P3}{e:S}(h:fY F e):fY F ⟨e.b,e.a⟩:=λx y h1 h2 h3=>by obtain⟨f,hf,g⟩:=h y x h2 h1 (by omega);grind
def mO(a b:V)(N:Int):P3:=⟨(ae a b).x-N*(lin a b).x,(ae a b).y-N*(lin a b).y,(ae a b).d-N*(lin a b).d⟩
def thin(a b:V)(N:Int):List P3:=[lin a b,mO a b N,⟨(ae b a).x-N*(lin a b).x,(ae b a).y-N*(lin a b).y,(ae b a).d-N*(lin a b).d⟩]
def lN(a b:V)(N:Int)(q:P3):ev (mO a b N) q=ev (ae a b) q-N*ev (lin a b) q:=by unfold ev mO;grind
def oI(a b:V)(N:Int)(q:P3):ev ⟨(ae b a).x-N*(lin a b).x,(ae b a).y-N*(lin a b).y,(ae b a).d-N*(lin a b).d⟩ q=ev (ae b a) q-N*ev (lin a b) q:=by unfold ev;grind
def lS{a b:V}{N:Int}{q:P3}:In (thin a b N) q↔0<q.d/\0<ev (lin a b) q/\N*ev (lin a b) q<ev (ae a b) q/\N*ev (lin a b) q<ev (ae b a) q:=by unfold In thin;simp only[bT,cn,or_false,forall_eq_or_imp,forall_eq,lN,oI];omega
def Off(a b:V)(e:S):Prop:=e.a≠e.b/\(¬fX e (pt a) (pt b)\/(e.a=a/\(ev (lin a b) (pt e.b)≠0\/ev (ae a b) (pt e.b)<0))\/(e.b=a/\(ev (lin a b) (pt e.a)≠0\/ev (ae a b) (pt e.a)<0))\/
 (e.a=b/\(ev (lin a b) (pt e.b)≠0\/ev (ae b a) (pt e.b)<0))\/(e.b=b/\(ev (lin a b) (pt e.a)≠0\/ev (ae b a) (pt e.a)<0)))
def frame(a b:V)(f q:P3):bm a b*ev f q=ev (ae b a) q*ev f (pt a)+ev (ae a b) q*ev f (pt b)+ev (lin a b) q*(f.y*(b.x-a.x)-f.x*(b.y-a.y)):=by unfold ev ae bm lin pt;grind
def Fv{F:List P3}{e:S}(h:∀x y:Int,0<=x->0<=y->0<x+y->(∀f∈F,0<x*ev f (pt e.a)+y*ev f (pt e.b))->False):fY F e:=λx y h1 h2 h3=>
 by grind
def XL{a b:V}(hne:a≠b){e:S}(he:e.a≠e.b)(h:¬fX e (pt a) (pt b)):∃N0:Int,∀N,N0<=N->fY (thin a b N) e:=by
 obtain⟨f,f1,f2,f3,f4⟩:=sep (u:=e.a) (v:=e.b) (p:=pt a) (q:=pt b) (show(0:Int)<1 by decide) (show(0:Int)<1 by decide) he h;refine⟨(f.y*(b.x-a.x)-f.x*(b.y-a.y)).natAbs,λN hN=>Fv λx y h1 h2 h3 hq=> ?_⟩;have hL:=il hne;have e1:∀g:P3,x*ev g (pt e.a)+y*ev g (pt e.b)=ev g (cmb x (pt e.a) y (pt e.b)):=λg=>(ao _ _ _ _ _).symm;have hfq:0<ev f (cmb x (pt e.a) y (pt e.b)):=by
  rw[<-e1];have g1:=mpp h1 (show 0<=ev f (pt e.a) by omega);have g2:=mpp h2 (show 0<=ev f (pt e.b) by omega);rcases br 0 x with k|k
  .have:=bV k f3;omega
  .have:=bV (show 0<y by omega) f4;omega
 have hT:In (thin a b N) (cmb x (pt e.a) y (pt e.b)):=⟨by simp only[cmb,pt];omega,by grind⟩;obtain⟨_,t1,t2,t3⟩:=lS.1 hT;have hF:=frame a b f (cmb x (pt e.a) y (pt e.b));generalize ev (lin a b) (cmb x (pt e.a) y (pt e.b))=X at*;generalize ev (ae a b) (cmb x (pt e.a) y (pt e.b))=T at*;generalize ev (ae b a) (cmb x (pt e.a) y (pt e.b))=T' at*;generalize f.y*(b.x-a.x)-f.x*(b.y-a.y)=c at*;have p1:=bV hL hfq;have hN0:0<=N*X:=mpp (by omega) (by omega);have p2:T'*ev f (pt a)<= -T':=by have:=dg (show ev f (pt a)<= -1 by omega) (show 0<=T' by omega);omega
 have p3:T*ev f (pt b)<= -T:=by have:=dg (show ev f (pt b)<= -1 by omega) (show 0<=T by omega);omega
 have p4:X*c<=N*X:=by rw[fx N];exact dg (by omega) (by omega)
 omega
def GK{a b:V}{e:S}(h:e.a=a):∃N0:Int,∀N,N0<=N->fY (thin a b N) e:=by
 refine⟨(ev (ae a b) (pt e.b)).natAbs,λN hN x y h1 h2 h3=> ?_⟩;rw[h];by_cases hX:0<y*ev (lin a b) (pt e.b)
 .refine⟨mO a b N,by simp[thin],?_⟩;have hv:0<ev (lin a b) (pt e.b):=by
   rcases br 0 (ev (lin a b) (pt e.b))with k|k
   .exact k
   .have:=mpn h2 k;omega
  rw[lN,lN,kR,cK];have k1:=dg (show 1<=ev (lin a b) (pt e.b) by omega) (show 0<=N by omega);have k2:=mpn h2 (show ev (ae a b) (pt e.b)-N*ev (lin a b) (pt e.b)<=0 by omega);omega
 .refine⟨lin a b,by simp[thin],?_⟩;rw[cK];omega
def GJ{a b:V}{e:S}(h:e.a=b):∃N0:Int,∀N,N0<=N->fY (thin a b N) e:=by
 refine⟨(ev (ae b a) (pt e.b)).natAbs,λN hN x y h1 h2 h3=> ?_⟩;rw[h];by_cases hX:0<y*ev (lin a b) (pt e.b)
 .refine⟨⟨(ae b a).x-N*(lin a b).x,(ae b a).y-N*(lin a b).y,(ae b a).d-N*(lin a b).d⟩,by simp[thin],?_⟩;have hv:0<ev (lin a b) (pt e.b):=by
   rcases br 0 (ev (lin a b) (pt e.b))with k|k
   .exact k
   .have:=mpn h2 k;omega
  rw[oI,oI,kR,ci];have k1:=dg (show 1<=ev (lin a b) (pt e.b) by omega) (show 0<=N by omega);have k2:=mpn h2 (show ev (ae b a) (pt e.b)-N*ev (lin a b) (pt e.b)<=0 by omega);omega
 .refine⟨lin a b,by simp[thin],?_⟩;rw[ci];omega
def XM{a b:V}(hne:a≠b){e:S}(h:Off a b e\/(e.a=a/\e.b=b)\/(e.a=b/\e.b=a)):∃N0:Int,∀N,N0<=N->fY (thin a b N) e:=by
 have sw:(∃N0:Int,∀N,N0<=N->fY (thin a b N) ⟨e.b,e.a⟩)->∃N0:Int,∀N,N0<=N->fY (thin a b N) e:=λ⟨N0,h⟩=>⟨N0,λN hN=>(h N hN).swap⟩;rcases h with⟨h0,h|h|h|h|h⟩|h|h
 .exact XL hne h0 h
 .exact GK h.1
 .exact sw (GK (e:=⟨e.b,e.a⟩) h.1)
 .exact GJ h.1
 .exact sw (GJ (e:=⟨e.b,e.a⟩) h.1)
 .exact GK h.1
 .exact GJ h.1
def LR{a b:V}(hne:a≠b):∀{l:List S},(∀e∈l,Off a b e\/(e.a=a/\e.b=b)\/(e.a=b/\e.b=a))->∃N0:Int,1<=N0/\∀N,N0<=N->∀e∈l,fY (thin a b N) e
 |[],_=>⟨1,by omega,by grind⟩
 |e::l,h=>by
  obtain⟨N0,h0,h1⟩:=LR hne (l:=l) (by grind);obtain⟨N1,h2⟩:=XM hne (h e cI);refine⟨max N0 N1,by omega,λN hN e' he=> ?_⟩;grind
def cl(a b:V)(M x y:Int):P3:=⟨M*(a.x+b.x)+x,M*(a.y+b.y)+y,2*M⟩
def Do(a b:V)(M x y:Int):ev (lin a b) (cl a b M x y)=(b.x-a.x)*y-(b.y-a.y)*x:=by unfold ev lin cl;grind
def Yp(a b:V)(M x y:Int):ev (ae a b) (cl a b M x y)=M*bm a b+((b.x-a.x)*x+(b.y-a.y)*y):=by unfold ev ae cl bm;grind
def Yo(a b:V)(M x y:Int):ev (ae b a) (cl a b M x y)=M*bm a b-((b.x-a.x)*x+(b.y-a.y)*y):=by unfold ev ae cl bm;grind
def AC(a b:V):bm b a=bm a b:=by unfold bm;grind
def DW(a b:V)(M x y:Int):cl b a M x y=cl a b M x y:=by unfold cl;grind
def n8{a b:V}(hne:a≠b){x y:Int}(h:0<(b.x-a.x)*y-(b.y-a.y)*x)(N:Int):∃M0:Int,1<=M0/\∀M,M0<=M->In (thin a b N) (cl a b M x y):=by have hL:=il hne;refine⟨1+(N*((b.x-a.x)*y-(b.y-a.y)*x)).natAbs+((b.x-a.x)*x+(b.y-a.y)*y).natAbs,by omega,λM hM=> ?_⟩;rw[lS,Do,Yp,Yo];have:=dg (show 1<=bm a b by omega) (show 0<=M by omega);refine⟨by show 0<2*M;omega,h,?_,?_⟩<;>omega
def Mt{g:S->Bool}{e:S}:∀{l:List S},l.Nodup->e∈l->g e=true->(∀e'∈l,e'≠e->g e'=false)->di (l.map g)=true
 |[],_,h,_,_=>by cases h
 |x::l,hn,h,h1,h2=>by
  rw[List.nodup_cons]at hn;have h0:∀{l:List S},(∀e'∈l,g e'=false)->di (l.map g)=false:=by
   intro l;induction l with
   |nil=>intro _;rfl
   |cons y l ih=>
    intro hh;show(g y !=di (l.map g))=false;grind
  show(g x !=di (l.map g))=true;rcases bT.1 h with rfl|h
  .grind
  .rw[h2 x (by grind) (by grind),Mt hn.2 h h1 (by grind)];rfl
def Wo{a b:V}{N:Int}(hN:0<=N){e:S}(ho:Off a b e)(h1:fY (thin a b N) e)(h2:fY (thin b a N) e){p q:P3}(hp:In (thin b a N) p)(hq:In (thin a b N) q):¬fX e p q:=by
 rintro⟨x,y,s,t,hx,hy,hxy,hs,ht,he⟩;obtain⟨p0,p1,p2,p3⟩:=lS.1 hp;obtain⟨q0,q1,q2,q3⟩:=lS.1 hq;have lsw:∀r:P3,ev (lin b a) r= -ev (lin a b) r:=λr=>ki a b r;rw[lsw]at p1 p2 p3;have ed:=congrArg P3.d he;simp only[cmb,pt]at ed;have eX:=congrArg (ev (lin a b)) he;have eA:=congrArg (ev (ae a b)) he;have eB:=congrArg (ev (ae b a)) he;rw[ao,ao]at eX eA eB;have hst:0<s\/0<t:=by
  refine fH λhn=> ?_;have:s=0:=by omega
  have:t=0:=by omega
  subst s t;omega
 have kpos:∀{u v:Int},0<u->0<v->0<s*u+t*v:=λ{u v} hu hv=>by
  have g1:=mpp hs (show 0<=u by omega);have g2:=mpp ht (show 0<=v by omega);rcases hst with k|k
  .have:=bV k hu;omega
  .have:=bV k hv;omega
 have nX:N*(-(ev (lin a b) p))= -(N*ev (lin a b) p):=by rw[mf]
 have nn:0<=N* -(ev (lin a b) p):=mpp hN (by omega);have nq:0<=N*ev (lin a b) q:=mpp hN (by omega);have hA:=kpos (u:=ev (ae a b) p) (v:=ev (ae a b) q) (by omega) (by omega);have hB:=kpos (u:=ev (ae b a) p) (v:=ev (ae b a) q) (by omega) (by omega);have hA1:=kpos (u:=ev (ae a b) p-N*ev (lin a b) p) (v:=ev (ae a b) q-N*ev (lin a b) q) (by omega) (by omega);have hB1:=kpos (u:=ev (ae b a) p-N*ev (lin a b) p) (v:=ev (ae b a) q-N*ev (lin a b) q) (by omega) (by omega);have hA2:=kpos (u:=ev (ae a b) p+N*ev (lin a b) p) (v:=ev (ae a b) q+N*ev (lin a b) q) (by omega) (by omega);have hB2:=kpos (u:=ev (ae b a) p+N*ev (lin a b) p) (v:=ev (ae b a) q+N*ev (lin a b) q) (by omega) (by omega);have z1:∀(g:P3),x*ev g (pt e.a)+y*ev g (pt e.b)=s*ev g p+t*ev g q:=λg=>by have:=congrArg (ev g) he;rw[ao,ao]at this;exact this
 rcases ye (x*ev (lin a b) (pt e.a)+y*ev (lin a b) (pt e.b)) 0 with hX|hX|hX
 .obtain⟨f,hf,g⟩:=h2 x y hx hy hxy;rw[z1]at g;simp only[thin,bT,cn,or_false]at hf;rcases hf with rfl|rfl|rfl
  .rw[lsw,lsw,mf,mf]at g;omega
  .rw[lN,lN,lsw,lsw,mf,mf,IA,IA]at g;omega
  .rw[oI,oI,lsw,lsw,mf,mf,IA,IA]at g;omega
 .rcases ho with⟨_,h|⟨h,g⟩|⟨h,g⟩|⟨h,g⟩|⟨h,g⟩⟩
  .have hne:a≠b:=by grind
   have hL:=il hne;have hz:ev (lin a b) (cmb x (pt e.a) y (pt e.b))=0:=by rw[ao];exact hX
   have oz:=kh hz;have hab:ev (ae b a) (cmb x (pt e.a) y (pt e.b))=bm a b*(cmb x (pt e.a) y (pt e.b)).d-ev (ae a b) (cmb x (pt e.a) y (pt e.b)):=by unfold ev ae bm;grind
   rw[ao,eB]at hab;rw[ao,eA]at oz hab;refine h ⟨bm a b*x,bm a b*y,bm a b*(cmb x (pt e.a) y (pt e.b)).d-(s*ev (ae a b) p+t*ev (ae a b) q),s*ev (ae a b) p+t*ev (ae a b) q,mpp (by omega) hx,mpp (by omega) hy,by have:=bV hL hxy;grind,by omega,by omega,?_⟩;rw[oz];unfold cmb;grind
  .rw[h,cK]at hX;rw[h,kR]at eA;have hy0:0<y:=by
    rcases br 0 y with k|k
    .exact k
    .grind
   have hv:ev (lin a b) (pt e.b)=0:=by
    have:y*ev (lin a b) (pt e.b)=0:=by omega
    rcases dt.1 this with k|k
    .omega
    .exact k
   have:=gm hy0 (show ev (ae a b) (pt e.b)<0 by omega);omega
  .rw[h,cK]at hX;rw[h,kR]at eA;have hy0:0<x:=by
    rcases br 0 x with k|k
    .exact k
    .grind
   have hv:ev (lin a b) (pt e.a)=0:=by
    have:x*ev (lin a b) (pt e.a)=0:=by omega
    rcases dt.1 this with k|k
    .omega
    .exact k
   have:=gm hy0 (show ev (ae a b) (pt e.a)<0 by omega);omega
  .rw[h,ci]at hX;rw[h,kR]at eB;have hy0:0<y:=by
    rcases br 0 y with k|k
    .exact k
    .grind
   have hv:ev (lin a b) (pt e.b)=0:=by
    have:y*ev (lin a b) (pt e.b)=0:=by omega
    rcases dt.1 this with k|k
    .omega
    .exact k
   have:=gm hy0 (show ev (ae b a) (pt e.b)<0 by omega);omega
  .rw[h,ci]at hX;rw[h,kR]at eB;have hy0:0<x:=by
    rcases br 0 x with k|k
    .exact k
    .grind
   have hv:ev (lin a b) (pt e.a)=0:=by
    have:x*ev (lin a b) (pt e.a)=0:=by omega
    rcases dt.1 this with k|k
    .omega
    .exact k
   have:=gm hy0 (show ev (ae b a) (pt e.a)<0 by omega);omega
 .obtain⟨f,hf,g⟩:=h1 x y hx hy hxy;rw[z1]at g;simp only[thin,bT,cn,or_false]at hf;rcases hf with rfl|rfl|rfl
  .omega
  .rw[lN,lN]at g;omega
  .rw[oI,oI]at g;omega
def flip{r:aH}(h2:2<=r.length)(hn:(aJ r).Nodup){a b:V}(hne:a≠b)(he:(⟨a,b⟩:S)∈aJ r){N:Int}(hN:0<=N)
  (ho:∀e∈aJ r,e≠⟨a,b⟩->Off a b e/\fY (thin a b N) e/\fY (thin b a N) e):∃p q:P3,In (thin b a N) p/\In (thin a b N) q/\cH r p≠cH r q:=by
 have sum:∀{p q:P3},0<p.d->0<q.d->p.y*q.d<=q.y*p.d->(∀e∈aJ r,e≠⟨a,b⟩->¬fX e p q)->((hit p ⟨a,b⟩ !=hit q ⟨a,b⟩) !=(rgt p q a !=rgt p q b))=true->cH r p≠cH r q:=by
  intro p q hp hq hy hm hab;have h1:=Mt (g:=λe=>(hit p e !=hit q e) !=(rgt p q e.a !=rgt p q e.b)) hn he hab λe he hne=>by rw[Km hp hq hy (hm e he hne)];grind
  rw[uT,uT,uT,Eb h2]at h1;unfold cH;generalize di ((aJ r).map (hit p))=x at*;generalize di ((aJ r).map (hit q))=y at*;cases x<;>cases y<;>simp at h1|-
 have off:∀{p q:P3},In (thin b a N) p->In (thin a b N) q->∀e∈aJ r,e≠⟨a,b⟩->¬fX e p q:=λhp hq e he hne=>Wo hN (ho e he hne).1 (ho e he hne).2.1 (ho e he hne).2.2 hp hq;have hdn:∀(M x y:Int) (w:V),dn (cl a b M x y) w=decide (w.y*(2*M)<=M*(a.y+b.y)+y):=λ_ _ _ _=>rfl;have hln:∀(M:Int) (w:V),ev (ln (cl a b M 0 (-1)) (cl a b M 0 1)) (pt w)=2*M*(a.x+b.x-2*w.x):=λM w=>by unfold ev ln cl pt;grind
 have horiz:∀M:Int,1<=M->a.y=b.y->a.x≠b.x->((hit (cl a b M 0 (-1)) ⟨a,b⟩ !=hit (cl a b M 0 1) ⟨a,b⟩) !=(rgt (cl a b M 0 (-1)) (cl a b M 0 1) a !=rgt (cl a b M 0 (-1)) (cl a b M 0 1) b))=true:=by
  intro M hM hy hx;have e1:M*(a.y+b.y)=a.y*(2*M):=by rw[<-hy];grind
  have e2:M*(a.y+b.y)=b.y*(2*M):=by rw[hy];grind
  have a1:dn (cl a b M 0 (-1)) a=false:=by rw[hdn];grind
  have a2:dn (cl a b M 0 (-1)) b=false:=by rw[hdn];grind
  have a3:dn (cl a b M 0 1) a=true:=by rw[hdn];grind
  have a4:dn (cl a b M 0 1) b=true:=by rw[hdn];grind
  unfold hit rgt;dsimp only;rw[a1,a2,a3,a4,hln,hln];rcases mZ hx with hx|hx
  .have p1:=bV (show 0<2*M by omega) (show 0<a.x+b.x-2*a.x by omega);grind
  .have p1:=gm (show 0<2*M by omega) (show a.x+b.x-2*a.x<0 by omega);grind
 have ydec:∀M:Int,1<=M->(cl a b M 0 (-1)).y*(cl a b M 0 1).d<=(cl a b M 0 1).y*(cl a b M 0 (-1)).d:=λM hM=>by unfold cl;grind
 have vert:∀M x:Int,1<=M->a.y≠b.y->0<(b.x-a.x)*0-(b.y-a.y)*x->((hit (cl a b M (-x) 0) ⟨a,b⟩ !=hit (cl a b M x 0) ⟨a,b⟩) !=(rgt (cl a b M (-x) 0) (cl a b M x 0) a !=rgt (cl a b M (-x) 0) (cl a b M x 0) b))=true:=by
  intro M x hM hy hx;have hne':dn (cl a b M x 0) a≠dn (cl a b M x 0) b:=by
   rw[hdn,hdn];have e1:M*(a.y+b.y)-a.y*(2*M)=M*(b.y-a.y):=by grind
   have e2:M*(a.y+b.y)-b.y*(2*M)=M*(a.y-b.y):=by grind
   rcases mZ hy with h|h
   .have p1:=bV (show 0<M by omega) (show 0<b.y-a.y by omega);grind
   .have p1:=gm (show 0<M by omega) (show b.y-a.y<0 by omega);grind
  have same:∀w,dn (cl a b M (-x) 0) w=dn (cl a b M x 0) w:=λw=>by rw[hdn,hdn]
  unfold hit rgt;dsimp only;rw[same,same,Do,Do];rw[decide_eq_true hx,decide_eq_false (by grind)];revert hne';cases dn (cl a b M x 0) a<;>cases dn (cl a b M x 0) b<;>simp
 have hne2:b≠a:=by grind
 by_cases hy:a.y=b.y
 .have hx:a.x≠b.x:=λhx=>hne (by cases a;simp_all);rcases mZ hx with hx'|hx'
  .obtain⟨M0,hM,hI⟩:=n8 hne (x:=0) (y:=1) (by omega) N;obtain⟨M1,hM1,hI1⟩:=n8 hne2 (x:=0) (y:= -1) (by omega) N;have i1:=hI (max M0 M1) (by omega);have i2:=hI1 (max M0 M1) (by omega);rw[DW]at i2;exact⟨_,_,i2,i1,sum i2.1 i1.1 (ydec _ (by omega)) (off i2 i1) (horiz _ (by omega) hy hx)⟩
  .obtain⟨M0,hM,hI⟩:=n8 hne (x:=0) (y:= -1) (by omega) N;obtain⟨M1,hM1,hI1⟩:=n8 hne2 (x:=0) (y:=1) (by omega) N;have i1:=hI (max M0 M1) (by omega);have i2:=hI1 (max M0 M1) (by omega);rw[DW]at i2;exact⟨_,_,i2,i1,λh=>sum i1.1 i2.1 (ydec _ (by omega)) (λe he hne hm=>off i2 i1 e he hne hm.flip) (horiz _ (by omega) hy hx) h.symm⟩
 .have go:∀x:Int,0<(b.x-a.x)*0-(b.y-a.y)*x->∃p q:P3,In (thin b a N) p/\In (thin a b N) q/\cH r p≠cH r q:=by intro x hx;obtain⟨M0,hM,hI⟩:=n8 hne (x:=x) (y:=0) hx N;obtain⟨M1,hM1,hI1⟩:=n8 hne2 (x:= -x) (y:=0) (by grind) N;have i1:=hI (max M0 M1) (by omega);have i2:=hI1 (max M0 M1) (by omega);rw[DW]at i2;exact⟨_,_,i2,i1,sum i2.1 i1.1 (jH _) (off i2 i1) (vert _ _ (by omega) hy hx)⟩
  rcases mZ hy with h|h
  .exact go (-1) (by omega)
  .exact go 1 (by omega)
end Geo
section
namespace Geo
structure Net(W:List V)(side:V->V->Prop):Prop where
 symm:∀{a b},side a b->side b a
 ne:∀{a b},side a b->a≠b
 mem:∀{a b},side a b->a∈W
 clear:∀{a b v},side a b->v∈W->∀s t k:Int,0<=s->0<=t->cmb s (pt a) t (pt b)=cmb k (pt v) 0 (pt v)->0<k->v=a\/v=b
 apart:∀{a b c d},side a b->side c d->∀x y s t:Int,0<x->0<y->0<s->0<t->cmb x (pt a) y (pt b)=cmb s (pt c) t (pt d)->(a=c/\b=d)\/(a=d/\b=c)
def kj(x y:Int)(p q:P3):cmb x p y q=cmb y q x p:=by unfold cmb;grind
def vG{F G z g:P3}(h1:0<ev F z)(h2:0<ev G z)(h:ev F g<0\/ev G g<0):
  ∃s t:Int,0<s/\0<t/\((ev F (cmb s z t g)=0/\0<=ev G (cmb s z t g))\/(ev G (cmb s z t g)=0/\0<=ev F (cmb s z t g))):=by
 have i1:ev F (cmb (-(ev F g)) z (ev F z) g)=0:=by rw[ao,nf,fx];omega
 have i2:ev G (cmb (-(ev G g)) z (ev G z) g)=0:=by rw[ao,nf,fx];omega
 have i3:ev G (cmb (-(ev F g)) z (ev F z) g)= -ev F (cmb (-(ev G g)) z (ev G z) g):=by rw[ao,ao,nf,nf,fx (ev F z),fx (ev G z)];rw[fx (ev F g),fx (ev G g)];omega
 by_cases hF:ev F g<0
 .by_cases hG:0<=ev G (cmb (-(ev F g)) z (ev F z) g)
  .grind
  .have hg:ev G g<0:=by rw[ao]at hG;refine lD.1 λhn=>hG ?_;have:=mpp (show 0<= -(ev F g) by omega) (show 0<=ev G z by omega);have:=mpp (show 0<=ev F z by omega) hn;omega
   grind
 .refine⟨_,_,by omega,h2,.inr ⟨i2,?_⟩⟩;rw[ao];have:=mpp (show 0<= -(ev G g) by omega) (show 0<=ev F z by omega);have:=mpp (show 0<=ev G z by omega) (show 0<=ev F g by omega);omega
def SC(a b c:V)(f q:P3):ev (lin a b) (pt c)*ev f q=ev (lin b c) q*ev f (pt a)+ev (lin c a) q*ev f (pt b)+ev (lin a b) q*ev f (pt c):=by unfold ev lin pt;grind
def FG(a b c:V)(q:P3):ev (lin a b) (pt c)*q.d=ev (lin b c) q+ev (lin c a) q+ev (lin a b) q:=by unfold ev lin pt;grind
def qv{a b c:V}{q:P3}(h:ev (lin a b) q=0):cmb (ev (lin b c) q) (pt a) (ev (lin c a) q) (pt b)=⟨ev (lin a b) (pt c)*q.x,ev (lin a b) (pt c)*q.y,ev (lin a b) (pt c)*q.d⟩:=by unfold ev lin at h;unfold cmb ev lin pt;grind
def iG(a b c:V):ev (lin b c) (pt a)=ev (lin a b) (pt c):=by unfold ev lin pt;grind
def uP{a b:V}{s t:Int}(ht:0<t)(h:cmb s (pt a) t (pt b)=cmb (s+t) (pt a) 0 (pt a)):b=a:=by
 unfold cmb pt at h;simp only[P3.mk.injEq]at h;have e1:t*(b.x-a.x)=0:=by grind
 have e2:t*(b.y-a.y)=0:=by grind
 cases a;cases b;rcases dt.1 e1 with k|k<;>rcases dt.1 e2 with k2|k2<;>first|omega|grind
section
variable {W:List V} {side:V->V->Prop}
def Net.same(H:Net W side){a b u v:V}(hab:side a b)(huv:side u v){x y s t:Int}(hx:0<x)(hy:0<y)(hs:0<=s)(ht:0<=t)(h:cmb x (pt u) y (pt v)=cmb s (pt a) t (pt b)):
  (u=a/\v=b)\/(u=b/\v=a):=by
 have hd:=congrArg P3.d h;simp only[cmb,pt]at hd;rcases br 0 s with hs'|hs'
 .rcases br 0 t with ht'|ht'
  .exact H.apart huv hab x y s t hx hy hs' ht' h
  .have t0:t=0:=by omega
   subst t0;have h':cmb x (pt u) y (pt v)=cmb s (pt a) 0 (pt a):=by rw[h];unfold cmb;simp
   rcases H.clear huv (H.mem hab) x y s (by omega) (by omega) h' hs' with e|e
   .exfalso;subst e;have:=uP (a:=a) (b:=v) (s:=x) hy (by grind);exact H.ne huv this.symm
   .exfalso;subst e;have:=uP (a:=a) (b:=u) (s:=y) hx (by rw[kj,h'];grind);exact H.ne huv this
 .have s0:s=0:=by omega
  subst s0;have h':cmb x (pt u) y (pt v)=cmb t (pt b) 0 (pt b):=by rw[h];unfold cmb;simp
  rcases H.clear huv (H.mem (H.symm hab)) x y t (by omega) (by omega) h' (by omega)with e|e
  .exfalso;subst e;have:=uP (a:=b) (b:=v) (s:=x) hy (by grind);exact H.ne huv this.symm
  .exfalso;subst e;have:=uP (a:=b) (b:=u) (s:=y) hx (by rw[kj,h'];grind);exact H.ne huv this
structure Corner(W:List V)(side:V->V->Prop)(a b c:V)(h:Int):Prop where
 ab:side a b
 ac:side a c
 left:0<ev (lin a b) (pt c)
 none:∀x,side a x->¬(0<ev (lin a b) (pt x)/\0<ev (lin c a) (pt x))
 low:0<=h
 top:∀w∈W,w≠a->0<=ev (lin a b) (pt w)->0<=ev (lin c a) (pt w)->ev (lin b c) (pt w)<=h
def over(b c:V)(h:Int):P3:=⟨(lin b c).x,(lin b c).y,(lin b c).d-h⟩
def lT(b c:V)(h:Int)(q:P3):ev (over b c h) q=ev (lin b c) q-h*q.d:=by unfold ev over;grind
def Corner.free(H:Net W side){a b c:V}{h:Int}(K:Corner W side a b c h){u v:V}(huv:side u v):fY [lin a b,lin c a,over b c h] ⟨u,v⟩:=by
 have key:∀{u v:V},side u v->∀x y:Int,0<=x->0<=y->0<x+y->0<ev (lin a b) (cmb x (pt u) y (pt v))->0<ev (lin c a) (cmb x (pt u) y (pt v))->0<ev (over b c h) (cmb x (pt u) y (pt v))->0<ev (over b c h) (pt u)->0<x->False:=by
  intro u v huv x y hx hy hxy h1 h2 h3 h4 hx0;have hη:0<ev (lin b c) (pt u):=by rw[lT]at h4;have:=K.low;simp only[pt]at h4|-;omega
  by_cases hin:0<=ev (lin a b) (pt u)/\0<=ev (lin c a) (pt u)
  .by_cases hua:u=a
   .subst hua;have:=K.none v huv;rw[ao,cK]at h1;rw[ao,ci]at h2;refine this ⟨?_,?_⟩
    .rcases br 0 (ev (lin u b) (pt v))with g|g
     .exact g
     .have:=mpn hy g;omega
    .rcases br 0 (ev (lin c u) (pt v))with g|g
     .exact g
     .have:=mpn hy g;omega
   .have:=K.top u (H.mem huv) hua hin.1 hin.2;rw[lT]at h4;simp only[pt]at h4 this;omega
  .obtain⟨s,t,hs,ht,hp⟩:=vG (F:=lin a b) (G:=lin c a) (z:=cmb x (pt u) y (pt v)) (g:=pt u) h1 h2 (by omega);have hover:0<ev (over b c h) (cmb s (cmb x (pt u) y (pt v)) t (pt u)):=by rw[ao];have:=bV hs h3;have:=bV ht h4;omega
   have hd:0<(cmb s (cmb x (pt u) y (pt v)) t (pt u)).d:=by simp only[cmb,pt];have:=bV hs hxy;grind
   have hη2:0<ev (lin b c) (cmb s (cmb x (pt u) y (pt v)) t (pt u)):=by rw[lT]at hover;have:=mpp K.low (show 0<=(cmb s (cmb x (pt u) y (pt v)) t (pt u)).d by omega);omega
   have hy0:0<y:=by
    rcases br 0 y with g|g
    .exact g
    .have:y=0:=by omega
     subst y;rw[ao]at h1 h2;exfalso;apply hin;refine⟨?_,?_⟩
     .rcases br (ev (lin a b) (pt u)) 0 with g|g
      .have:=gm hx0 g;omega
      .exact g
     .rcases br (ev (lin c a) (pt u)) 0 with g|g
      .have:=gm hx0 g;omega
      .exact g
   have exp:cmb s (cmb x (pt u) y (pt v)) t (pt u)=cmb (s*x+t) (pt u) (s*y) (pt v):=by unfold cmb;simp only[P3.mk.injEq];refine⟨?_,?_,?_⟩<;>grind
   have w1:0<s*x+t:=by have:=bV hs hx0;omega
   have w2:0<s*y:=bV hs hy0;rw[exp]at hp hη2;have D:=K.left;have sc:∀{q:P3} {p1 p2:V} {m n:Int},cmb m (pt p1) n (pt p2)=⟨ev (lin a b) (pt c)*q.x,ev (lin a b) (pt c)*q.y,ev (lin a b) (pt c)*q.d⟩->∀{X Y:Int},q=cmb X (pt u) Y (pt v)->cmb (ev (lin a b) (pt c)*X) (pt u) (ev (lin a b) (pt c)*Y) (pt v)=cmb m (pt p1) n (pt p2):=by intro q p1 p2 m n hq X Y hXY;rw[hq,hXY];unfold cmb;simp only[P3.mk.injEq];refine⟨?_,?_,?_⟩<;>grind
   rcases hp with⟨g1,g2⟩|⟨g1,g2⟩
   .have:=sc (qv (c:=c) g1) rfl;rcases H.same K.ab huv (bV D w1) (bV D w2) (by omega) g2 this with⟨rfl,rfl⟩|⟨rfl,rfl⟩
    .rw[ao,cK,ci]at h1;omega
    .rw[ao,cK,ci]at h1;omega
   .have e0:ev (lin c a) (pt b)=ev (lin a b) (pt c):=(iG b c a).symm▸by rw[iG]
    have:=qv (a:=c) (b:=a) (c:=b) g1;rw[e0]at this;have:=sc this rfl;rcases H.same (H.symm K.ac) huv (bV D w1) (bV D w2) g2 (by omega) this with⟨rfl,rfl⟩|⟨rfl,rfl⟩
    .rw[ao,cK,ci]at h2;omega
    .rw[ao,cK,ci]at h2;omega
 refine Fv λx y hx hy hxy hq=> ?_;have e1:∀g:P3,x*ev g (pt u)+y*ev g (pt v)=ev g (cmb x (pt u) y (pt v)):=λg=>(ao _ _ _ _ _).symm;simp only[bT,cn,or_false,forall_eq_or_imp,forall_eq,e1]at hq;obtain⟨h1,h2,h3⟩:=hq;have h3':=h3;rw[ao]at h3';by_cases hu:0<x*ev (over b c h) (pt u)
 .have hx0:0<x:=by
   rcases br 0 x with g|g
   .exact g
   .grind
  refine key huv x y hx hy hxy h1 h2 h3 ?_ hx0;rcases br 0 (ev (over b c h) (pt u))with g|g
  .exact g
  .have:=mpn hx g;omega
 .have hy0:0<y:=by
   rcases br 0 y with g|g
   .exact g
   .grind
  rw[kj]at h1 h2 h3;refine key (H.symm huv) y x hy hx (by omega) h1 h2 h3 ?_ hy0;rcases br 0 (ev (over b c h) (pt v))with g|g
  .exact g
  .have:=mpn hy g;omega
end
end Geo
end
section
namespace Geo
structure Filled(W:List V)(side:V->V->Prop)(ins:P3->Bool):Prop where
 net:Net W side
 same:∀p q:P3,0<p.d->0<q.d->(∀u v,side u v->¬fX ⟨u,v⟩ p q)->ins p=ins q
 max:∀u∈W,∀w∈W,u≠w->(∀c d,side c d->∀x y s t:Int,0<=x->0<=y->0<s->0<t->cmb x (pt c) y (pt d)≠cmb s (pt u) t (pt w))->ins (cmb 1 (pt u) 1 (pt w))=true->side u w
 far:∃B:Int,0<=B/\∀q:P3,0<q.d->(B*q.d<q.x\/q.x< -(B*q.d)\/B*q.d<q.y\/q.y< -(B*q.d))->ins q=false
def Lft(ins:P3->Bool)(a b:V):Prop:=∃N0:Int,∀N,N0<=N->∀q,In (thin a b N) q->ins q=true
def Bb{α:Type}(f:α->Int):∀{l:List α},l≠[]->∃x∈l,∀y∈l,f y<=f x
 |[],h=>absurd rfl h
 |[x],_=>⟨x,by grind,by grind⟩
 |x::y::l,_=>by
  obtain⟨z,hz,h⟩:=Bb f (l:=y::l) (by simp);grind
section
variable {W:List V} {side:V->V->Prop} {ins:P3->Bool}
def Filled.const(H:Filled W side ins){F:List P3}(hF:∀u v,side u v->fY F ⟨u,v⟩){p q:P3}(hp:In F p)(hq:In F q):ins p=ins q:=
 H.same p q hp.1 hq.1 λu v huv=>(hF u v huv).no hp hq
def Lft.near{a b c:V}(hne:a≠b)(hL:Lft ins a b)(hc:0<ev (lin a b) (pt c)){h:Int}(hh:h<ev (lin a b) (pt c)):
  ∃q,In [lin a b,lin c a,over b c h] q/\ins q=true:=by
 obtain⟨N0,hN⟩:=hL;have hL2:=il hne;have e9:(b.x-a.x)*(b.x-a.x)-(b.y-a.y)* -(b.y-a.y)=bm a b:=by unfold bm;grind
 obtain⟨M0,hM0,hI⟩:=n8 hne (x:= -(b.y-a.y)) (y:=b.x-a.x) (by omega) (max N0 0);have e1:∀M:Int,ev (lin c a) (cl a b M (-(b.y-a.y)) (b.x-a.x))=M*ev (lin a b) (pt c)+ev (lin c a) ⟨-(b.y-a.y),b.x-a.x,0⟩:=λM=>by unfold ev lin cl pt;grind
 generalize hk:ev (lin c a) ⟨-(b.y-a.y),b.x-a.x,0⟩=k at e1;have hP:=hI (M0+k.natAbs) (by omega);have hβ:0<ev (lin c a) (cl a b (M0+k.natAbs) (-(b.y-a.y)) (b.x-a.x)):=by rw[e1];have:=dg (show 1<=ev (lin a b) (pt c) by omega) (show 0<=M0+(k.natAbs:Int) by omega);omega
 generalize cl a b (M0+k.natAbs) (-(b.y-a.y)) (b.x-a.x)=P at*;obtain⟨p0,p1,p2,p3⟩:=lS.1 hP;have e0:ev (lin b c) (pt a)=ev (lin a b) (pt c):=iG a b c;refine⟨cmb (1+(ev (over b c h) P).natAbs) (pt a) 1 P,⟨by simp only[cmb,pt];omega,?_⟩,hN (max N0 0) (by omega) _ ?_⟩
 .simp only[bT,cn,or_false,forall_eq_or_imp,forall_eq];refine⟨?_,?_,?_⟩
  .rw[ao,cK];omega
  .rw[ao,ci];omega
  .rw[ao];have ho:1<=ev (over b c h) (pt a):=by rw[lT,e0];show 1<=ev (lin a b) (pt c)-h*1;omega
   have:=dg ho (show 0<=1+((ev (over b c h) P).natAbs:Int) by omega);omega
 .rw[lS,ao,ao,ao,cK,kR,ph,AC];have g1:=mpp (show 0<=1+((ev (over b c h) P).natAbs:Int) by omega) (show 0<=bm a b by omega);have g2:max N0 0*(1*ev (lin a b) P)=max N0 0*ev (lin a b) P:=by rw[IB]
  refine⟨by simp only[cmb,pt];omega,by omega,?_,?_⟩<;>rw[eL,vY]at* <;>omega
def aAP{u v b c:V}{D p q r s:Int}(hD:D≠0)(g1:cmb p (pt b) q (pt c)=⟨D*u.x,D*u.y,D⟩)(g2:cmb r (pt b) s (pt c)=⟨D*v.x,D*v.y,D⟩):
  cmb r (pt u) (-p) (pt v)=cmb (q-s) (pt c) 0 (pt c)/\cmb (-s) (pt u) q (pt v)=cmb (q-s) (pt b) 0 (pt b):=by
 unfold cmb pt at*;simp only[P3.mk.injEq]at*;refine⟨⟨?_,?_,by omega⟩,⟨?_,?_,by omega⟩⟩<;>(apply mg hD;grind)
def ear(H:Filled W side ins){a b c:V}(hab:side a b)(hac:side a c)(hc:0<ev (lin a b) (pt c))(hn:∀x,side a x->¬(0<ev (lin a b) (pt x)/\0<ev (lin c a) (pt x)))(hL:Lft ins a b):
  (∀w∈W,0<=ev (lin a b) (pt w)->0<=ev (lin b c) (pt w)->0<=ev (lin c a) (pt w)->w=a\/w=b\/w=c)/\
  (∀u v,side u v->fY [lin a b,lin c a,over b c 0] ⟨u,v⟩)/\(∀q,In [lin a b,lin c a,over b c 0] q->ins q=true)/\side b c:=by
 have N:=H.net;have hne:=N.ne hab;by_cases hE:W.filter (λw=>decide (0<=ev (lin a b) (pt w))&&decide (0<=ev (lin b c) (pt w))&&decide (0<=ev (lin c a) (pt w))&&decide (w≠a)&&decide (w≠b)&&decide (w≠c))=[]
 case neg=>
  exfalso;obtain⟨w,hw,hmax⟩:=Bb (λw=>ev (lin b c) (pt w)) hE;simp only[iX,bw,decide_eq_true_eq]at hw hmax;obtain⟨hwW,⟨⟨⟨⟨⟨w1,w2⟩,w3⟩,w4⟩,w5⟩,w6⟩⟩:=hw;have K:Corner W side a b c (ev (lin b c) (pt w)):=by
   refine⟨hab,hac,hc,hn,w2,λw' hw' ha h1 h2=> ?_⟩;by_cases h3:ev (lin b c) (pt w')<=0
   .omega
   .refine hmax w' ⟨hw',⟨⟨⟨⟨⟨h1,by omega⟩,h2⟩,ha⟩,?_⟩,?_⟩⟩
    .rintro rfl;rw[cK]at h3;omega
    .rintro rfl;rw[ci]at h3;omega
  have bs:=FG a b c (pt w);have α0:ev (lin a b) (pt w)≠0:=λh0=>by
   have hb:=qv (c:=c) h0;rcases N.clear hab hwW (ev (lin b c) (pt w)) (ev (lin c a) (pt w)) (ev (lin a b) (pt c)) w2 w3 (by rw[hb];unfold cmb;simp) hc with e|e
   .exact w4 e
   .exact w5 e
  have β0:ev (lin c a) (pt w)≠0:=λh0=>by
   have hb:=qv (a:=c) (b:=a) (c:=b) h0;have e0:ev (lin c a) (pt b)=ev (lin a b) (pt c):=by unfold ev lin pt;grind
   rw[e0]at hb;rcases N.clear (N.symm hac) hwW (ev (lin a b) (pt w)) (ev (lin b c) (pt w)) (ev (lin a b) (pt c)) w1 w2 (by rw[hb];unfold cmb;simp) hc with e|e
   .exact w6 e
   .exact w4 e
  simp only[pt]at bs;have hlt:ev (lin b c) (pt w)<ev (lin a b) (pt c):=by simp only[pt]at*;omega
  have hfree:∀u v,side u v->fY _ ⟨u,v⟩:=λu v huv=>K.free N huv;have hin:∀s t:Int,0<s->0<t->In [lin a b,lin c a,over b c (ev (lin b c) (pt w))] (cmb s (pt a) t (pt w)):=by
   intro s t hs ht;refine⟨by simp only[cmb,pt];omega,?_⟩;simp only[bT,cn,or_false,forall_eq_or_imp,forall_eq];refine⟨?_,?_,?_⟩
   .rw[ao,cK];have:=bV ht (show 0<ev (lin a b) (pt w) by omega);omega
   .rw[ao,ci];have:=bV ht (show 0<ev (lin c a) (pt w) by omega);omega
   .rw[ao,lT,lT,iG];have e1:ev (lin b c) (pt w)-ev (lin b c) (pt w)*(pt w).d=0:=by simp only[pt];omega
    have:=bV hs (show 0<ev (lin a b) (pt c)-ev (lin b c) (pt w)*(pt a).d by simp only[pt]at*;omega);simp_all
  obtain⟨q,hq,hqi⟩:=hL.near hne hc hlt;have hmid:ins (cmb 1 (pt a) 1 (pt w))=true:=by rw[H.const hfree (hin 1 1 (by omega) (by omega)) hq];exact hqi
  have haw:=H.max a (N.mem hab) w hwW (λe=>w4 e.symm) (λc' d' hcd x y s t hx hy hs ht he=>by obtain⟨f,hf,g⟩:=hfree c' d' hcd x y hx hy (by have:=congrArg P3.d he;simp only[cmb,pt]at this;omega);have:=(hin s t hs ht).2 f hf;rw[<-he,ao]at this;grind) hmid
  grind
 case pos=>
  have hv:∀w∈W,0<=ev (lin a b) (pt w)->0<=ev (lin b c) (pt w)->0<=ev (lin c a) (pt w)->w=a\/w=b\/w=c:=by
   intro w hw h1 h2 h3;refine fH λhne'=> ?_;have:w∈([] :List V):=by rw[<-hE];simp only[iX,bw,decide_eq_true_eq];refine⟨hw,⟨⟨⟨⟨⟨h1,h2⟩,h3⟩,?_⟩,?_⟩,?_⟩⟩<;>intro e<;>exact hne' (by simp[e])
   cases this
  have K:Corner W side a b c 0:=by
   refine⟨hab,hac,hc,hn,jH _,λw' hw' ha h1 h2=> ?_⟩;refine Ca.1 λh3=> ?_;rcases hv w' hw' h1 (by omega) h2 with e|e|e
   .exact ha e
   .rw[e,cK]at h3;omega
   .rw[e,ci]at h3;omega
  have hfree:∀u v,side u v->fY [lin a b,lin c a,over b c 0] ⟨u,v⟩:=λu v huv=>K.free N huv;obtain⟨q,hq,hqi⟩:=hL.near hne hc hc;have hins:∀q,In [lin a b,lin c a,over b c 0] q->ins q=true:=λq' hq'=>by rw[H.const hfree hq' hq];exact hqi
  refine⟨hv,hfree,hins,?_⟩;have hbc:b≠c:=λe=>by subst e;rw[ci]at hc;omega
  have e1:ev (lin c a) (pt b)=ev (lin a b) (pt c):=by unfold ev lin pt;grind
  have bs:∀w:V,ev (lin a b) (pt c)=ev (lin b c) (pt w)+ev (lin c a) (pt w)+ev (lin a b) (pt w):=λw=>by have:=FG a b c (pt w);simp only[pt]at this|-;omega
  refine fH λhns=> ?_;have hopen:∀c' d',side c' d'->∀x y s t:Int,0<=x->0<=y->0<s->0<t->cmb x (pt c') y (pt d')≠cmb s (pt b) t (pt c):=by
   intro u v huv x y s t hx hy hs ht he;have ed:=congrArg P3.d he;have eη:=congrArg (ev (lin b c)) he;have eα:=congrArg (ev (lin a b)) he;have eβ:=congrArg (ev (lin c a)) he;simp only[cmb,pt]at ed;rw[ao,ao,cK,ci]at eη;rw[ao,ao,ci]at eα;rw[ao,ao,cK,e1]at eβ;have p1:=bV ht hc;have p2:=bV hs hc;have novert:∀w,w∈W->∀k:Int,0<k->k*ev (lin a b) (pt w)=t*ev (lin a b) (pt c)->k*ev (lin c a) (pt w)=s*ev (lin a b) (pt c)->k*ev (lin b c) (pt w)=0->False:=by
    intro w hw k hk h1 h2 h3;have g1:0<ev (lin a b) (pt w):=by
     rcases br 0 (ev (lin a b) (pt w))with g|g
     .exact g
     .have:=mpn (show 0<=k by omega) g;omega
    have g2:0<ev (lin c a) (pt w):=by
     rcases br 0 (ev (lin c a) (pt w))with g|g
     .exact g
     .have:=mpn (show 0<=k by omega) g;omega
    have g3:ev (lin b c) (pt w)=0:=by
     rcases dt.1 h3 with g|g
     .omega
     .exact g
    rcases hv w hw (by omega) (by omega) (by omega)with e|e|e<;>subst e
    .rw[cK]at g1;omega
    .grind
    .grind
   have hx0:0<x:=by
    rcases br 0 x with g|g
    .exact g
    .have:x=0:=by omega
     subst x;exact(novert v (N.mem (N.symm huv)) y (by omega) (by omega) (by omega) (by omega)).elim
   have hy0:0<y:=by
    rcases br 0 y with g|g
    .exact g
    .have:y=0:=by omega
     subst y;exact(novert u (N.mem huv) x (by omega) (by omega) (by omega) (by omega)).elim
   have up:∀{u v:V} {x y:Int},side u v->0<x->0<y->x*ev (lin b c) (pt u)+y*ev (lin b c) (pt v)=0->0<x*ev (lin a b) (pt u)+y*ev (lin a b) (pt v)->0<x*ev (lin c a) (pt u)+y*ev (lin c a) (pt v)->¬0<ev (lin b c) (pt u):=by
    intro u v x y huv hx hy h1 h2 h3 h4;obtain⟨f,hf,g⟩:=hfree u v huv ((1+(ev (lin a b) (pt u)).natAbs+(ev (lin c a) (pt u)).natAbs)*x+1) ((1+(ev (lin a b) (pt u)).natAbs+(ev (lin c a) (pt u)).natAbs)*y) (by have:=mpp (show 0<=(1:Int)+(ev (lin a b) (pt u)).natAbs+(ev (lin c a) (pt u)).natAbs by omega) (show 0<=x by omega);omega) (mpp (by omega) (by omega)) (by have:=mpp (show 0<=(1:Int)+(ev (lin a b) (pt u)).natAbs+(ev (lin c a) (pt u)).natAbs by omega) (show 0<=x by omega);have:=mpp (show 0<=(1:Int)+(ev (lin a b) (pt u)).natAbs+(ev (lin c a) (pt u)).natAbs by omega) (show 0<=y by omega);omega);change (_*x+1)*ev f (pt u)+_*y*ev f (pt v)<=0 at g;have e2:∀K A B:Int,(K*x+1)*A+K*y*B=K*(x*A+y*B)+A:=λK A B=>by grind
    rw[e2]at g;simp only[bT,cn,or_false]at hf;rcases hf with rfl|rfl|rfl
    .have:=dg (show 1<=x*ev (lin a b) (pt u)+y*ev (lin a b) (pt v) by omega) (show 0<=(1:Int)+(ev (lin a b) (pt u)).natAbs+(ev (lin c a) (pt u)).natAbs by omega);omega
    .have:=dg (show 1<=x*ev (lin c a) (pt u)+y*ev (lin c a) (pt v) by omega) (show 0<=(1:Int)+(ev (lin a b) (pt u)).natAbs+(ev (lin c a) (pt u)).natAbs by omega);omega
    .have e3:∀w:V,ev (over b c 0) (pt w)=ev (lin b c) (pt w):=λw=>by rw[lT];omega
     rw[e3,e3,h1]at g;omega
   have uu:=up huv hx0 hy0 (by omega) (by omega) (by omega);have vv:=up (N.symm huv) hy0 hx0 (by omega) (by omega) (by omega);have s1:=mpn (show 0<=x by omega) (show ev (lin b c) (pt u)<=0 by omega);have s2:=mpn (show 0<=y by omega) (show ev (lin b c) (pt v)<=0 by omega);have u0:ev (lin b c) (pt u)=0:=by
    rcases dt.1 (show x*ev (lin b c) (pt u)=0 by omega)with g|g
    .omega
    .exact g
   have v0:ev (lin b c) (pt v)=0:=by
    rcases dt.1 (show y*ev (lin b c) (pt v)=0 by omega)with g|g
    .omega
    .exact g
   have out:∀w∈W,ev (lin b c) (pt w)=0->¬(0<ev (lin a b) (pt w)/\0<ev (lin c a) (pt w)):=by
    rintro w hw h0 ⟨h1,h2⟩;rcases hv w hw (by omega) (by omega) (by omega)with e|e|e<;>subst e
    .rw[cK]at h1;omega
    .grind
    .grind
   have ou:=out u (N.mem huv) u0;have ov:=out v (N.mem (N.symm huv)) v0;have bu:=bs u;have bv:=bs v;have fin:∀{u v:V},side u v->ev (lin b c) (pt u)=0->ev (lin b c) (pt v)=0->0<ev (lin a b) (pt u)->ev (lin c a) (pt u)<=0->0<ev (lin c a) (pt v)->ev (lin a b) (pt v)<=0->False:=by
    intro u v huv u0 v0 h1 h2 h3 h4;have bu:=bs u;have bv:=bs v;have D0:ev (lin a b) (pt c)≠0:=by omega
    have g1:=qv (a:=b) (b:=c) (c:=a) (q:=pt u) u0;have g2:=qv (a:=b) (b:=c) (c:=a) (q:=pt v) v0;rw[iG a b c]at g1 g2;have cc:=aAP (u:=u) (v:=v) D0 (g1.trans (by show(⟨_,_,ev (lin a b) (pt c)*1⟩:P3)=_;rw[yb];rfl)) (g2.trans (by show(⟨_,_,ev (lin a b) (pt c)*1⟩:P3)=_;rw[yb];rfl));have k1:c=u\/c=v:=N.clear huv (N.mem (N.symm hac)) (ev (lin c a) (pt v)) (-(ev (lin c a) (pt u))) (ev (lin a b) (pt u)-ev (lin a b) (pt v)) (by omega) (by omega) cc.1 (by omega);have k2:b=u\/b=v:=N.clear huv (N.mem (N.symm hab)) (-(ev (lin a b) (pt v))) (ev (lin a b) (pt u)) (ev (lin a b) (pt u)-ev (lin a b) (pt v)) (by omega) (by omega) cc.2 (by omega);rcases k1 with e|e<;>rcases k2 with e'|e'
    .grind
    .subst e e';exact hns (N.symm huv)
    .grind
    .grind
   by_cases hu:0<ev (lin a b) (pt u)
   .have:ev (lin c a) (pt u)<=0:=by omega
    have hvv:0<ev (lin c a) (pt v):=by
     rcases br 0 (ev (lin c a) (pt v))with g|g
     .exact g
     .have:=mpn (show 0<=x by omega) this;have:=mpn (show 0<=y by omega) g;omega
    exact fin huv u0 v0 hu this hvv (by omega)
   .have hu':0<ev (lin c a) (pt u):=by omega
    have hvv:0<ev (lin a b) (pt v):=by
     rcases br 0 (ev (lin a b) (pt v))with g|g
     .exact g
     .have:=mpn (show 0<=x by omega) (show ev (lin a b) (pt u)<=0 by omega);have:=mpn (show 0<=y by omega) g;omega
    exact fin (N.symm huv) v0 u0 hvv (by omega) hu' (by omega)
  refine hns (H.max b (N.mem (N.symm hab)) c (N.mem (N.symm hac)) hbc hopen ?_);rw[<-hqi];refine H.same _ _ (by simp only[cmb,pt];omega) hq.1 λu v huv hm=> ?_;obtain⟨x,y,s,t,hx,hy,hxy,hs,ht,he⟩:=hm;rcases br 0 t with ht0|ht0
  .obtain⟨f,hf,g⟩:=hfree u v huv x y hx hy hxy;have eF:=congrArg (ev f) he;rw[ao,ao]at eF;change x*ev f (pt u)+y*ev f (pt v)<=0 at g;change x*ev f (pt u)+y*ev f (pt v)=_ at eF;have g1:=bV ht0 (hq.2 f hf);have g2:0<=s*ev f (cmb 1 (pt b) 1 (pt c)):=mpp hs (by
    simp only[bT,cn,or_false]at hf;rcases hf with rfl|rfl|rfl
    .rw[ao,ci];omega
    .rw[ao,cK,e1];omega
    .rw[ao,lT,lT,cK,ci];omega)
   omega
  .have t0:t=0:=by omega
   subst t0;have hs0:0<s:=by
    have:=congrArg P3.d he;simp only[cmb,pt]at this;rcases br 0 s with g|g
    .exact g
    .omega
   refine hopen u v huv x y s s hx hy hs0 hs0 ?_;rw[show cmb x (pt u) y (pt v)=cmb s (cmb 1 (pt b) 1 (pt c)) 0 q from he];unfold cmb;grind
end
end Geo
end
section
namespace Geo
def BC{α:Type}(f g:α->Int):∀{l:List α},l≠[]->(∀x∈l,0<g x)->∃x∈l,∀y∈l,f x*g y<=f y*g x
 |[],h,_=>absurd rfl h
 |[x],_,_=>⟨x,by grind,by grind⟩
 |x::y::l,_,hg=>by
  obtain⟨z,hz,h⟩:=BC f g (l:=y::l) (by simp) (by grind);have gx:=hg x cI;have gz:=hg z (cE _ hz);by_cases hx:f x*g z<=f z*g x
  .refine⟨x,by grind,λw hw=> ?_⟩;rcases bT.1 hw with rfl|hw
   .omega
   .have gw:=hg w (cE _ hw);have h1:=h w hw;have e1:=lz hx (show 0<=g w by omega);have e2:=lz h1 (show 0<=g x by omega);have e3:(f x*g w)*g z<=(f w*g x)*g z:=by
     have a1:f x*g w*g z=f x*g z*g w:=by grind
     have a2:f w*g x*g z=f w*g z*g x:=by grind
     have a3:f z*g x*g w=f z*g w*g x:=by grind
     omega
    simp_all
  grind
def BT{a b:V}{P r:P3}(h:ev (ln (pt a) P) r=0)(f:P3):ev (lin a b) P*ev f r=(ev (lin a b) P*r.d-ev (lin a b) r*P.d)*ev f (pt a)+ev (lin a b) r*ev f P:=by unfold ev ln lin pt at*;grind
def Ol{a b:V}{P r:P3}(h:ev (ln (pt a) P) r=0):cmb (ev (lin a b) P) r 0 r=cmb (ev (lin a b) P*r.d-ev (lin a b) r*P.d) (pt a) (ev (lin a b) r) P:=by unfold cmb ev ln lin pt at*;grind
def around{a b x:V}{P q:P3}:ev (lin a b) P*ev (lin a x) q=ev (lin a b) (pt x)*ev (ln (pt a) P) q-ev (lin a b) q*ev (ln (pt a) P) (pt x):=by unfold ev ln lin pt;grind
def fan{a b u:V}{P w:P3}:ev (ln (pt a) P) (pt u)*ev (lin a b) w=ev (lin u a) w*ev (lin a b) P+ev (ln (pt a) P) w*ev (lin a b) (pt u):=by unfold ev ln lin pt;grind
def Wm(u v:V)(a:V)(P:P3)(f:P3):ev f (cmb (-(ev (ln (pt a) P) (pt v))) (pt u) (ev (ln (pt a) P) (pt u)) (pt v))=ev (lin u v) P*ev f (pt a)-ev (lin u v) (pt a)*ev f P:=by unfold ev cmb ln lin pt;grind
def AZ{u v:V}{p:P3}(h:ev (lin v u) p=0)(f:P3):bm v u*ev f p=(bm v u*p.d-ev (ae v u) p)*ev f (pt v)+ev (ae v u) p*ev f (pt u):=by have h1:=congrArg (ev f) (kh h);rw[ao]at h1;rw[h1];unfold ev;grind
def Ox{u v:V}(hne:u≠v){ρ q p:P3}(hq:ev (lin v u) q=0)(hp:ev (lin v u) p=0)(h0:ev ρ q=0)(f:P3):
  ev ρ (pt u)*q.d*ev f p=(ev ρ (pt u)*p.d-ev ρ p)*ev f q+ev ρ p*q.d*ev f (pt u):=by
 have hL:=il (u:=v) (v:=u) (by grind);have a1:=AZ hp f;have a2:=AZ hp ρ;have a3:=AZ hq f;have a4:=AZ hq ρ;generalize bm v u=L at*;have hL2:L*L≠0:=Int.mul_ne_zero (by omega) (by omega);apply mg hL2;grind
section
variable {W:List V} {side:V->V->Prop} {ins:P3->Bool}
structure Seen(W:List V)(side:V->V->Prop)(a b u v x:V)(P q:P3):Prop where
 net:Net W side
 pos:0<ev (lin a b) P
 thinR:∀w∈W,0<ev (lin a b) (pt w)->0<ev (ln (pt a) P) (pt w)
 uv:side u v
 ru:0<ev (ln (pt a) P) (pt u)
 rv:ev (ln (pt a) P) (pt v)<0
 au:0<ev (lin a b) (pt u)
 first:∀c d,side c d->0<ev (ln (pt a) P) (pt c)->ev (ln (pt a) P) (pt d)<0->∀p:P3,0<p.d->ev (ln (pt a) P) p=0->0<ev (lin a b) p->(∃x y:Int,0<x/\0<y/\p=cmb x (pt c) y (pt d))->ev (lin v u) p<=0
 ka:0<ev (lin v u) (pt a)
 mem:x∈W
 rx:0<ev (ln (pt a) P) (pt x)
 kx:0<=ev (lin v u) (pt x)
 ax:0<ev (lin a b) (pt x)
 ux:0<=ev (lin a x) (pt u)
 least:∀w∈W,0<ev (ln (pt a) P) (pt w)->0<=ev (lin v u) (pt w)->0<=ev (lin a w) (pt u)->0<=ev (lin a x) (pt w)/\(ev (lin a x) (pt w)=0->ev (lin a b) (pt x)<=ev (lin a b) (pt w))
 qd:0<q.d
 qr:ev (ln (pt a) P) q=0
 qk:ev (lin v u) q=0
 qa:0<ev (lin a b) q
 quv:∃x y:Int,0<x/\0<y/\q=cmb x (pt u) y (pt v)
def jJ{a k:Int}(hk:0<k)(h:0<k*a):0<a:=by
 rcases br 0 a with g|g
 .exact g
 .have:=mpn (show 0<=k by omega) g;omega
def wV{a k:Int}(hk:0<k)(h:k*a<0):a<0:=by
 rcases br a 0 with g|g
 .exact g
 .have:=mpp (show 0<=k by omega) g;omega
def Seen.ang{a b u v x:V}{P q:P3}(_S:Seen W side a b u v x P q){w:V}(r:P3):ev (lin a b) P*ev (lin a w) r=ev (lin a b) (pt w)*ev (ln (pt a) P) r-ev (lin a b) r*ev (ln (pt a) P) (pt w):=around
def Seen.wedge{a b u v x:V}{P q:P3}(S:Seen W side a b u v x P q){c d:V}(hcd:side c d){x1 y1:Int}(hx1:0<x1)(hy1:0<=y1)
  (h1:0<ev (ln (pt a) P) (cmb x1 (pt c) y1 (pt d))) (h2:0<ev (lin v u) (cmb x1 (pt c) y1 (pt d))) (h3:ev (lin a x) (cmb x1 (pt c) y1 (pt d))<=0) (hc:ev (lin a x) (pt c)<0):False:=by
 have N:=S.net;have hap:=S.pos;have hvu:u≠v:=N.ne S.uv;by_cases hin:0<=ev (ln (pt a) P) (pt c)/\0<=ev (lin v u) (pt c)
 ·
  have e1:=S.ang (w:=x) (pt c);have n1:=gm hap hc;have hr:0<ev (ln (pt a) P) (pt c):=by
   rcases br 0 (ev (ln (pt a) P) (pt c))with g|g
   .exact g
   .have r0:ev (ln (pt a) P) (pt c)=0:=by omega
    have ac:ev (lin a b) (pt c)<=0:=by refine Ca.1 λg2=> ?_;have:=S.thinR c (N.mem hcd) g2;omega
    rw[r0,eL]at e1;have:=mnp ac (show 0<=ev (ln (pt a) P) (pt x) by have:=S.rx;omega);omega
  have hac:0<ev (lin a b) (pt c):=by
   have p1:=bV S.ax hr;have p2:0<ev (lin a b) (pt c)*ev (ln (pt a) P) (pt x):=by omega
   rw[fx]at p2;exact jJ S.rx p2
  have eu:=S.ang (w:=x) (pt u);have ec:=S.ang (w:=c) (pt u);have m1:=mpp (show 0<=ev (lin a b) P by omega) S.ux;have key:0<=ev (lin a b) P*ev (lin a c) (pt u):=by
   rw[ec];have k1:ev (ln (pt a) P) (pt c)*ev (lin a b) (pt x)<ev (ln (pt a) P) (pt x)*ev (lin a b) (pt c):=by rw[fx (ev (ln (pt a) P) (pt c)),fx (ev (ln (pt a) P) (pt x))];omega
   have k2:ev (ln (pt a) P) (pt x)*ev (lin a b) (pt u)<=ev (ln (pt a) P) (pt u)*ev (lin a b) (pt x):=by rw[fx (ev (ln (pt a) P) (pt x)),fx (ev (ln (pt a) P) (pt u))];omega
   have k3:=Dg (n1:=ev (ln (pt a) P) (pt c)) (d1:=ev (lin a b) (pt c)) (n2:=ev (ln (pt a) P) (pt x)) (d2:=ev (lin a b) (pt x)) (n3:=ev (ln (pt a) P) (pt u)) (d3:=ev (lin a b) (pt u)) hac S.ax S.au k1 k2;rw[fx (ev (lin a b) (pt c)),fx (ev (lin a b) (pt u))];omega
  have hsc:0<=ev (lin a c) (pt u):=nnl hap (by grind);have:=(S.least c (N.mem hcd) hr hin.2 hsc).1;omega
 .obtain⟨s,t,hs,ht,hp⟩:=vG (F:=ln (pt a) P) (G:=lin v u) (z:=cmb x1 (pt c) y1 (pt d)) (g:=pt c) h1 h2 (by omega);have hd0:0<(cmb s (cmb x1 (pt c) y1 (pt d)) t (pt c)).d:=by simp only[cmb,pt];have:=mpp (show 0<=s by omega) (show 0<=x1*1+y1*1 by omega);omega
  have hγ:ev (lin a x) (cmb s (cmb x1 (pt c) y1 (pt d)) t (pt c))<0:=by rw[ao];have:=mpn (show 0<=s by omega) h3;have:=gm ht hc;omega
  have hy0:0<y1:=by
   rcases br 0 y1 with g|g
   .exact g
   .have:y1=0:=by omega
    subst y1;rw[ao,yZ,nW]at h1 h2;exact(hin ⟨by have:=jJ hx1 h1;omega,by have:=jJ hx1 h2;omega⟩).elim
  have exp:cmb s (cmb x1 (pt c) y1 (pt d)) t (pt c)=cmb (s*x1+t) (pt c) (s*y1) (pt d):=by unfold cmb;simp only[P3.mk.injEq];refine⟨?_,?_,?_⟩<;>grind
  have w1:0<s*x1+t:=by have:=bV hs hx1;omega
  have w2:0<s*y1:=bV hs hy0;have hev:∀f,ev f (cmb s (cmb x1 (pt c) y1 (pt d)) t (pt c))=s*ev f (cmb x1 (pt c) y1 (pt d))+t*ev f (pt c):=λf=>ao _ _ _ _ _;have hr1:=hev (ln (pt a) P);generalize hpp:cmb s (cmb x1 (pt c) y1 (pt d)) t (pt c)=p at*;obtain⟨xq,yq,hxq,hyq,hq⟩:=S.quv;have clash:∀k m:Int,0<k->0<m->cmb k p 0 p=cmb m q 0 q->False:=by
   intro k m hk hm he;have:cmb (k*(s*x1+t)) (pt c) (k*(s*y1)) (pt d)=cmb (m*xq) (pt u) (m*yq) (pt v):=by rw[exp,hq]at he;unfold cmb at he|-;simp only[P3.mk.injEq]at he|-;refine⟨?_,?_,?_⟩<;>grind
   rcases N.apart hcd S.uv _ _ _ _ (bV hk w1) (bV hk w2) (bV hm hxq) (bV hm hyq) this with⟨rfl,rfl⟩|⟨rfl,rfl⟩
   .rw[ao,cK,ci]at h2;omega
   .rw[ao,cK,ci]at h2;omega
  have caseR:ev (ln (pt a) P) p=0->0<=ev (lin v u) p->False:=by
   intro g1 g2;have e1:=S.ang (w:=x) p;have n1:=gm hap hγ;have hap':0<ev (lin a b) p:=by
    rw[g1,eL]at e1;have p2:0<ev (lin a b) p*ev (ln (pt a) P) (pt x):=by omega
    rw[fx]at p2;exact jJ S.rx p2
   have rz:=bV hs h1;have rc:ev (ln (pt a) P) (pt c)<0:=wV ht (by omega);have rd:0<ev (ln (pt a) P) (pt d):=by rw[ao]at h1;have:=gm hx1 rc;exact jJ hy0 (by omega)
   have hf:=S.first d c (N.symm hcd) rd rc p hd0 g1 hap' ⟨s*y1,s*x1+t,w2,w1,by rw[exp,kj]⟩;have k0:ev (lin v u) p=0:=by omega
   have r1:=Ol (a:=a) (b:=b) g1;have r2:=Ol (a:=a) (b:=b) S.qr;have v1:=BT (a:=a) (b:=b) g1 (lin v u);have v2:=BT (a:=a) (b:=b) S.qr (lin v u);rw[k0,eL]at v1;rw[S.qk,eL]at v2;have hqa:=S.qa;have hka:=S.ka;have hqd:=S.qd;have cross:ev (lin a b) q*p.d=ev (lin a b) p*q.d:=by
    have e3:ev (lin a b) P*ev (lin v u) (pt a)*(ev (lin a b) q*p.d-ev (lin a b) p*q.d)=0:=by generalize ev (lin a b) P=A at*;generalize ev (lin v u) (pt a)=K at*;generalize ev (lin a b) q=aq at*;generalize ev (lin a b) p=ap at*;generalize ev (lin v u) P=KP at*;grind
    rcases dt.1 e3 with g|g
    .have:=bV hap hka;omega
    .omega
   refine clash (ev (lin a b) P*ev (lin a b) q) (ev (lin a b) P*ev (lin a b) p) (bV hap hqa) (bV hap hap') ?_;unfold cmb at r1 r2|-;simp only[P3.mk.injEq]at r1 r2|-;generalize ev (lin a b) P=A at*;generalize ev (lin a b) q=aq at*;generalize ev (lin a b) p=ap at*;refine⟨?_,?_,?_⟩<;>grind
  rcases hp with⟨g1,g2⟩|⟨g1,g2⟩
  .grind
  .by_cases hr0:ev (ln (pt a) P) p=0
   .grind
   .have hrp:0<ev (ln (pt a) P) p:=by omega
    have lq:=Ox hvu S.qk g1 S.qr (lin a x);have γq:ev (lin a x) q<0:=by have e1:=S.ang (w:=x) q;rw[S.qr,eL]at e1;have:=bV S.qa S.rx;exact wV hap (by omega)
    have hbet:0<ev (ln (pt a) P) (pt u)*p.d-ev (ln (pt a) P) p:=by refine lD.1 λhn=> ?_;have t1:=mnn hn (show ev (lin a x) q<=0 by omega);have t2:=mpp (mpp (show 0<=ev (ln (pt a) P) p by omega) (show 0<=q.d by have:=S.qd;omega)) S.ux;have t3:=gm (bV S.ru S.qd) hγ;omega
    have lx:∀f,ev (ln (pt a) P) (pt u)*q.d*ev f p=(ev (ln (pt a) P) (pt u)*p.d-ev (ln (pt a) P) p)*ev f q+ev (ln (pt a) P) p*q.d*ev f (pt u):=λf=>Ox hvu S.qk g1 S.qr f;have cx:=lx ⟨1,0,0⟩;have cy:=lx ⟨0,1,0⟩;have cd:=lx ⟨0,0,1⟩;have ex:∀r:P3,ev ⟨1,0,0⟩ r=r.x:=λr=>by unfold ev;simp
    have ey:∀r:P3,ev ⟨0,1,0⟩ r=r.y:=λr=>by unfold ev;simp
    have ed:∀r:P3,ev ⟨0,0,1⟩ r=r.d:=λr=>by unfold ev;simp
    rw[ex,ex,ex]at cx;rw[ey,ey,ey]at cy;rw[ed,ed,ed]at cd;have hM:0<ev (ln (pt a) P) (pt u)*q.d:=bV S.ru S.qd;have hB:0<ev (ln (pt a) P) p*q.d:=bV hrp S.qd;generalize ev (ln (pt a) P) (pt u)*q.d=M at*;generalize ev (ln (pt a) P) (pt u)*p.d-ev (ln (pt a) P) p=A at*;generalize ev (ln (pt a) P) p*q.d=B at*;have:cmb (M*(s*x1+t)) (pt c) (M*(s*y1)) (pt d)=cmb (A*xq+B) (pt u) (A*yq) (pt v):=by rw[exp,hq]at cx cy cd;unfold cmb at*;simp only[P3.mk.injEq]at*;refine⟨?_,?_,?_⟩<;>grind
    rcases N.apart hcd S.uv _ _ _ _ (bV hM w1) (bV hM w2) (show 0<A*xq+B by have:=bV hbet hxq;omega) (bV hbet hyq) this with⟨rfl,rfl⟩|⟨rfl,rfl⟩
    .rw[ao,cK,ci]at h2;omega
    .rw[ao,cK,ci]at h2;omega
end
end Geo
end
section
namespace Geo
def Pz{α:Type}(f:α->Int):∀l:List α,∃M:Int,0<=M/\∀x∈l,f x<=M/\ -M<=f x
 |[] =>⟨0,jH _,λx hx=>by cases hx⟩
 |x::l=>by
  obtain⟨M,h0,h⟩:=Pz f l;refine⟨M+(f x).natAbs,by omega,λy hy=> ?_⟩;grind
section
variable {W:List V} {side:V->V->Prop} {ins:P3->Bool}
def Lft.start{a b:V}(hne:a≠b)(hL:Lft ins a b)(W:List V):∃(N:Int) (P:P3),0<=N/\In (thin a b N) P/\(∀q,In (thin a b N) q->ins q=true)/\∀w∈W,0<ev (lin a b) (pt w)->0<ev (ln (pt a) P) (pt w):=by
 obtain⟨N0,hN⟩:=hL;have hL2:=il hne;have e9:(b.x-a.x)*(b.x-a.x)-(b.y-a.y)* -(b.y-a.y)=bm a b:=by unfold bm;grind
 obtain⟨M0,hM0,hI⟩:=n8 hne (x:= -(b.y-a.y)) (y:=b.x-a.x) (by omega) (max N0 0);obtain⟨M1,hM1,hB⟩:=Pz (λw=>ev (ln (pt a) ⟨-(b.y-a.y),b.x-a.x,0⟩) (pt w)) W;refine⟨max N0 0,cl a b (M0+M1) (-(b.y-a.y)) (b.x-a.x),by omega,hI _ (by omega),hN _ (by omega),λw hw h=> ?_⟩;have e1:∀M:Int,ev (ln (pt a) (cl a b M (-(b.y-a.y)) (b.x-a.x))) (pt w)=M*ev (lin a b) (pt w)+ev (ln (pt a) ⟨-(b.y-a.y),b.x-a.x,0⟩) (pt w):=λM=>by unfold ev ln lin cl pt;grind
 rw[e1];have:=hB w hw;have h2:=dg (show 1<=ev (lin a b) (pt w) by omega) (show 0<=M0+M1 by omega);omega
def Zm(a w u:V):ev (lin u a) (pt w)=ev (lin a w) (pt u):=by unfold ev lin pt;grind
open Classical in
def see(H:Filled W side ins){a b:V}(hab:side a b)(hL:Lft ins a b):
  ∃(N:Int) (u v x:V) (P q:P3),0<=N/\In (thin a b N) P/\(∀q,In (thin a b N) q->ins q=true)/\Seen W side a b u v x P q:=by
 have Nt:=H.net;have hne:=Nt.ne hab;obtain⟨N,P,hN0,hP,hin,hW⟩:=hL.start hne W;obtain⟨p0,p1,p2,p3⟩:=lS.1 hP;have hray:ev (ln (pt a) P) P=0:=Ax _ _;have hra:ev (ln (pt a) P) (pt a)=0:=Fw _ _;obtain⟨B,hB0,hB⟩:=H.far;have hfar:∃T:Int,0<=T/\ins (cmb (-(T*P.d)) (pt a) (T+1) P)=false:=by
  have hd:∀T:Int,(cmb (-(T*P.d)) (pt a) (T+1) P).d=P.d:=λT=>by simp only[cmb,pt];grind
  have hx:∀T:Int,(cmb (-(T*P.d)) (pt a) (T+1) P).x=P.x+T*(P.x-a.x*P.d):=λT=>by simp only[cmb,pt];grind
  have hy:∀T:Int,(cmb (-(T*P.d)) (pt a) (T+1) P).y=P.y+T*(P.y-a.y*P.d):=λT=>by simp only[cmb,pt];grind
  have hB2:=mpp hB0 (show 0<=P.d by omega);refine⟨1+B*P.d+P.x.natAbs+P.y.natAbs,by omega,hB _ (by simp_all) ?_⟩;rw[hd,hx,hy];have hδ:P.x-a.x*P.d≠0\/P.y-a.y*P.d≠0:=by
   refine fH λhn=> ?_;have h1:P.x=a.x*P.d:=by omega
   have h2:P.y=a.y*P.d:=by omega
   have:ev (lin a b) P=0:=by unfold ev lin;rw[h1,h2];grind
   omega
  have grow:∀δ:Int,0<δ->1+B*P.d+P.x.natAbs+P.y.natAbs<=(1+B*P.d+P.x.natAbs+P.y.natAbs)*δ:=λδ h=>by have:=dg (show 1<=δ by omega) (show 0<=1+B*P.d+(P.x.natAbs:Int)+(P.y.natAbs:Int) by omega);omega
  rcases hδ with h|h
  .rcases mZ h with g|g
   .have:=grow (-(P.x-a.x*P.d)) (by omega);grind
   .have:=grow _ g;omega
  .rcases mZ h with g|g
   .have:=grow (-(P.y-a.y*P.d)) (by omega);grind
   .have:=grow _ g;omega
 obtain⟨T,hT0,hT⟩:=hfar;have hTd:(cmb (-(T*P.d)) (pt a) (T+1) P).d=P.d:=by simp only[cmb,pt];grind
 have hcross:∃c d,side c d/\0<ev (ln (pt a) P) (pt c)/\ev (ln (pt a) P) (pt d)<0/\0<ev (lin a b) (cmb (-(ev (ln (pt a) P) (pt d))) (pt c) (ev (ln (pt a) P) (pt c)) (pt d)):=by
  refine fH λhn=> ?_;have hs:ins P=ins (cmb (-(T*P.d)) (pt a) (T+1) P):=by
   refine H.same _ _ p0 (by omega) λc d hcd hm=> ?_;obtain⟨x,y,s,t,hx,hy,hxy,hs,ht,he⟩:=hm;have eρ:=congrArg (ev (ln (pt a) P)) he;have eα:=congrArg (ev (lin a b)) he;have ed:=congrArg P3.d he;rw[ao,ao,ao,hray,hra]at eρ;rw[ao,ao,ao,cK,eL,vY]at eα;rw[eL,eL,eL,nW,eL,nW]at eρ;dsimp only at eρ eα;have hst:0<s\/0<t:=by
    simp only[cmb,pt]at ed;refine fH λh0=> ?_;have:s=0:=by omega
    have:t=0:=by omega
    subst s t;omega
   have hα:0<x*ev (lin a b) (pt c)+y*ev (lin a b) (pt d):=by
    have g1:=mpp hs (show 0<=ev (lin a b) P by omega);have g2:=mpp ht (show 0<=(T+1)*ev (lin a b) P from mpp (by omega) (by omega));rcases hst with k|k
    .have:=bV k p1;omega
    .have:=bV k (bV (show 0<T+1 by omega) p1);omega
   have hρ:x*ev (ln (pt a) P) (pt c)+y*ev (ln (pt a) P) (pt d)=0:=by omega
   have nv:∀w,w∈W->ev (ln (pt a) P) (pt w)<=0->ev (lin a b) (pt w)<=0:=λw hw h=>by grind
   have hcW:=Nt.mem hcd;have hdW:=Nt.mem (Nt.symm hcd);rcases ye (ev (ln (pt a) P) (pt c)) 0 with h1|h1|h1
   .have a1:=nv c hcW (by omega);have m1:=mpn hx a1;have hy0:0<y:=by
     rcases br 0 y with g|g
     .exact g
     .grind
    have a2:0<ev (lin a b) (pt d):=jJ hy0 (by omega);have r2:=hW d hdW a2;refine hn ⟨d,c,Nt.symm hcd,r2,h1,?_⟩;rw[ao];have hx0:0<x:=by
     rcases br 0 x with g|g
     .exact g
     .have:x=0:=by omega
      subst x;have:=bV hy0 r2;omega
    refine jJ hx0 ?_;have e2:x*(-(ev (ln (pt a) P) (pt c))*ev (lin a b) (pt d)+ev (ln (pt a) P) (pt d)*ev (lin a b) (pt c))=ev (ln (pt a) P) (pt d)*(x*ev (lin a b) (pt c)+y*ev (lin a b) (pt d)):=by generalize ev (ln (pt a) P) (pt c)=rc at*;generalize ev (ln (pt a) P) (pt d)=rd at*;generalize ev (lin a b) (pt c)=ac at*;generalize ev (lin a b) (pt d)=ad at*;grind
    rw[e2];exact bV r2 hα
   .have a1:=nv c hcW (by omega);have m1:=mpn hx a1;rw[h1]at hρ;have hy0:0<y:=by
     rcases br 0 y with g|g
     .exact g
     .grind
    have r0:ev (ln (pt a) P) (pt d)=0:=by
     rcases dt.1 (show y*ev (ln (pt a) P) (pt d)=0 by omega)with g|g
     .omega
     .exact g
    have a2:=nv d hdW (by omega);have:=mpn hy a2;omega
   .by_cases hx0:0<x
    .have r2:ev (ln (pt a) P) (pt d)<0:=by have:=bV hx0 h1;refine lD.1 λg=> ?_;have:=mpp hy g;omega
     have hy0:0<y:=by
      rcases br 0 y with g|g
      .exact g
      .have:y=0:=by omega
       subst y;have:=bV hx0 h1;omega
     refine hn ⟨c,d,hcd,h1,r2,?_⟩;rw[ao];refine jJ hy0 ?_;have e2:y*(-(ev (ln (pt a) P) (pt d))*ev (lin a b) (pt c)+ev (ln (pt a) P) (pt c)*ev (lin a b) (pt d))=ev (ln (pt a) P) (pt c)*(x*ev (lin a b) (pt c)+y*ev (lin a b) (pt d)):=by generalize ev (ln (pt a) P) (pt c)=rc at*;generalize ev (ln (pt a) P) (pt d)=rd at*;generalize ev (lin a b) (pt c)=ac at*;generalize ev (lin a b) (pt d)=ad at*;grind
     rw[e2];exact bV h1 hα
    .have x0:x=0:=by omega
     subst x;have hy0:0<y:=by omega
     have r0:ev (ln (pt a) P) (pt d)=0:=by
      rcases dt.1 (show y*ev (ln (pt a) P) (pt d)=0 by omega)with g|g
      .omega
      .exact g
     have a2:=nv d hdW (by omega);have:=mpn hy a2;omega
  rw[hin P hP,hT]at hs;cases hs
 have hl:((W.flatMap λc=>W.map λd=>(c,d)).filter λq=>decide (side q.1 q.2/\0<ev (ln (pt a) P) (pt q.1)/\ev (ln (pt a) P) (pt q.2)<0/\0<ev (lin a b) (cmb (-(ev (ln (pt a) P) (pt q.2))) (pt q.1) (ev (ln (pt a) P) (pt q.1)) (pt q.2))))≠[] :=by obtain⟨c,d,h1,h2⟩:=hcross;exact IC (iX.2 ⟨cZ.2 ⟨c,Nt.mem h1,bZ.2 ⟨d,Nt.mem (Nt.symm h1),rfl⟩⟩,decide_eq_true ⟨h1,h2⟩⟩)
 obtain⟨⟨u,v⟩,huv,hmin⟩:=BC (λq:V×V=>ev (lin a b) (cmb (-(ev (ln (pt a) P) (pt q.2))) (pt q.1) (ev (ln (pt a) P) (pt q.1)) (pt q.2))) (λq:V×V=>ev (ln (pt a) P) (pt q.1)-ev (ln (pt a) P) (pt q.2)) hl λq hq=>by grind
 have hs:=of_decide_eq_true (iX.1 huv).2;dsimp only at hs hmin;obtain⟨suv,ru,rv,aq⟩:=hs;have uW:=Nt.mem suv;have vW:=Nt.mem (Nt.symm suv);have qd:(cmb (-(ev (ln (pt a) P) (pt v))) (pt u) (ev (ln (pt a) P) (pt u)) (pt v)).d=ev (ln (pt a) P) (pt u)-ev (ln (pt a) P) (pt v):=by show-(ev (ln (pt a) P) (pt v))*1+ev (ln (pt a) P) (pt u)*1=_;omega
 have qr:ev (ln (pt a) P) (cmb (-(ev (ln (pt a) P) (pt v))) (pt u) (ev (ln (pt a) P) (pt u)) (pt v))=0:=by rw[ao,nf,fx];omega
 have qk:ev (lin v u) (cmb (-(ev (ln (pt a) P) (pt v))) (pt u) (ev (ln (pt a) P) (pt u)) (pt v))=0:=by rw[ao,cK,ci];omega
 have ka:0<ev (lin v u) (pt a):=by have:=Wm u v a P (lin a b);rw[this,cK,eL,Int.zero_sub,<-nf]at aq;rw[ki];rw[fx]at aq;exact jJ p1 aq
 have av:ev (lin a b) (pt v)<=0:=by refine Ca.1 λg=> ?_;have:=hW v vW g;omega
 have au:0<ev (lin a b) (pt u):=by rw[ao]at aq;have:=mpn (show 0<=ev (ln (pt a) P) (pt u) by omega) av;exact jJ (show 0< -(ev (ln (pt a) P) (pt v)) by omega) (by omega)
 have αX:∀w:V,0<ev (ln (pt a) P) (pt w)->0<=ev (lin a w) (pt u)->0<ev (lin a b) (pt w):=λw h1 h2=>by have:=fan (a:=a) (b:=b) (u:=u) (P:=P) (w:=pt w);rw[Zm a w u]at this;have g1:=mpp h2 (show 0<=ev (lin a b) P by omega);have g2:=bV h1 au;exact jJ ru (by omega)
 have hX:(W.filter λw=>decide (0<ev (ln (pt a) P) (pt w))&&decide (0<=ev (lin v u) (pt w))&&decide (0<=ev (lin a w) (pt u)))≠[] :=by refine IC (a:=u) (iX.2 ⟨uW,?_⟩);rw[decide_eq_true ru,ci,ci];rfl
 have memX:∀{w:V},w∈(W.filter λw=>decide (0<ev (ln (pt a) P) (pt w))&&decide (0<=ev (lin v u) (pt w))&&decide (0<=ev (lin a w) (pt u)))↔(w∈W/\0<ev (ln (pt a) P) (pt w)/\0<=ev (lin v u) (pt w)/\0<=ev (lin a w) (pt u)):=λ{w}=>by grind
 obtain⟨x1,hx1,hm1⟩:=BC (λw:V=>ev (ln (pt a) P) (pt w)) (λw:V=>ev (lin a b) (pt w)) hX λw hw=>by grind
 have ang:∀w r:V,ev (lin a b) P*ev (lin a w) (pt r)=ev (lin a b) (pt w)*ev (ln (pt a) P) (pt r)-ev (lin a b) (pt r)*ev (ln (pt a) P) (pt w):=λw r=>around;have hX2:((W.filter λw=>decide (0<ev (ln (pt a) P) (pt w))&&decide (0<=ev (lin v u) (pt w))&&decide (0<=ev (lin a w) (pt u))).filter λw=>decide (ev (lin a x1) (pt w)=0))≠[] :=
  IC (a:=x1) (iX.2 ⟨hx1,by rw[ci];rfl⟩)
 obtain⟨x,hx2,hm2⟩:=Bb (λw:V=> -(ev (lin a b) (pt w))) hX2;obtain⟨hx,hx0⟩:=iX.1 hx2;have hx0:ev (lin a x1) (pt x)=0:=of_decide_eq_true hx0;obtain⟨xW,xr,xk,xs⟩:=memX.1 hx;obtain⟨x1W,x1r,x1k,x1s⟩:=memX.1 hx1;have ax:=αX x xr xs;have ax1:=αX x1 x1r x1s;have eq1:ev (lin a b) (pt x1)*ev (ln (pt a) P) (pt x)=ev (lin a b) (pt x)*ev (ln (pt a) P) (pt x1):=by have:=ang x1 x;rw[hx0,eL]at this;omega
 refine⟨N,u,v,x,P,_,hN0,hP,hin,Nt,p1,hW,suv,ru,rv,au,?_,ka,xW,xr,xk,ax,xs,?_,by omega,qr,qk,aq,⟨_,_,by omega,ru,rfl⟩⟩
 .intro c d hcd rc rd p hpd hpr hpa ⟨x',y',hx',hy',hp⟩;have cW:=Nt.mem hcd;have dW:=Nt.mem (Nt.symm hcd);have eρ:=hpr;rw[hp,ao]at eρ;have prop:∀f:P3,ev (ln (pt a) P) (pt c)*ev f p=y'*ev f (cmb (-(ev (ln (pt a) P) (pt d))) (pt c) (ev (ln (pt a) P) (pt c)) (pt d)):=λf=>by rw[hp,ao,ao];grind
  have pα:=prop (lin a b);have pd:=prop ⟨0,0,1⟩;have ed:∀r:P3,ev ⟨0,0,1⟩ r=r.d:=λr=>by unfold ev;simp
  rw[ed,ed]at pd;have cd':(cmb (-(ev (ln (pt a) P) (pt d))) (pt c) (ev (ln (pt a) P) (pt c)) (pt d)).d=ev (ln (pt a) P) (pt c)-ev (ln (pt a) P) (pt d):=by show-(ev (ln (pt a) P) (pt d))*1+ev (ln (pt a) P) (pt c)*1=_;omega
  have hca:0<ev (lin a b) (cmb (-(ev (ln (pt a) P) (pt d))) (pt c) (ev (ln (pt a) P) (pt c)) (pt d)):=
   jJ hy' (by rw[<-pα];exact bV rc hpa)
  have hm:=hmin (c,d) (iX.2 ⟨cZ.2 ⟨c,cW,bZ.2 ⟨d,dW,rfl⟩⟩,decide_eq_true ⟨hcd,rc,rd,hca⟩⟩);dsimp only at hm;rw[<-cd',<-qd]at hm;have v1:=BT (a:=a) (b:=b) hpr (lin v u);have v2:=BT (a:=a) (b:=b) qr (lin v u);rw[qk,eL]at v2;have hqd:0<(cmb (-(ev (ln (pt a) P) (pt v))) (pt u) (ev (ln (pt a) P) (pt u)) (pt v)).d:=by rw[qd];omega
  generalize cmb (-(ev (ln (pt a) P) (pt v))) (pt u) (ev (ln (pt a) P) (pt u)) (pt v)=q at*;generalize cmb (-(ev (ln (pt a) P) (pt d))) (pt c) (ev (ln (pt a) P) (pt c)) (pt d)=q' at*;refine Ca.1 λhk=> ?_;have e3:ev (lin a b) P*(ev (lin a b) q*ev (lin v u) p)=ev (lin a b) P*(ev (lin v u) (pt a)*(ev (lin a b) q*p.d-ev (lin a b) p*q.d)):=by generalize ev (lin a b) P=A at*;generalize ev (lin v u) (pt a)=K at*;generalize ev (lin a b) q=aq' at*;generalize ev (lin a b) p=ap at*;generalize ev (lin v u) P=KP at*;generalize ev (lin v u) p=kp at*;grind
  have e4:=mg (show ev (lin a b) P≠0 by omega) e3;have g1:=bV aq hk;have g2:0<ev (lin a b) q*p.d-ev (lin a b) p*q.d:=jJ ka (by omega);have g3:=dg hm (show 0<=y' by omega);have g4:ev (ln (pt a) P) (pt c)*(ev (lin a b) q*p.d-ev (lin a b) p*q.d)<=0:=by
   have a1:ev (ln (pt a) P) (pt c)*(ev (lin a b) q*p.d-ev (lin a b) p*q.d)=ev (lin a b) q*(ev (ln (pt a) P) (pt c)*p.d)-(ev (ln (pt a) P) (pt c)*ev (lin a b) p)*q.d:=by grind
   rw[a1,pα,pd];have a2:ev (lin a b) q*(y'*q'.d)=y'*(ev (lin a b) q*q'.d):=by grind
   have a3:y'*ev (lin a b) q'*q.d=y'*(ev (lin a b) q'*q.d):=by grind
   rw[a2,a3];omega
  have:=bV rc g2;omega
 .intro w wW wr wk ws;have hw:=memX.2 ⟨wW,wr,wk,ws⟩;have aw:=αX w wr ws;have h1:=hm1 w hw;have e1:=ang x w;have e2:ev (lin a b) (pt x1)*(ev (lin a b) (pt x)*ev (ln (pt a) P) (pt w)-ev (lin a b) (pt w)*ev (ln (pt a) P) (pt x))=ev (lin a b) (pt x)*(ev (ln (pt a) P) (pt w)*ev (lin a b) (pt x1)-ev (ln (pt a) P) (pt x1)*ev (lin a b) (pt w)):=by generalize ev (lin a b) (pt x1)=A1 at*;generalize ev (lin a b) (pt x)=A at*;generalize ev (lin a b) (pt w)=Aw at*;generalize ev (ln (pt a) P) (pt x1)=R1 at*;generalize ev (ln (pt a) P) (pt x)=R at*;generalize ev (ln (pt a) P) (pt w)=Rw at*;grind
  constructor
  .have g:=mpp (show 0<=ev (lin a b) (pt x) by omega) (show 0<=ev (ln (pt a) P) (pt w)*ev (lin a b) (pt x1)-ev (ln (pt a) P) (pt x1)*ev (lin a b) (pt w) by omega);rw[<-e2]at g;have g2:0<=ev (lin a b) (pt x)*ev (ln (pt a) P) (pt w)-ev (lin a b) (pt w)*ev (ln (pt a) P) (pt x):=by rw[fx]at g;exact nnl ax1 g
   rw[<-e1]at g2;rw[fx]at g2;exact nnl p1 g2
  .intro h0;rw[h0,eL]at e1;rw[<-e1,eL]at e2;have z:ev (ln (pt a) P) (pt w)*ev (lin a b) (pt x1)-ev (ln (pt a) P) (pt x1)*ev (lin a b) (pt w)=0:=by
    rcases dt.1 e2.symm with g|g
    .omega
    .exact g
   have e3:=ang x1 w;have z2:ev (lin a x1) (pt w)=0:=by
    have:ev (lin a b) P*ev (lin a x1) (pt w)=0:=by rw[e3,fx (ev (lin a b) (pt x1)),fx (ev (lin a b) (pt w))];exact z
    rcases dt.1 this with g|g
    .omega
    .exact g
   grind
def xX{a b x w:V}(h0:ev (lin a x) (pt w)=0)(f:P3):ev (lin a b) (pt x)*ev f (pt w)=(ev (lin a b) (pt x)-ev (lin a b) (pt w))*ev f (pt a)+ev (lin a b) (pt w)*ev f (pt x):=by unfold ev lin pt at*;grind
def aBt{a b x c d:V}(hA:ev (lin a b) (pt x)≠0)(c0:ev (lin a x) (pt c)=0)(d0:ev (lin a x) (pt d)=0):
  cmb (ev (lin a b) (pt d)) (pt c) (-(ev (lin a b) (pt c))) (pt d)=cmb (ev (lin a b) (pt d)-ev (lin a b) (pt c)) (pt a) 0 (pt a):=by
 have rc1:=xX (b:=b) c0 ⟨1,0,0⟩;have rc2:=xX (b:=b) c0 ⟨0,1,0⟩;have rd1:=xX (b:=b) d0 ⟨1,0,0⟩;have rd2:=xX (b:=b) d0 ⟨0,1,0⟩;have ex:∀w:V,ev ⟨1,0,0⟩ (pt w)=w.x:=λw=>by unfold ev pt;simp
 have ey:∀w:V,ev ⟨0,1,0⟩ (pt w)=w.y:=λw=>by unfold ev pt;simp
 rw[ex,ex,ex]at rc1 rd1;rw[ey,ey,ey]at rc2 rd2;clear c0 d0 ex ey;generalize ev (lin a b) (pt x)=A at*;generalize ev (lin a b) (pt c)=C at*;generalize ev (lin a b) (pt d)=D at*;unfold cmb pt;simp only[P3.mk.injEq];refine⟨?_,?_,by omega⟩
 .apply mg hA;grind
 .apply mg hA;grind
def Xi{a x c d:V}{z:P3}{x1 y1 s:Int}(he:cmb x1 (pt c) y1 (pt d)=cmb s (cmb 1 (pt a) 1 (pt x)) 0 z):cmb x1 (pt c) y1 (pt d)=cmb s (pt a) s (pt x):=by rw[he];unfold cmb;grind
def Vg(H:Filled W side ins){a b:V}(hab:side a b)(hL:Lft ins a b):∃x,side a x/\0<ev (lin a b) (pt x):=by
 have Nt:=H.net;have hne:=Nt.ne hab;refine fH λhno=> ?_;obtain⟨N,u,v,x,P,q,hN0,hP,hin,S⟩:=see H hab hL;obtain⟨p0,p1,p2,p3⟩:=lS.1 hP;have hra:ev (ln (pt a) P) (pt a)=0:=Fw _ _;have hka:=S.ka;have hax:=S.ax;have hrx:=S.rx;have hkx:=S.kx;have hane:a≠x:=λe=>by grind
 have vr:∀s t:Int,0<s->0<t->0<ev (ln (pt a) P) (cmb s (pt a) t (pt x)):=λs t hs ht=>by rw[ao,hra];have:=bV ht hrx;omega
 have vk:∀s t:Int,0<s->0<t->0<ev (lin v u) (cmb s (pt a) t (pt x)):=λs t hs ht=>by rw[ao];have:=bV hs hka;have:=mpp (show 0<=t by omega) hkx;omega
 have vg:∀s t:Int,ev (lin a x) (cmb s (pt a) t (pt x))=0:=λs t=>by rw[ao,cK,ci];omega
 have tie:∀w∈W,ev (lin a x) (pt w)=0->0<ev (lin a b) (pt w)->0<=ev (lin v u) (pt w)->ev (lin a b) (pt x)<=ev (lin a b) (pt w):=by
  intro w hw h0 h1 h2;have e1:=S.ang (w:=x) (pt w);rw[h0,eL]at e1;have rw':0<ev (ln (pt a) P) (pt w):=S.thinR w hw h1;have eu:=S.ang (w:=x) (pt u);have ew:=S.ang (w:=w) (pt u);have m1:=mpp (show 0<=ev (lin a b) P by omega) S.ux;have e2:ev (lin a b) (pt x)*(ev (lin a b) (pt w)*ev (ln (pt a) P) (pt u)-ev (lin a b) (pt u)*ev (ln (pt a) P) (pt w))=ev (lin a b) (pt w)*(ev (lin a b) (pt x)*ev (ln (pt a) P) (pt u)-ev (lin a b) (pt u)*ev (ln (pt a) P) (pt x)):=by generalize ev (lin a b) (pt x)=A at*;generalize ev (lin a b) (pt w)=Aw at*;generalize ev (ln (pt a) P) (pt x)=R at*;generalize ev (ln (pt a) P) (pt w)=Rw at*;generalize ev (ln (pt a) P) (pt u)=Ru at*;generalize ev (lin a b) (pt u)=Au at*;grind
  have g1:=mpp (show 0<=ev (lin a b) (pt w) by omega) (show 0<=ev (lin a b) (pt x)*ev (ln (pt a) P) (pt u)-ev (lin a b) (pt u)*ev (ln (pt a) P) (pt x) by omega);rw[<-e2,fx]at g1;have g2:=nnl hax g1;rw[<-ew,fx]at g2;exact(S.least w hw rw' h2 (nnl p1 g2)).2 h0
 have hopen:∀c d,side c d->∀x1 y1 s t:Int,0<=x1->0<=y1->0<s->0<t->cmb x1 (pt c) y1 (pt d)≠cmb s (pt a) t (pt x):=by
  intro c d hcd x1 y1 s t hx1 hy1 hs ht he;have zr:=vr s t hs ht;have zk:=vk s t hs ht;have zg:=vg s t;have ed:=congrArg P3.d he;simp only[cmb,pt]at ed;have eα:=congrArg (ev (lin a b)) he;rw[ao,ao,cK]at eα;have m1:=bV ht hax;rw[<-he]at zr zk zg;have hz:=zg;rw[ao]at hz;have n1:¬(0<x1/\ev (lin a x) (pt c)<0):=λ⟨h1,h2⟩=>S.wedge hcd h1 hy1 zr zk (by omega) h2;have n2:¬(0<y1/\ev (lin a x) (pt d)<0):=λ⟨h1,h2⟩=>by rw[kj]at zr zk zg;exact S.wedge (Nt.symm hcd) h1 hx1 zr zk (by omega) h2
  have t1:0<=x1*ev (lin a x) (pt c):=by
   rcases br 0 x1 with g|g
   .exact mpp hx1 (by omega)
   .grind
  have t2:0<=y1*ev (lin a x) (pt d):=by
   rcases br 0 y1 with g|g
   .exact mpp hy1 (by omega)
   .grind
  have kr:=zk;rw[ao]at kr;have alone:∀{w:V} {k:Int},w∈W->0<k->k*ev (lin a x) (pt w)=0->k*ev (lin a b) (pt w)=t*ev (lin a b) (pt x)->0<k*ev (lin v u) (pt w)->k=s+t->False:=by
   intro w k hw hk h1 h2 h3 h4;have g0:ev (lin a x) (pt w)=0:=by
    rcases dt.1 h1 with g|g
    .omega
    .exact g
   have:=tie w hw g0 (jJ hk (by omega)) (by have:=jJ hk h3;omega);have q1:=dg this (show 0<=k by omega);rw[h2,h4,rU]at q1;have:=bV hs hax;omega
  by_cases hx0:x1=0
  .subst x1;exact alone (Nt.mem (Nt.symm hcd)) (show 0<y1 by omega) (by omega) (by omega) (by omega) (by omega)
  by_cases hy0:y1=0
  .subst y1;exact alone (Nt.mem hcd) (show 0<x1 by omega) (by omega) (by omega) (by omega) (by omega)
  have c0:ev (lin a x) (pt c)=0:=by
   rcases dt.1 (show x1*ev (lin a x) (pt c)=0 by omega)with g|g
   .omega
   .exact g
  have d0:ev (lin a x) (pt d)=0:=by
   rcases dt.1 (show y1*ev (lin a x) (pt d)=0 by omega)with g|g
   .omega
   .exact g
  have fin:∀{c d:V} {x1 y1:Int},side c d->0<x1->0<y1->ev (lin a x) (pt c)=0->ev (lin a x) (pt d)=0->x1*ev (lin a b) (pt c)+y1*ev (lin a b) (pt d)=t*ev (lin a b) (pt x)->x1+y1=s+t->ev (lin a b) (pt c)<=ev (lin a b) (pt d)->False:=by
   intro c d x1 y1 hcd hx1 hy1 c0 d0 hs1 hs2 hle;have hca:c≠a:=λe=>by subst e;rw[cK]at hs1;exact hno ⟨d,hcd,jJ hy1 (by omega)⟩
   have hda:d≠a:=λe=>by subst e;rw[cK]at hs1;exact hno ⟨c,Nt.symm hcd,jJ hx1 (by omega)⟩
   rcases br 0 (ev (lin a b) (pt c))with g|g
   ·
    have hlt:ev (lin a b) (pt c)<ev (lin a b) (pt x):=by
     have q1:=dg hle (show 0<=y1 by omega);have q2:(s+t)*ev (lin a b) (pt c)<=t*ev (lin a b) (pt x):=by rw[<-hs2,rU];omega
     have q3:=bV hs hax;refine lD.1 λh=> ?_;have q4:=dg h (show 0<=s+t by omega);have q5:(s+t)*ev (lin a b) (pt x)=s*ev (lin a b) (pt x)+t*ev (lin a b) (pt x):=rU _ _ _;omega
    have hk:0<=ev (lin v u) (pt c):=by have r:=xX (b:=b) c0 (lin v u);have q1:=mpp (show 0<=ev (lin a b) (pt x)-ev (lin a b) (pt c) by omega) (show 0<=ev (lin v u) (pt a) by omega);have q2:=mpp (show 0<=ev (lin a b) (pt c) by omega) hkx;exact nnl hax (by grind)
    have:=tie c (Nt.mem hcd) c0 g hk;omega
   ·
    have hd:0<ev (lin a b) (pt d):=by have:=mpn (show 0<=x1 by omega) g;exact jJ hy1 (by omega)
    have k:a=c\/a=d:=Nt.clear hcd (Nt.mem hab) (ev (lin a b) (pt d)) (-(ev (lin a b) (pt c))) (ev (lin a b) (pt d)-ev (lin a b) (pt c)) (by omega) (by omega) (aBt (by omega) c0 d0) (by omega);grind
  rcases vT (ev (lin a b) (pt c)) (ev (lin a b) (pt d))with h|h
  .exact fin (x1:=x1) (y1:=y1) hcd (by omega) (by omega) c0 d0 (by omega) (by omega) h
  .exact fin (x1:=y1) (y1:=x1) (Nt.symm hcd) (by omega) (by omega) d0 c0 (by omega) (by omega) h
 have hG:∀c d,side c d->fY [ln (pt a) P,lin x a,lin v u] ⟨c,d⟩:=by
  intro c d hcd;refine Fv λx1 y1 hx1 hy1 hxy hq=> ?_;have e1:∀g:P3,x1*ev g (pt c)+y1*ev g (pt d)=ev g (cmb x1 (pt c) y1 (pt d)):=λg=>(ao _ _ _ _ _).symm;simp only[bT,cn,or_false,forall_eq_or_imp,forall_eq,e1]at hq;obtain⟨h1,h2,h3⟩:=hq;rw[ki]at h2;have h2':=h2;rw[ao]at h2';by_cases hc:x1*ev (lin a x) (pt c)<0
  .have hx0:0<x1:=by
    rcases br 0 x1 with g|g
    .exact g
    .grind
   exact S.wedge hcd hx0 hy1 h1 h3 (by omega) (wV hx0 hc)
  .have hd:y1*ev (lin a x) (pt d)<0:=by omega
   have hy0:0<y1:=by
    rcases br 0 y1 with g|g
    .exact g
    .grind
   rw[kj]at h1 h2 h3;exact S.wedge (Nt.symm hcd) hy0 hx1 h1 h3 (by omega) (wV hy0 hd)
 have hγP:ev (lin a x) P<0:=by have:=S.ang (w:=x) P;rw[show ev (ln (pt a) P) P=0 from Ax _ _,eL]at this;have:=bV p1 hrx;exact wV p1 (by omega)
 have hL2:=il hne;have hpt:∃z,In [ln (pt a) P,lin x a,lin v u] z/\In (thin a b N) z:=by
  let K:Int:=1+(ev (mO a b N) (pt x)).natAbs
  have hK:0<K:=by show 0<1+((ev (mO a b N) (pt x)).natAbs:Int);omega
  have hKdef:ev (mO a b N) (pt x)<=K-1/\ -(K-1)<=ev (mO a b N) (pt x):=by show _<=1+((ev (mO a b N) (pt x)).natAbs:Int)-1/\_;omega
  have hFa:1<=ev (mO a b N) P:=by rw[lN];omega
  generalize K=K at*;obtain⟨M,hM⟩:∃M:Int,0<=M/\0<M*ev (lin v u) (pt a)+(K*ev (lin v u) P+ev (lin v u) (pt x))/\0<M*bm a b+(K*(ev (ae b a) P-N*ev (lin a b) P)+(ev (ae b a) (pt x)-N*ev (lin a b) (pt x))):=by
   refine⟨1+(K*ev (lin v u) P+ev (lin v u) (pt x)).natAbs+(K*(ev (ae b a) P-N*ev (lin a b) P)+(ev (ae b a) (pt x)-N*ev (lin a b) (pt x))).natAbs,by omega,?_,?_⟩
   .have:=dg (show 1<=ev (lin v u) (pt a) by omega) (show 0<=1+((K*ev (lin v u) P+ev (lin v u) (pt x)).natAbs:Int)+((K*(ev (ae b a) P-N*ev (lin a b) P)+(ev (ae b a) (pt x)-N*ev (lin a b) (pt x))).natAbs:Int) by omega);omega
   .have:=dg (show 1<=bm a b by omega) (show 0<=1+((K*ev (lin v u) P+ev (lin v u) (pt x)).natAbs:Int)+((K*(ev (ae b a) P-N*ev (lin a b) P)+(ev (ae b a) (pt x)-N*ev (lin a b) (pt x))).natAbs:Int) by omega);omega
  obtain⟨hM0,hM1,hM2⟩:=hM;have hzd:0<(cmb 1 (cmb M (pt a) K P) 1 (pt x)).d:=by simp only[cmb,pt];have:=bV hK p0;omega
  refine⟨cmb 1 (cmb M (pt a) K P) 1 (pt x),⟨hzd,?_⟩,?_⟩
  .simp only[bT,cn,or_false,forall_eq_or_imp,forall_eq];refine⟨?_,?_,?_⟩
   .rw[ao,ao,hra,show ev (ln (pt a) P) P=0 from Ax _ _];omega
   .rw[ki,ao,ao,cK,ci];have:=gm hK hγP;omega
   .rw[ao,ao];omega
  .rw[lS];refine⟨hzd,?_,?_,?_⟩
   .rw[ao,ao,cK];have:=bV hK p1;omega
   .have g:0<ev (mO a b N) (cmb 1 (cmb M (pt a) K P) 1 (pt x)):=by
     rw[ao,ao];have z:ev (mO a b N) (pt a)=0:=by rw[lN,kR,cK];omega
     rw[z];have:=dg hFa (show 0<=K by omega);omega
    rw[lN]at g;omega
   .rw[ao,ao,ao,ao,ph,AC,cK];grind
 obtain⟨z,hz1,hz2⟩:=hpt;have hzi:=hin z hz2;refine hno ⟨x,H.max a (Nt.mem hab) x S.mem hane hopen ?_,hax⟩;rw[<-hzi];refine H.same _ _ (by simp only[cmb,pt];omega) hz1.1 λc d hcd hm=> ?_;obtain⟨x1,y1,s,t,hx1,hy1,hxy,hs,ht,he⟩:=hm;rcases br 0 t with ht0|ht0
 .obtain⟨f,hf,g⟩:=hG c d hcd x1 y1 hx1 hy1 hxy;have eF:=congrArg (ev f) he;rw[ao,ao]at eF;change x1*ev f (pt c)+y1*ev f (pt d)<=0 at g;change x1*ev f (pt c)+y1*ev f (pt d)=_ at eF;have g1:=bV ht0 (hz1.2 f hf);have g2:0<=s*ev f (cmb 1 (pt a) 1 (pt x)):=mpp hs (by
   simp only[bT,cn,or_false]at hf;rcases hf with rfl|rfl|rfl
   .grind
   .rw[ki,vg];omega
   grind)
  omega
 .have t0:t=0:=by omega
  subst t0;have hs0:0<s:=by
   have:=congrArg P3.d he;simp only[cmb,pt]at this;rcases br 0 s with g|g
   .exact g
   .omega
  exact hopen c d hcd x1 y1 s s hx1 hy1 hs0 hs0 (Xi he)
end
end Geo
end
section
namespace Geo
section
variable {W:List V} {side:V->V->Prop} {ins:P3->Bool}
structure Tri(W:List V)(side:V->V->Prop)(ins:P3->Bool)(a b c:V):Prop where
 ab:side a b
 bc:side b c
 ca:side c a
 left:0<ev (lin a b) (pt c)
 empty:∀w∈W,0<=ev (lin a b) (pt w)->0<=ev (lin b c) (pt w)->0<=ev (lin c a) (pt w)->w=a\/w=b\/w=c
 mid:ins ⟨a.x+b.x+c.x,a.y+b.y+c.y,3⟩=true
def ctr(a b c:V):P3:=⟨a.x+b.x+c.x,a.y+b.y+c.y,3⟩
def Tri.rot{a b c:V}(h:Tri W side ins a b c):Tri W side ins b c a:=by
 refine⟨h.bc,h.ca,h.ab,by rw[iG];exact h.left,λw hw h1 h2 h3=> ?_,?_⟩
 .rcases h.empty w hw h3 h1 h2 with e|e|e
  .grind
  .exact .inl e
  grind
 .have:=h.mid;grind
def PG{a b c:V}(h:0<ev (lin a b) (pt c)):In [lin a b,lin b c,lin c a] (ctr a b c):=by
 refine⟨by show(0:Int)<3;omega,?_⟩;have e:∀f:P3,ev f (ctr a b c)=ev f (pt a)+ev f (pt b)+ev f (pt c):=λf=>by unfold ev ctr pt;grind
 have e1:ev (lin c a) (pt b)=ev (lin a b) (pt c):=by unfold ev lin pt;grind
 simp only[bT,cn,or_false,forall_eq_or_imp,forall_eq];refine⟨?_,?_,?_⟩
 .rw[e,cK,ci];omega
 .rw[e,cK,ci,iG a b c];omega
 .rw[e,cK,ci,e1];omega
def XI(N:Net W side){a b c:V}(hab:side a b)(hbc:side b c)(hca:side c a)(hD:0<ev (lin a b) (pt c))(hv:∀w∈W,0<=ev (lin a b) (pt w)->0<=ev (lin b c) (pt w)->0<=ev (lin c a) (pt w)->w=a\/w=b\/w=c):
  ∀u v,side u v->fY [lin a b,lin b c,lin c a] ⟨u,v⟩:=by
 have sector:∀x,side a x->¬(0<ev (lin a b) (pt x)/\0<ev (lin c a) (pt x)):=by
  rintro x hax ⟨h1,h2⟩;by_cases h3:0<=ev (lin b c) (pt x)
  .rcases hv x (N.mem (N.symm hax)) (by omega) h3 (by omega)with e|e|e<;>subst e
   .rw[cK]at h1;omega
   .rw[ci]at h1;omega
   .rw[cK]at h2;omega
  ·
   have hp:ev (lin b c) (cmb (-(ev (lin b c) (pt x))) (pt a) (ev (lin a b) (pt c)) (pt x))=0:=by rw[ao,iG a b c,nf,fx];omega
   have g:=qv (a:=b) (b:=c) (c:=a) hp;rw[iG a b c]at g;have p1:=bV hD h1;have p2:=bV hD h2;have v1:ev (lin c a) (cmb (-(ev (lin b c) (pt x))) (pt a) (ev (lin a b) (pt c)) (pt x))=ev (lin a b) (pt c)*ev (lin c a) (pt x):=by rw[ao,ci];omega
   have v2:ev (lin a b) (cmb (-(ev (lin b c) (pt x))) (pt a) (ev (lin a b) (pt c)) (pt x))=ev (lin a b) (pt c)*ev (lin a b) (pt x):=by rw[ao,cK];omega
   rw[v1,v2]at g;have:cmb (ev (lin a b) (pt c)* -(ev (lin b c) (pt x))) (pt a) (ev (lin a b) (pt c)*ev (lin a b) (pt c)) (pt x)=cmb (ev (lin a b) (pt c)*ev (lin c a) (pt x)) (pt b) (ev (lin a b) (pt c)*ev (lin a b) (pt x)) (pt c):=by rw[g];unfold cmb;simp only[P3.mk.injEq];refine⟨?_,?_,?_⟩<;>grind
   rcases N.apart hax hbc _ _ _ _ (bV hD (by omega)) (bV hD hD) p2 p1 this with⟨rfl,rfl⟩|⟨rfl,rfl⟩
   .exact N.ne hab rfl
   .exact N.ne hca rfl
 have K:Corner W side a b c 0:=by
  refine⟨hab,N.symm hca,hD,sector,jH _,λw hw ha h1 h2=> ?_⟩;refine Ca.1 λh3=> ?_;rcases hv w hw h1 (by omega) h2 with e|e|e
  .exact ha e
  .rw[e,cK]at h3;omega
  .rw[e,ci]at h3;omega
 intro u v huv x y hx hy hxy;obtain⟨f,hf,g⟩:=K.free N huv x y hx hy hxy;simp only[bT,cn,or_false]at hf;rcases hf with rfl|rfl|rfl
 .grind
 .grind
 .have e3:∀w:V,ev (over b c 0) (pt w)=ev (lin b c) (pt w):=λw=>by rw[lT];omega
  grind
def Tri.free(N:Net W side){a b c:V}(h:Tri W side ins a b c):∀u v,side u v->fY [lin a b,lin b c,lin c a] ⟨u,v⟩:=XI N h.ab h.bc h.ca h.left h.empty
open Classical in
def AN(H:Filled W side ins){a b:V}(hab:side a b)(hL:Lft ins a b):∃c,Tri W side ins a b c:=by
 have N:=H.net;have hne:=N.ne hab;have hL2:=il hne;obtain⟨x0,hx0,hα0⟩:=Vg H hab hL;have hl:(W.filter λx=>decide (side a x/\0<ev (lin a b) (pt x)))≠[] :=IC (iX.2 ⟨N.mem (N.symm hx0),by grind⟩);obtain⟨c,hc,hm⟩:=BC (λx:V=> -(ev (ae a b) (pt x))) (λx:V=>ev (lin a b) (pt x)) hl (by grind);obtain⟨hac,hD⟩:=of_decide_eq_true (iX.1 hc).2;have ang:∀x:V,bm a b*ev (lin a c) (pt x)=ev (ae a b) (pt c)*ev (lin a b) (pt x)-ev (lin a b) (pt c)*ev (ae a b) (pt x):=λx=>by unfold bm ev ae lin pt;grind
 have hn:∀x,side a x->¬(0<ev (lin a b) (pt x)/\0<ev (lin c a) (pt x)):=by rintro x hx ⟨h1,h2⟩;have:=hm x (iX.2 ⟨N.mem (N.symm hx),by grind⟩);have e1:=ang x;rw[ki]at h2;have:=gm hL2 (show ev (lin a c) (pt x)<0 by omega);rw[nf,nf]at*;have e2:ev (lin a b) (pt c)*ev (ae a b) (pt x)=ev (ae a b) (pt x)*ev (lin a b) (pt c):=fx _ _;omega
 obtain⟨e1,e2,e3,e4⟩:=ear H hab hac hD hn hL;refine⟨c,hab,e4,N.symm hac,hD,e1,e3 _ ?_⟩;obtain⟨c0,c1⟩:=PG hD;refine⟨c0,λf hf=> ?_⟩;simp only[bT,cn,or_false]at hf;rcases hf with rfl|rfl|rfl
 .exact c1 _ (by simp)
 .exact c1 _ (by simp)
 .have:=c1 (lin b c) (by simp);rw[lT];show 0<ev (lin b c) (ctr a b c)-0*3;omega
def UZ(N:Net W side){a b c c':V}(h:Tri W side ins a b c)(h':Tri W side ins a b c'):c=c':=by
 refine fH λhne=> ?_;have cW:=N.mem h.ca;have cW':=N.mem h'.ca;have d:=h.left;have d':=h'.left;have hca:c≠a:=N.ne h.ca;have hca':c'≠a:=N.ne h'.ca;have hcb:c≠b:=λe=>N.ne h.bc e.symm;have hcb':c'≠b:=λe=>N.ne h'.bc e.symm;have n1:¬(0<=ev (lin b c) (pt c')/\0<=ev (lin c a) (pt c')):=λ⟨h1,h2⟩=>by
  rcases h.empty c' cW' (by omega) h1 h2 with e|e|e
  .exact hca' e
  .exact hcb' e
  grind
 have n2:¬(0<=ev (lin b c') (pt c)/\0<=ev (lin c' a) (pt c)):=λ⟨h1,h2⟩=>by
  rcases h'.empty c cW (by omega) h1 h2 with e|e|e
  .exact hca e
  .exact hcb e
  grind
 have s1:ev (lin b c') (pt c)= -ev (lin b c) (pt c'):=by unfold ev lin pt;grind
 have s2:ev (lin c' a) (pt c)= -ev (lin c a) (pt c'):=by unfold ev lin pt;grind
 have key:∀{c c':V},side c a->side b c->side c' a->side b c'->c≠c'->0<ev (lin a b) (pt c)->0<ev (lin a b) (pt c')->ev (lin b c) (pt c')<0->0<ev (lin c a) (pt c')->False:=by
  intro c c' hca hbc hca' hbc' hne d d' h1 h2;have hp:ev (lin b c) (cmb (-(ev (lin b c) (pt c'))) (pt a) (ev (lin a b) (pt c)) (pt c'))=0:=by rw[ao,iG a b c,nf,fx];omega
  have g:=qv (a:=b) (b:=c) (c:=a) hp;rw[iG a b c]at g;have v1:ev (lin c a) (cmb (-(ev (lin b c) (pt c'))) (pt a) (ev (lin a b) (pt c)) (pt c'))=ev (lin a b) (pt c)*ev (lin c a) (pt c'):=by rw[ao,ci];omega
  have v2:ev (lin a b) (cmb (-(ev (lin b c) (pt c'))) (pt a) (ev (lin a b) (pt c)) (pt c'))=ev (lin a b) (pt c)*ev (lin a b) (pt c'):=by rw[ao,cK];omega
  rw[v1,v2]at g;have:cmb (ev (lin a b) (pt c)* -(ev (lin b c) (pt c'))) (pt a) (ev (lin a b) (pt c)*ev (lin a b) (pt c)) (pt c')=cmb (ev (lin a b) (pt c)*ev (lin c a) (pt c')) (pt b) (ev (lin a b) (pt c)*ev (lin a b) (pt c')) (pt c):=by rw[g];unfold cmb;simp only[P3.mk.injEq];refine⟨?_,?_,?_⟩<;>grind
  rcases N.apart (N.symm hca') hbc _ _ _ _ (bV d (by omega)) (bV d d) (bV d h2) (bV d d') this with⟨e,e'⟩|⟨e,e'⟩
  .grind
  .exact N.ne hbc' e'.symm
 by_cases g:ev (lin b c) (pt c')<0
 .refine key h.ca h.bc h'.ca h'.bc hne d d' g ?_;omega
 .have g3:ev (lin b c') (pt c)<0:=by omega
  exact key h'.ca h'.bc h.ca h.bc (by grind) d' d g3 (by omega)
end
end Geo
end
section
namespace Geo
section
variable {W:List V} {side:V->V->Prop} {ins:P3->Bool}
def Net.ray(N:Net W side){a b v:V}(hab:side a b)(hav:side a v)(h0:ev (lin a b) (pt v)=0)(h1:0<=ev (ae a b) (pt v)):v=b:=by
 have hL:=il (N.ne hab);have g:=kh h0;by_cases h2:ev (ae a b) (pt v)<=bm a b
 .rcases N.clear hab (N.mem (N.symm hav)) (bm a b*(pt v).d-ev (ae a b) (pt v)) (ev (ae a b) (pt v)) (bm a b) (by show 0<=bm a b*1-_;omega) h1 (by rw[g];unfold cmb pt;simp) hL with e|e
  .exact absurd e.symm (N.ne hav)
  .exact e
 .rcases N.clear hav (N.mem (N.symm hab)) (ev (ae a b) (pt v)-bm a b) (bm a b) (ev (ae a b) (pt v)) (by omega) (by omega) (by unfold cmb pt at g|-;grind) (by omega)with e|e
  .exact absurd e.symm (N.ne hab)
  grind
def tw(s t:Int)(a b:V):(cmb s (pt a) t (pt b)).d=s+t:=by unfold cmb pt;simp
def Net.off(N:Net W side){a b u v:V}(hab:side a b)(huv:side u v):Off a b ⟨u,v⟩\/(u=a/\v=b)\/(u=b/\v=a):=by
 have ray:∀{a b v:V},side a b->side a v->v=b\/(ev (lin a b) (pt v)≠0\/ev (ae a b) (pt v)<0):=λ{a b v} hab hav=>by
  by_cases h0:ev (lin a b) (pt v)=0
  .by_cases h1:0<=ev (ae a b) (pt v)
   .exact .inl (N.ray hab hav h0 h1)
   omega
  omega
 have ray':∀{a b v:V},side a b->side b v->v=a\/(ev (lin a b) (pt v)≠0\/ev (ae b a) (pt v)<0):=λ{a b v} hab hbv=>by
  rcases ray (N.symm hab) hbv with e|e|e
  .exact .inl e
  .exact .inr (.inl (by rw[ki]at e;omega))
  omega
 by_cases hm:fX ⟨u,v⟩ (pt a) (pt b)
 .obtain⟨x,y,s,t,hx,hy,hxy,hs,ht,e⟩:=hm;have hd:=congrArg P3.d e;rw[tw,tw]at hd;have one:u=a\/u=b\/v=a\/v=b:=by
   rcases br 0 x with hx'|hx'
   .rcases br 0 y with hy'|hy'
    .rcases N.same hab huv hx' hy' hs ht e with⟨e1,_⟩|⟨e1,_⟩
     .exact .inl e1
     grind
    .have y0:y=0:=by omega
     subst y0;rcases N.clear hab (N.mem huv) s t x hs ht (by rw[<-e];unfold cmb;simp) hx' with e1|e1
     .exact .inl e1
     grind
   .have x0:x=0:=by omega
    subst x0;rcases N.clear hab (N.mem (N.symm huv)) s t y hs ht (by rw[<-e];unfold cmb;simp) (by omega)with e1|e1
    .grind
    grind
  rcases one with rfl|rfl|rfl|rfl
  .rcases ray hab huv with e1|e1
   .grind
   .exact .inl ⟨N.ne huv,.inr (.inl ⟨rfl,e1⟩)⟩
  .rcases ray' hab huv with e1|e1
   .grind
   .exact .inl ⟨N.ne huv,.inr (.inr (.inr (.inl ⟨rfl,e1⟩)))⟩
  .rcases ray hab (N.symm huv)with e1|e1
   .grind
   .exact .inl ⟨N.ne huv,.inr (.inr (.inl ⟨rfl,e1⟩))⟩
  .rcases ray' hab (N.symm huv)with e1|e1
   .grind
   .exact .inl ⟨N.ne huv,.inr (.inr (.inr (.inr ⟨rfl,e1⟩)))⟩
 .exact .inl ⟨N.ne huv,.inl hm⟩
open Classical in
def Net.thin(N:Net W side){a b:V}(hab:side a b):∃N0:Int,1<=N0/\∀n,N0<=n->∀u v,side u v->fY (thin a b n) ⟨u,v⟩:=by
 obtain⟨N0,h1,h2⟩:=LR (N.ne hab) (l:=(W.flatMap λu=>W.map λv=>(⟨u,v⟩:S)).filter λe=>decide (side e.a e.b)) λe he=>by have:=of_decide_eq_true (iX.1 he).2;exact N.off hab this
 refine⟨N0,h1,λn hn u v huv=>h2 n hn ⟨u,v⟩ (iX.2 ⟨?_,decide_eq_true huv⟩)⟩;exact cZ.2 ⟨u,N.mem huv,bZ.2 ⟨v,N.mem (N.symm huv),rfl⟩⟩
def qZ{a b:V}{n m:Int}(hnm:n<=m){q:P3}(h:In (thin a b m) q):In (thin a b n) q:=by obtain⟨h0,h1,h2,h3⟩:=lS.1 h;have:=lz hnm (show 0<=ev (lin a b) q by omega);exact lS.2 ⟨h0,h1,by omega,by omega⟩
open Classical in
def Dx{a b c:V}(hne:a≠b)(n:Int){h:Int}(hc:0<ev (lin a b) (pt c))(hh:h<ev (lin a b) (pt c)):∃q,In (thin a b n) q/\In [lin a b,lin c a,over b c h] q:=by obtain⟨q,h1,h2⟩:=Lft.near (ins:=λp=>decide (In (thin a b n) p)) hne ⟨n,λm hm q hq=>decide_eq_true (qZ hm hq)⟩ hc hh;grind
def wh{a b:V}(hne:a≠b)(n:Int):∃q,In (thin a b n) q:=by
 have hL2:=il hne;have e9:(b.x-a.x)*(b.x-a.x)-(b.y-a.y)* -(b.y-a.y)=bm a b:=by unfold bm;grind
 obtain⟨M0,hM0,hI⟩:=n8 hne (x:= -(b.y-a.y)) (y:=b.x-a.x) (by omega) n;exact⟨_,hI _ (jH _)⟩
structure Calm(W:List V)(side:V->V->Prop)(ins:P3->Bool):Prop where
 net:Net W side
 same:∀p q:P3,0<p.d->0<q.d->(∀u v,side u v->¬fX ⟨u,v⟩ p q)->ins p=ins q
def Filled.calm(H:Filled W side ins):Calm W side ins:=⟨H.net,H.same⟩
def Calm.const(H:Calm W side ins){F:List P3}(hF:∀u v,side u v->fY F ⟨u,v⟩){p q:P3}(hp:In F p)(hq:In F q):ins p=ins q:=
 H.same p q hp.1 hq.1 λu v huv=>(hF u v huv).no hp hq
def xu(H:Calm W side ins){a b:V}(hab:side a b)(h:∀n:Int,∃q,In (Geo.thin a b n) q/\ins q=true):Lft ins a b:=by obtain⟨N0,h1,h2⟩:=H.net.thin hab;obtain⟨q,hq,hi⟩:=h N0;refine⟨N0,λn hn p hp=> ?_⟩;rw[<-hi];exact H.const (h2 N0 (jH _)) (qZ hn hp) hq
def Lft.not{a b:V}(hne:a≠b)(h:Lft ins a b):¬Lft (λp=> !ins p) a b:=by obtain⟨n,h⟩:=h;rintro⟨m,h'⟩;obtain⟨q,hq⟩:=wh hne (max n m);grind
def aAR(H:Calm W side ins){a b:V}(hab:side a b):Lft ins a b\/Lft (λp=> !ins p) a b:=by
 obtain⟨N0,h1,h2⟩:=H.net.thin hab;obtain⟨q,hq⟩:=wh (H.net.ne hab) N0;by_cases hi:ins q=true
 .exact .inl ⟨N0,λn hn p hp=>by rw[<-hi];exact H.const (h2 N0 (jH _)) (qZ hn hp) hq⟩
 .exact .inr ⟨N0,λn hn p hp=>by show(!ins p)=true;rw[<-H.const (h2 N0 (jH _)) hq (qZ hn hp)];grind⟩
def Tri.lft(H:Filled W side ins){a b c:V}(h:Tri W side ins a b c):Lft ins a b:=by
 have N:=H.net;refine xu H.calm h.ab λn=> ?_;obtain⟨q,hq,hq'⟩:=Dx (N.ne h.ab) n h.left (h:=0) h.left;refine⟨q,hq,?_⟩;have:=h.mid;rw[<-this];refine H.const (h.free N) ⟨hq.1,λf hf=> ?_⟩ (PG h.left);simp only[bT,cn,or_false]at hf;rcases hf with rfl|rfl|rfl
 .exact hq'.2 _ (by simp)
 .have:=hq'.2 (over b c 0) (by simp);rw[lT]at this;omega
 .exact hq'.2 _ (by simp)
end
end Geo
end
section
namespace Geo
def WI{a b v:V}{s t k:Int}(h1:bL a 4000=true)(h2:bL b 4000=true)(hs:0<=s)(ht:0<=t)(hk:0<k)(h:cmb s (pt a) t (pt b)=cmb k (pt v) 0 (pt v)):onS ⟨a,b⟩ v=true:=by
 have hv:bJ ⟨a,b⟩=true:=by unfold bJ;simp[h1,h2]
 rw[gX hv];simp only[cmb,pt,P3.mk.injEq]at h;have box:∀p q r:Int,s*p+t*q=k*r->min p q<=r/\r<=max p q:=λp q r h=>by
  have e:k=s+t:=by omega
  have l1:k*min p q<=k*r:=by have:=dg (Int.min_le_left p q) hs;have:=dg (Int.min_le_right p q) ht;rw[<-h,e,rU];omega
  have l2:k*r<=k*max p q:=by have:=dg (Int.le_max_left p q) hs;have:=dg (Int.le_max_right p q) ht;rw[<-h,e,rU];omega
  simp_all
 refine⟨?_,?_⟩
 .unfold fV;grind
 .have:k*cross (sub b a) (sub v a)=0:=by
   have e:k=s+t:=by omega
   subst e;unfold cross sub;dsimp only;grind
  rcases dt.1 this with g|g
  .omega
  .exact g
def aBs{a b c d:V}(hne:c≠d)(h1:ev (lin c d) (pt a)=0)(h2:ev (lin c d) (pt b)=0):ev (lin a b) (pt c)=0:=by
 have g1:=kh h1;have g2:=kh h2;have hL:=il hne;have e:bm c d*(bm c d*ev (lin a b) (pt c))=0:=by generalize ev (ae c d) (pt a)=α at*;generalize ev (ae c d) (pt b)=β at*;generalize bm c d=L at*;unfold cmb pt at g1 g2;simp only[P3.mk.injEq]at g1 g2;unfold ev lin pt;dsimp only;grind
 rcases dt.1 e with g|g
 .omega
 .rcases dt.1 g with g|g
  .omega
  .exact g
structure Segs(W:List V)(side:V->V->Prop):Prop where
 symm:∀{a b},side a b->side b a
 ne:∀{a b},side a b->a≠b
 mem:∀{a b},side a b->a∈W
 near:∀v∈W,bL v 4000=true
 clear:∀{a b v},side a b->v∈W->onS ⟨a,b⟩ v=true->v=a\/v=b
 cross:∀{a b c d},side a b->side c d->cC ⟨a,b⟩ ⟨c,d⟩≠2
def LM{a b c d:V}{s t:Int}(hs:0<s)(ht:0<t)(h:s*ev (lin a b) (pt c)+t*ev (lin a b) (pt d)=0)(hc:ev (lin a b) (pt c)≠0):turn a b c*turn a b d<0:=by
 unfold turn;rw[wN,<-fP,<-fP];rcases mZ hc with g|g
 .have:=gm hs g;exact .inr ⟨g,SM (a:=t) (by omega) (by omega)⟩
 .have:=bV hs g;refine .inl ⟨g,lD.1 λh'=> ?_⟩;have:=mpp (show 0<=t by omega) h';omega
section
variable {W:List V} {side:V->V->Prop}
def Segs.clear'(H:Segs W side){a b v:V}(hab:side a b)(hv:v∈W)(s t k:Int)(hs:0<=s)(ht:0<=t)(h:cmb s (pt a) t (pt b)=cmb k (pt v) 0 (pt v))(hk:0<k):v=a\/v=b:=
 H.clear hab hv (WI (H.near _ (H.mem hab)) (H.near _ (H.mem (H.symm hab))) hs ht hk h)
def Segs.beyond(H:Segs W side){a b c d:V}(hab:side a b)(hcd:side c d)(hc:ev (lin a b) (pt c)=0)(hd:ev (lin a b) (pt d)=0)
  (h1:ev (ae a b) (pt c)<ev (ae a b) (pt d)) {x y s t:Int} (hx:0<x) (hy:0<y) (hs:0<s) (ht:0<t) (h:cmb x (pt a) y (pt b)=cmb s (pt c) t (pt d)):a=c/\b=d:=by
 have hL:=il (H.ne hab);have gc:=kh hc;have gd:=kh hd;have wc:=H.mem hcd;have wd:=H.mem (H.symm hcd);have e1:x*ev (ae a b) (pt a)+y*ev (ae a b) (pt b)=s*ev (ae a b) (pt c)+t*ev (ae a b) (pt d):=by rw[<-ao,<-ao,h]
 rw[kR,ph]at e1;have ed:=congrArg P3.d h;rw[tw,tw]at ed;have one:∀v:V,(pt v).d=1:=λ_=>rfl;rw[one]at gc gd;have p1:=bV hy hL;have c0:ev (ae a b) (pt c)<bm a b:=lD.1 λg=>by
  have:=dg g (show 0<=s by omega);have:=SO (show bm a b<ev (ae a b) (pt d) by omega) ht;have e:(x+y)*bm a b=(s+t)*bm a b:=by rw[ed]
  rw[rU,rU]at e;have:=bV hx hL;omega
 have d0:0<ev (ae a b) (pt d):=lD.1 λg=>by have:=mpn (show 0<=t by omega) g;have:=gm hs (show ev (ae a b) (pt c)<0 by omega);omega
 have hac:a=c:=by
  rcases br (ev (ae a b) (pt c)) 0 with g|g
  .rcases H.clear' hcd (H.mem hab) (ev (ae a b) (pt d)) (-(ev (ae a b) (pt c))) (ev (ae a b) (pt d)-ev (ae a b) (pt c)) (by omega) (by omega) (by
    unfold cmb pt at gc gd|-;simp only[P3.mk.injEq]at gc gd|-;have hL0:bm a b≠0:=by omega
    refine⟨?_,?_,?_⟩
    .refine mg hL0 ?_;grind
    .refine mg hL0 ?_;grind
    .omega) (by omega)with e|e
   .exact e
   .rw[<-e,kR]at d0;omega
  .rcases H.clear' hab wc (bm a b-ev (ae a b) (pt c)) (ev (ae a b) (pt c)) (bm a b) (by omega) g (by rw[yb]at gc;rw[gc];unfold cmb pt;simp) hL with e|e
   .exact e.symm
   .rw[e,ph]at c0;omega
 refine⟨hac,?_⟩;rcases br (bm a b) (ev (ae a b) (pt d))with g|g
 .rcases H.clear' hcd (H.mem (H.symm hab)) (ev (ae a b) (pt d)-bm a b) (bm a b) (ev (ae a b) (pt d)) (by omega) (by omega) (by unfold cmb pt at gd|-;grind) (by omega)with e|e
  .exact absurd (by grind) (H.ne hab)
  .exact e
 .rcases H.clear' hab wd (bm a b-ev (ae a b) (pt d)) (ev (ae a b) (pt d)) (bm a b) (by omega) (by omega) (by rw[yb]at gd;rw[gd];unfold cmb pt;simp) hL with e|e
  .grind
  grind
def Segs.net(H:Segs W side):Net W side:=by
 refine⟨H.symm,H.ne,H.mem,λhab hv s t k hs ht h hk=>H.clear' hab hv s t k hs ht h hk,?_⟩;intro a b c d hab hcd x y s t hx hy hs ht h;have na:=H.near _ (H.mem hab);have nb:=H.near _ (H.mem (H.symm hab));have nc:=H.near _ (H.mem hcd);have nd:=H.near _ (H.mem (H.symm hcd));have f1:s*ev (lin a b) (pt c)+t*ev (lin a b) (pt d)=0:=by rw[<-ao,<-h,ao,cK,ci];omega
 have f2:x*ev (lin c d) (pt a)+y*ev (lin c d) (pt b)=0:=by rw[<-ao,h,ao,cK,ci];omega
 by_cases hc:ev (lin a b) (pt c)=0
 .have hd:ev (lin a b) (pt d)=0:=by
   rw[hc,eL,vY]at f1;rcases dt.1 f1 with g|g
   .omega
   .exact g
  rcases br (ev (ae a b) (pt c)) (ev (ae a b) (pt d))with g|g
  .exact .inl (H.beyond hab hcd hc hd g hx hy hs ht h)
  .rcases br (ev (ae a b) (pt d)) (ev (ae a b) (pt c))with g'|g'
   .obtain⟨e1,e2⟩:=H.beyond hab (H.symm hcd) hd hc g' hx hy ht hs (by rw[h,kj]);grind
   .exfalso;have gc:=kh hc;have gd:=kh hd;rw[show ev (ae a b) (pt d)=ev (ae a b) (pt c) by omega]at gd;have hL:=il (H.ne hab);have one:∀v:V,(pt v).d=1:=λ_=>rfl;rw[one]at gc gd;rw[gc]at gd;simp only[P3.mk.injEq,pt]at gd;have q1:=mg (by grind) gd.1;have q2:=mg (by grind) gd.2.1;refine H.ne hcd ?_;cases c;simp_all
 .exfalso;have ha:ev (lin c d) (pt a)≠0:=λg=>by
   have g2:ev (lin c d) (pt b)=0:=by
    rw[g,eL,vY]at f2;rcases dt.1 f2 with g|g
    .omega
    .exact g
   have k1:=aBs (a:=a) (b:=b) (H.ne hcd) g g2;exact hc k1
  have hd:ev (lin a b) (pt d)≠0:=λg=>by
   rw[g,eL,nW]at f1;rcases dt.1 f1 with g|g
   .omega
   .exact hc g
  refine H.cross hab hcd ((oK ⟨a,b⟩ ⟨c,d⟩).cross (by simp[bJ,na,nb,nc,nd]) ?_ ⟨LM hs ht f1 hc,LM hx hy f2 ha⟩);rintro p hp ⟨o1,o2⟩;have z1:ev (lin a b) (pt p)=0:=by rw[fP];exact((gX (by simp[bJ,na,nb])).1 o1).2
  simp only[bT,cn,or_false]at hp;have z2:ev (lin c d) (pt p)=0:=by rw[fP];exact((gX (by simp[bJ,nc,nd])).1 o2).2
  rcases hp with rfl|rfl|rfl|rfl
  .exact ha z2
  .rw[z2,eL,nW]at f2;rcases dt.1 f2 with g|g
   .omega
   .exact ha g
  .exact hc z1
  omega
end
end Geo
end
namespace Geo
def ZQ{a b:V}{p:P3}(hne:a≠b)(h0:ev (lin a b) p=0)(x1:min a.x b.x*p.d<=p.x)(x2:p.x<=max a.x b.x*p.d)(y1:min a.y b.y*p.d<=p.y)(y2:p.y<=max a.y b.y*p.d):
  ∃x y k:Int,0<=x/\0<=y/\0<k/\x+y=k*p.d/\cmb x (pt a) y (pt b)=⟨k*p.x,k*p.y,k*p.d⟩:=by
 have hL:=il hne;have g:=kh h0;have one:∀u v q:Int,min u v*p.d<=q->q<=max u v*p.d->0<=(v-u)*(q-u*p.d)/\0<=(v-u)*(v*p.d-q):=λu v q h1 h2=>by
  rcases vT u v with h|h
  .rw[Int.min_eq_left h]at h1;rw[Int.max_eq_right h]at h2;exact⟨mpp (by omega) (by omega),mpp (by omega) (by omega)⟩
  .rw[Int.min_eq_right h]at h1;rw[Int.max_eq_left h]at h2;exact⟨mnn (by omega) (by omega),mnn (by omega) (by omega)⟩
 obtain⟨u1,u2⟩:=one _ _ _ x1 x2;obtain⟨v1,v2⟩:=one _ _ _ y1 y2;have ea:ev (ae a b) p=(b.x-a.x)*(p.x-a.x*p.d)+(b.y-a.y)*(p.y-a.y*p.d):=by unfold ev ae;grind
 have eb:bm a b*p.d-ev (ae a b) p=(b.x-a.x)*(b.x*p.d-p.x)+(b.y-a.y)*(b.y*p.d-p.y):=by unfold ev ae bm;grind
 exact⟨bm a b*p.d-ev (ae a b) p,ev (ae a b) p,bm a b,by omega,by omega,hL,by omega,g⟩
def Ot{e:S}{p:Pt}(hp:0<p.den)(hne:e.a≠e.b)(h:onP e p=true):∃x y k:Int,0<=x/\0<=y/\0<k/\x+y=k*p.den/\cmb x (pt e.a) y (pt e.b)=⟨k*p.x,k*p.y,k*p.den⟩:=by rw[Ph e p hp]at h;unfold onR at h;simp only[bw,decide_eq_true_eq,beq_iff_eq,oC]at h;obtain⟨⟨⟨⟨h1,h2⟩,h3⟩,h4⟩,h5⟩:=h;exact ZQ (p:=p3 p) hne (by rw[<-h5];unfold gQ cross sub toV ev lin p3;grind) h1 h2 h3 h4
def Nl{e:S}{v:V}(hv:bJ e=true)(hne:e.a≠e.b)(h:onS e v=true):∃x y k:Int,0<=x/\0<=y/\0<k/\x+y=k/\cmb x (pt e.a) y (pt e.b)=cmb k (pt v) 0 (pt v):=by obtain⟨x,y,k,h1,h2,h3,h4,h5⟩:=Ot (p:=eJ v) (by show(0:Int)<1;omega) hne ((L7 e v).2 ((gX hv).1 h));refine⟨x,y,k,h1,h2,h3,by rw[h4];show k*1=k;omega,?_⟩;rw[h5];unfold cmb pt eJ;simp
def L6{a b v:V}(ha:bL a 4000=true)(hb:bL b 4000=true):onS ⟨b,a⟩ v=onS ⟨a,b⟩ v:=by
 have v1:bJ ⟨a,b⟩=true:=by simp[bJ,ha,hb]
 have v2:bJ ⟨b,a⟩=true:=by simp[bJ,ha,hb]
 rw[fm,gX v1,gX v2];have e1:fV ⟨b,a⟩ v=fV ⟨a,b⟩ v:=by unfold fV;dsimp only;rw[Int.min_comm,Int.max_comm,Int.min_comm b.y,Int.max_comm b.y]
 have e2:cross (sub a b) (sub v b)= -cross (sub b a) (sub v a):=J7 b a v;grind
def FY{p:Pt}:∀{l:List S} {ins:Bool},(∃e∈l,onP e p=true)->eQ p l ins=1
 |[],_,⟨e,he,_⟩=>by cases he
 |e::l,ins,⟨e',he',ho⟩=>by
  unfold eQ;cases h:onP e p with
  |true=>rfl
  |false=>
   rcases bT.1 he' with rfl|he'
   .grind
   .exact FY ⟨e',he',ho⟩
def Zt{k:Int}(hk:0<k)(p:P3)(e:S):hit ⟨k*p.x,k*p.y,k*p.d⟩ e=hit p e:=by
 have e1:∀w,dn ⟨k*p.x,k*p.y,k*p.d⟩ w=dn p w:=λw=>decide_eq_decide.2 (by rw[show w.y*(k*p.d)=k*(w.y*p.d) by grind];simp_all)
 have e2:decide (0<ev (lin e.a e.b) ⟨k*p.x,k*p.y,k*p.d⟩)=decide (0<ev (lin e.a e.b) p):=decide_eq_decide.2 (by rw[show ev (lin e.a e.b) ⟨k*p.x,k*p.y,k*p.d⟩=k*ev (lin e.a e.b) p by unfold ev;grind];exact⟨λh=>SM h (by omega),λh=>bV hk h⟩)
 unfold hit;grind
def Nb{k:Int}(hk:0<k)(r:aH)(p:P3):cH r ⟨k*p.x,k*p.y,k*p.d⟩=cH r p:=by
 unfold cH
 congr 1
 exact nZ λe _=>Zt hk p e
def half(c:S):P3:=cmb 1 (pt c.a) 1 (pt c.b)
def OD(c:S):∃k:Int,0<k/\half c=⟨k*(p3 (ft c)).x,k*(p3 (ft c)).y,k*(p3 (ft c)).d⟩:=by
 unfold ft;split
 .refine⟨2,by omega,?_⟩;unfold half cmb pt p3;grind
 .refine⟨1,by omega,?_⟩;unfold half cmb pt p3;grind
def Uv(c:S):0<(ft c).den:=by unfold ft;grind
def Vd{r:aH}(hr:VR r){c:S}(ha:bL c.a 2000=true)(hb:bL c.b 2000=true)(h:∀e∈aJ r,∀x y s:Int,0<=x->0<=y->0<s->cmb x (pt e.a) y (pt e.b)≠cmb s (pt c.a) s (pt c.b)):
  bj r (ft c)=if cH r (half c)then 2 else 0:=by
 obtain⟨k,hk,e⟩:=OD c;rw[Dt hr (Cy ha hb) λe' he'=> ?_,e,Nb hk];refine vZ.2 λho=> ?_;have hne:=hr.sW he';obtain⟨x,y,m,h1,h2,h3,h4,h5⟩:=Ot (Uv c) hne ho;refine h e' he' (k*x) (k*y) m (mpp (by omega) h1) (mpp (by omega) h2) h3 ?_;unfold half at e;unfold cmb p3 at*;grind
def Nv{r:aH}(hr:VR r){c:S}(ha:bL c.a 2000=true)(hb:bL c.b 2000=true)(h:bj r (ft c)≠1):bj r (ft c)=if cH r (half c)then 2 else 0:=by obtain⟨k,hk,e⟩:=OD c;rw[Dt hr (Cy ha hb) λe' he'=> ?_,e,Nb hk];refine vZ.2 λho=>h ?_;unfold bj;rw[(jZ _).2 hr,Cy ha hb];exact FY ⟨e',he',ho⟩
end Geo
namespace Geo
structure Most(s:Shape)(v:List V)(acc:List S)(i k:Nat):Prop where
 chord:∀d∈acc,gq s d=true
 apart:acc.Pairwise λd e=>bh d e≠2
 most:∀a b,a<b->b<v.length->(a<i\/(a=i/\b<k))->gq s ⟨nth v a,nth v b⟩=true->(⟨nth v a,nth v b⟩:S)∈acc\/∃d∈acc,bh d ⟨nth v a,nth v b⟩=2
def Vj{s:Shape}{v:List V}{acc:List S}{i k:Nat}(h:Most s v acc i k):Most s v (oV s v acc i k) i (k+1):=by
 have up:∀{acc':List S},(∀d∈acc,d∈acc')->((gq s ⟨nth v i,nth v k⟩=true)->(⟨nth v i,nth v k⟩:S)∈acc'\/∃d∈acc',bh d ⟨nth v i,nth v k⟩=2)->
   ∀a b,a<b->b<v.length->(a<i\/(a=i/\b<k+1))->gq s ⟨nth v a,nth v b⟩=true->(⟨nth v a,nth v b⟩:S)∈acc'\/∃d∈acc',bh d ⟨nth v a,nth v b⟩=2:=by
  intro acc' hs hn a b hab hb hl hc;by_cases he:a=i/\b=k
  .grind
  .rcases h.most a b hab hb (by omega) hc with h1|⟨d,h1,h2⟩
   .grind
   grind
 unfold oV;cases hc:gq s ⟨nth v i,nth v k⟩&&(acc.all λd=>bh d ⟨nth v i,nth v k⟩ !=2)with
 |true=>
  rw[if_pos rfl];rw[bw,bk]at hc;refine⟨λd hd=> ?_,?_,by grind⟩
  .rcases bg.1 hd with hd|hd
   .exact h.chord d hd
   grind
  .rw[SJ];refine⟨h.apart,by grind,λd hd e he=> ?_⟩;grind
 |false=>
  refine⟨h.chord,h.apart,up (λd hd=>hd) λh1=> ?_⟩;grind
def Ll{s:Shape}{v:List V}{acc:List S}{i:Nat}(h:Most s v acc i (i+1)):∀m,Most s v (qJ s v acc i m) i (i+1+m)
 |0=>h
 |m+1=>Vj (Ll h m)
def Mw(s:Shape)(v:List V):∀i,Most s v (gp s v i) i (i+1)
 |0=>⟨(λd hd=>by cases hd),tT,(by grind)⟩
 |i+1=>by
  have h:=Ll (Mw s v i) (v.length-(i+1));exact⟨h.chord,h.apart,λa b h1 h2 h3=>h.most a b h1 h2 (by omega)⟩
def EW(s:Shape)(v:List V):Most s v (nM s v) v.length (v.length+1):=Mw s v v.length
end Geo
namespace Geo
def E2{s t:S}(h:cC s t=2):(bJ s&&bJ t)=true/\(∀p,p∈ends s t->¬cB s t p)/\turn s.a s.b t.a*turn s.a s.b t.b<0/\turn t.a t.b s.a*turn t.a t.b s.b<0:=by
 have M:=oK s t;have hv:(bJ s&&bJ t)=true:=by
  cases hv:(bJ s&&bJ t)with
  |true=>rfl
  |false=>have:=M.none hv;omega
 have hn:∀p,p∈ends s t->¬cB s t p:=by
  intro p hp ho;by_cases hu:∀p q,p∈[s.a,s.b,t.a,t.b]->q∈[s.a,s.b,t.a,t.b]->cB s t p->cB s t q->p=q
  .have:=M.touch hv hu ⟨p,hp,ho⟩;omega
  .refine hu λp q hp hq o1 o2=>fH λhne=> ?_;have:=M.over p q hp hq hne o1 o2;omega
 refine⟨hv,hn,fH λhc=> ?_⟩;have:=M.else_ hv hn hc;omega
def zX{s t:S}{p:V}(hp:p∈ends s t)(ho:cB s t p):cC s t≠2:=λh=>(E2 h).2.1 p hp ho
def J8(a b c:V):turn b a c= -turn a b c:=by unfold turn;rw[show cross (sub a b) (sub c b)= -cross (sub b a) (sub c a) by have:=J7 a b c;omega];unfold sgn;grind
def wo{a b:V}{t:S}(h:cC ⟨b,a⟩ t=2):cC ⟨a,b⟩ t=2:=by
 obtain⟨h1,h2,h3,h4⟩:=E2 h;have hva:bL a 4000=true/\bL b 4000=true:=by simp[bJ]at h1;grind
 have hv:(bJ ⟨a,b⟩&&bJ t)=true:=by simp[bJ]at h1|-;grind
 refine(oK ⟨a,b⟩ t).cross hv (λp hp ho=>h2 p ?_ ?_) ⟨?_,?_⟩
 .rw[j6];grind
 .obtain⟨o1,o2⟩:=ho;exact⟨by rw[L6 hva.1 hva.2];exact o1,o2⟩
 .rw[J8 b a,J8 b a,Int.neg_mul_neg];exact h3
 grind
def eM(B:List S)(a b:V):Prop:=(⟨a,b⟩:S)∈B\/(⟨b,a⟩:S)∈B
def NK{W:List V}{B:List S}(hn:∀v∈W,bL v 4000=true)(hw:∀e∈B,e.a∈W/\e.b∈W/\e.a≠e.b)(hc:∀e∈B,∀v∈W,onS e v=true->v=e.a\/v=e.b)(hx:∀e∈B,∀d∈B,cC e d≠2):Segs W (eM B):=by
 refine⟨λh=>h.symm,λh=> ?_,λh=> ?_,hn,λh hv ho=> ?_,λh h' hm=> ?_⟩
 .rcases h with h|h
  .grind
  grind
 .rcases h with h|h
  .grind
  grind
 .rcases h with h|h
  .grind
  .rw[L6 (hn _ (hw _ h).1) (by grind)]at ho;grind
 .rcases h with h|h<;>rcases h' with h'|h'
  .grind
  .exact hx _ h _ h' (by rw[mD]at hm|-;exact wo hm)
  .exact hx _ h _ h' (wo hm)
  .exact hx _ h _ h' (by have:=wo hm;rw[mD]at this|-;exact wo this)
def VR.nocross{r:aH}(h:VR r){e d:S}(he:e∈aJ r)(hd:d∈aJ r):cC e d≠2:=by
 obtain⟨_,i,hi,rfl⟩:=mem_edges.1 he;obtain⟨_,k,hk,rfl⟩:=mem_edges.1 hd;have vi:=jc h.near i hi;have main:∀i k,i<r.length->k<r.length->i<k->cC (bP r i) (bP r k)≠2:=λi k hi hk hik=>by
  have vi:=jc h.near i hi;have vk:=jc h.near k hk;by_cases e1:k=i+1
  .have e2:(bP r i).b=(bP r k).a:=by show nth r ((i+1) % r.length)=nth r k;rw[dZ (by omega),e1]
   exact zX (p:=(bP r i).b) (by rw[j6];simp) ⟨jT vi,by rw[e2];exact fQ vk⟩
  .by_cases e1:i=0/\k=r.length-1
   .have e2:(bP r k).b=(bP r i).a:=by show nth r ((k+1) % r.length)=nth r i;rw[e1.1,e1.2,show r.length-1+1=r.length by omega,ju]
    exact zX (p:=(bP r i).a) (by rw[j6];simp) ⟨fQ vi,by rw[<-e2];exact jT vk⟩
   .have:=h.apart i k hik hk (by omega) e1;omega
 rcases yd i k with g|g|g
 .grind
 .subst g;exact zX (p:=(bP r i).a) (by rw[j6];simp) ⟨fQ vi,fQ vi⟩
 .rw[mD];grind
def AT{α:Type}{R:α->α->Prop}(hs:∀a b,R a b->R b a):∀{l:List α},l.Pairwise R->∀a∈l,∀b∈l,a=b\/R a b
 |[],_,a,ha,_,_=>by cases ha
 |x::l,h,a,ha,b,hb=>by
  rw[iB]at h;rcases bT.1 ha with e|ha'<;>rcases bT.1 hb with e'|hb'
  .grind
  .grind
  .grind
  .exact AT hs h.2 a ha' b hb'
def VS.nocross{s:Shape}(h:VS s){e d:S}(he:e∈aa s)(hd:d∈aa s):cC e d≠2:=by
 obtain⟨r,hr,he⟩:=cZ.1 he;obtain⟨q,hq,hd⟩:=cZ.1 hd;rcases AT (λa b h=>by rw[rr];exact h) h.pair r hr q hq with rfl|g
 .exact(h.ring hr).nocross he hd
 .unfold eE at g;grind
def Dj{s:Shape}{e:S}(he:e∈aa s):e.a∈cT s/\e.b∈cT s:=by obtain⟨r,hr,he⟩:=cZ.1 he;obtain⟨h1,h2⟩:=ik he;exact⟨k9.2 ⟨r,hr,h1⟩,k9.2 ⟨r,hr,h2⟩⟩
structure Tg(s:Shape)(D:List S):Prop where
 vs:VS s
 chord:∀d∈D,gI s d=true
 ends:∀d∈D,d.a∈cT s/\d.b∈cT s/\d.a≠d.b
 apart:∀d∈D,∀e∈D,cC d e≠2
 most:∀a∈cT s,∀b∈cT s,a≠b->gI s ⟨a,b⟩=true->gI s ⟨b,a⟩=true->(⟨a,b⟩:S)∈D\/(⟨b,a⟩:S)∈D\/∃d∈D,cC d ⟨a,b⟩=2
 once:D.Pairwise λd e=>d≠e/\d≠⟨e.b,e.a⟩
def sides(s:Shape)(D:List S):V->V->Prop:=eM (aa s++D)
def Tg.segs{s:Shape}{D:List S}(T:Tg s D):Segs (cT s) (sides s D):=by
 have h:=T.vs;have hn:∀v∈cT s,bL v 4000=true:=λv hv=>kg (mr h hv) (by omega);have ed:∀e∈aa s,∀d∈D,cC e d≠2:=λe he d hd hm=>by have:=T.chord d hd;unfold gI at this;rw[bw,bk]at this;unfold cR at this;grind
 refine NK hn (λe he=> ?_) (λe he v hv ho=> ?_) (λe he d hd=> ?_)
 .rcases bg.1 he with he|he
  .exact⟨(Dj he).1,(Dj he).2,h.sW he⟩
  .exact T.ends e he
 .rcases bg.1 he with he|he
  .exact h.touch hv he ho
  .exact DU h (T.chord e he) hv ho
 .rcases bg.1 he with he|he<;>rcases bg.1 hd with hd|hd
  .exact h.nocross he hd
  .grind
  .rw[mD];grind
  .exact T.apart e he d hd
end Geo
namespace Geo
def fR(s:Shape)(p:P3):Bool:=cH s.outer p&&s.holes.all λh=> !(cH h p)
def Ip{a b p:V}{y k:Int}(hk:0<k)(h:cmb 0 (pt a) y (pt b)=cmb k (pt p) 0 (pt p)):p=b:=by
 simp only[cmb,pt,P3.mk.injEq]at h;have e:y=k:=by omega
 subst e;have q1:=mg (by grind) (show y*b.x=y*p.x by omega);have q2:=mg (by grind) (show y*b.y=y*p.y by omega);cases p;cases b;grind
def Mg{a b u w:V}(h1:turn a b u*turn a b w<0)(h2:turn u w a*turn u w b<0):∃x y s t:Int,0<x/\0<y/\0<s/\0<t/\cmb x (pt a) y (pt b)=cmb s (pt u) t (pt w):=by
 unfold turn at h1 h2;rw[wN,<-fP,<-fP]at h1 h2;have g:=gc a b (pt u) (pt w);rw[<-aAQ]at g;have e:ev (lin u w) (pt b)-ev (lin u w) (pt a)=ev (lin a b) (pt u)-ev (lin a b) (pt w):=by unfold ev lin pt;grind
 rcases h1 with⟨p1,p2⟩|⟨p1,p2⟩
 .exact⟨_,_,_,_,by omega,by omega,by omega,by omega,g⟩
 .refine⟨-(ev (lin u w) (pt b)),ev (lin u w) (pt a),ev (lin a b) (pt w),-(ev (lin a b) (pt u)),by omega,by omega,by omega,by omega,?_⟩;unfold cmb at g|-;grind
def W9{e c:S}(ve:bJ e=true)(vc:bJ c=true)(hne:e.a≠e.b)(hcne:c.a≠c.b)
  (hno:∀x y s t:Int,0<=x->0<=y->0<s->0<t->cmb x (pt e.a) y (pt e.b)≠cmb s (pt c.a) t (pt c.b)) (hte:∀p,p=c.a\/p=c.b->onS e p=true->p=e.a\/p=e.b):cR e c=true:=by
 have A:∀p,cB e c p->p=c.a\/p=c.b:=by
  rintro p ⟨o1,o2⟩;obtain⟨x,y,k,h1,h2,h3,h4,h5⟩:=Nl ve hne o1;obtain⟨s,t,m,g1,g2,g3,g4,g5⟩:=Nl vc hcne o2;rcases br 0 s with hs|hs
  .rcases br 0 t with ht|ht
   .refine absurd ?_ (hno (m*x) (m*y) (k*s) (k*t) (mpp (by omega) h1) (mpp (by omega) h2) (bV h3 hs) (bV h3 ht));unfold cmb pt at*;grind
   .have:t=0:=by omega
    subst this;exact .inl (Ip g3 (by rw[kj];exact g5))
  .have:s=0:=by omega
   subst this;exact .inr (Ip g3 g5)
 have M:=oK e c;have hv:(bJ e&&bJ c)=true:=by rw[ve,vc];rfl
 unfold cR;by_cases hp:∃p,p∈ends e c/\cB e c p
 .obtain⟨p,hp,ho⟩:=hp;have c1:=A p ho;have c2:=hte p c1 ho.1;have k1:cC e c=1:=by
   refine M.touch hv (λq r hq hr oq or=>fH λhqr=> ?_) ⟨p,hp,ho⟩;have q1:=A q oq;have r1:=A r or;have q2:=hte q q1 oq.1;have r2:=hte r r1 or.1;have:(e.a=c.a/\e.b=c.b)\/(e.a=c.b/\e.b=c.a):=by grind
   rcases this with⟨w1,w2⟩|⟨w1,w2⟩
   .exact hno 1 1 1 1 (by omega) (by omega) (by omega) (by omega) (by rw[w1,w2])
   .exact hno 1 1 1 1 (by omega) (by omega) (by omega) (by omega) (by rw[w1,w2,kj])
  have k2:uh e c=true:=by rw[zT];grind
  grind
 .have k0:cC e c=0:=by refine M.else_ hv (λp hp' ho=>hp ⟨p,hp',ho⟩) λ⟨h1,h2⟩=> ?_;obtain⟨x,y,s,t,hx,hy,hs,ht,g⟩:=Mg h1 h2;grind
  rw[k0];rfl
def Ml{s:Shape}(h:VS s){u w:V}(hu:u∈cT s)(hw:w∈cT s)(hne:u≠w)(hno:∀e∈aa s,∀x y s t:Int,0<=x->0<=y->0<s->0<t->cmb x (pt e.a) y (pt e.b)≠cmb s (pt u) t (pt w))
  (hi:fR s (cmb 1 (pt u) 1 (pt w))=true):gI s ⟨u,w⟩=true:=by
 have nu:=mr h hu;have nw:=mr h hw;unfold gI;rw[bw,bk];refine⟨λe he=>W9 (JE h he) (by unfold bJ;rw[kg nu (by omega),kg nw (by omega)];rfl) (h.sW he) hne (hno e he) λp hp ho=> ?_,?_⟩
 .refine h.touch ?_ he ho;grind
 .rw[beq_iff_eq,zG];have mem:∀r∈aD s,∀e∈aJ r,e∈aa s:=λr hr e he=>cZ.2 ⟨r,hr,he⟩;have wm:∀r∈aD s,bj r (ft ⟨u,w⟩)=if cH r (half ⟨u,w⟩)then 2 else 0:=λr hr=>
   Vd (h.ring hr) nu nw (by grind)
  unfold fR at hi;rw[bw,bk]at hi;refine⟨(nt s).2 h,?_,λq hq=> ?_⟩
  .rw[wm _ cI];exact if_pos hi.1
  .rw[wm _ (cE _ hq)];have:=hi.2 q hq;exact if_neg (by unfold half;grind)
def Yl{s:Shape}(h:VS s){c:S}(ha:c.a∈cT s)(hb:c.b∈cT s)(hc:gI s c=true):fR s (half c)=true:=by
 unfold gI at hc;rw[bw,beq_iff_eq,zG]at hc;have na:=mr h ha;have nb:=mr h hb;unfold fR;rw[bw,bk];refine⟨?_,λq hq=> ?_⟩
 .have:=Nv h.outer na nb (by omega);grind
 .have:=Nv (h.ring (cE _ hq)) na nb (by grind);grind
def J4:∀l:List S,di (l.map λ_=>false)=false
 |[] =>rfl
 |e::l=>by show(false !=di (l.map λ_=>false))=false;rw[J4 l];rfl
def Nd{r:aH}(h2:2<=r.length)(hn:∀v∈r,-2000<=v.x/\v.x<=2000/\ -2000<=v.y/\v.y<=2000){q:P3}(hq:0<q.d)(h:2000*q.d<q.x\/q.x< -(2000*q.d)\/2000*q.d<q.y\/q.y< -(2000*q.d)):cH r q=false:=by
 have flat:∀q:P3,0<q.d->(2000*q.d<q.y\/q.y< -(2000*q.d))->cH r q=false:=by
  intro q hq h;have dnq:∀v∈r,dn q v=decide (2000*q.d<q.y):=λv hv=>decide_eq_decide.2 (by obtain⟨_,_,h3,h4⟩:=hn v hv;have l1:=lz h3 (show 0<=q.d by omega);have l2:=lz h4 (show 0<=q.d by omega);omega)
  have:∀e∈aJ r,hit q e=false:=λe he=>by obtain⟨ha,hb⟩:=ik he;unfold hit;grind
  unfold cH;rw[nZ (g:=λ_=>false) this];exact J4 _
 by_cases hy:2000*q.d<q.y\/q.y< -(2000*q.d)
 .grind
 .have hx:2000*q.d<q.x\/q.x< -(2000*q.d):=by omega
  rw[uM (q:=⟨q.x,q.y+4001*q.d,q.d⟩) h2 hq hq λe he=> ?_]
  .grind
  .rintro⟨x,y,s,t,hx0,hy0,hxy,hs,ht,g⟩;obtain⟨ha,hb⟩:=ik he;simp only[cmb,pt,P3.mk.injEq]at g;have a1:=hn _ ha;have b1:=hn _ hb;have l1:=dg a1.1 hx0;have l2:=dg a1.2.1 hx0;have l3:=dg b1.1 hy0;have l4:=dg b1.2.1 hy0;have hst:0<s+t:=by
    refine lD.1 λh=> ?_;have:s=0:=by omega
    have:t=0:=by omega
    subst s t;omega
   rcases hx with hx|hx
   .have:=SO hx hst;grind
   .have:=SO hx hst;grind
def En{r:aH}(h:VR r):∀v∈r,-2000<=v.x/\v.x<=2000/\ -2000<=v.y/\v.y<=2000:=λv hv=>by have:=Ez h.near hv;unfold bL at this;grind
def MM{s:Shape}(h:VS s){p q:P3}(hp:0<p.d)(hq:0<q.d)(hm:∀e∈aa s,¬fX e p q):fR s p=fR s q:=by
 have key:∀r∈aD s,cH r p=cH r q:=λr hr=>uM (by have:=(h.ring hr).three;omega) hp hq λe he=>hm e (cZ.2 ⟨r,hr,he⟩);unfold fR;rw[key _ cI]
 congr 1
 rw[fm,bk,bk];constructor
 .intro g r hr;rw[<-key r (cE _ hr)];exact g r hr
 .intro g r hr;rw[key r (cE _ hr)];exact g r hr
def Tg.filled{s:Shape}{D:List S}(T:Tg s D):Filled (cT s) (sides s D) (fR s):=by
 have h:=T.vs;refine⟨T.segs.net,λp q hp hq hm=> ?_,λu hu w hw hne hno hi=> ?_,⟨2000,by omega,λq hq hf=> ?_⟩⟩
 .exact MM h hp hq λe he=>hm e.a e.b (.inl (iC _ he))
 .have c1:gI s ⟨u,w⟩=true:=Ml h hu hw hne (λe he x y k m hx hy hk hm'=>hno e.a e.b (.inl (iC _ he)) x y k m hx hy hk hm') hi;have c2:gI s ⟨w,u⟩=true:=Ml h hw hu hne.symm (λe he x y k m hx hy hk hm'=>by rw[kj k m];exact hno e.a e.b (.inl (iC _ he)) x y m k hx hy hm' hk) (by rw[kj];exact hi)
  rcases T.most u hu w hw hne c1 c2 with g|g|⟨d,hd,hm⟩
  .exact .inl (by grind)
  .exact .inr (by grind)
  .exfalso;obtain⟨_,_,m1,m2⟩:=E2 hm;obtain⟨x,y,k,m,hx,hy,hk,hm',g⟩:=Mg m1 m2;exact hno d.a d.b (.inl (fb _ hd)) x y k m (by omega) (by omega) hk hm' g
 .unfold fR;rw[Nd (by have:=h.outer.three;omega) (En h.outer) hq hf];rfl
def yW(acc:List (Nat×Nat))(i k:Nat):Prop:=acc.Nodup/\∀p∈acc,p.1<i\/(p.1=i/\p.2<k)
def WH{s:Shape}{v:List V}{acc:List (Nat×Nat)}{i k:Nat}(h:yW acc i k):yW (pw s v acc i k) i (k+1):=by
 unfold pw;split
 .refine⟨?_,λp hp=> ?_⟩
  .rw[nV];refine⟨h.1,by simp,λa ha b hb e=> ?_⟩;obtain rfl:=bi.1 hb;subst e;have:=h.2 _ ha;simp at this
  .rcases bg.1 hp with hp|hp
   .have:=h.2 p hp;omega
   grind
 .exact⟨h.1,λp hp=>by have:=h.2 p hp;omega⟩
def L5{s:Shape}{v:List V}{acc:List (Nat×Nat)}{i:Nat}(h:yW acc i (i+1)):∀m,yW (rowP s v acc i m) i (i+1+m)
 |0=>h
 |m+1=>WH (L5 h m)
def Nj(s:Shape)(v:List V):∀i,yW (eY s v i) i (i+1)
 |0=>⟨List.nodup_nil,λp hp=>by cases hp⟩
 |i+1=>by
  have:=L5 (s:=s) (v:=v) (Nj s v i) (v.length-(i+1));exact⟨this.1,λp hp=>by have:=this.2 p hp;omega⟩
def PU{s:Shape}(h:VS s){v:List V}(hv:∀x,x∈v↔x∈cT s)(hn:v.Nodup):Tg s (nM s v):=by
 obtain⟨e,F⟩:=Fy h (by grind) hn;have O:=Nj s v v.length;have hD:∀d∈nM s v,∃p∈dP s v,d=cX v p:=by grind
 have ends:∀d∈nM s v,d.a∈cT s/\d.b∈cT s/\d.a≠d.b:=λd hd=>by obtain⟨p,hp,rfl⟩:=hD d hd;have:=F.lt p hp;exact⟨(hv _).1 (dh (by omega)),(hv _).1 (dh this.2),λg=>by have:=mI hn (by omega) this.2 g;omega⟩
 refine⟨h,λd hd=> ?_,ends,λd hd d' hd'=> ?_,λa ha b hb hab c1 c2=> ?_,?_⟩
 .obtain⟨p,hp,rfl⟩:=hD d hd;exact F.chord p hp
 .have vd:∀d∈nM s v,bJ d=true:=λd hd=>by obtain⟨h1,h2,_⟩:=ends d hd;unfold bJ;rw[kg (mr h h1) (by omega),kg (mr h h2) (by omega)];rfl
  have ap:(nM s v).Pairwise λd e=>cC d e≠2:=(EW s v).apart.imp λ{a b} h=>by rw[oL];exact h
  rcases AT (λa b h=>by rw[mD];exact h) ap d hd d' hd' with rfl|g
  .exact zX (p:=d.a) (by rw[j6];simp) ⟨fQ (vd d hd),fQ (vd d hd)⟩
  .exact g
 .obtain⟨i,hi,rfl⟩:=fD.1 ((hv a).2 ha);obtain⟨k,hk,rfl⟩:=fD.1 ((hv b).2 hb);rcases yd i k with g|g|g
  .rcases(EW s v).most i k g hk (.inl hi) (by rw[<-FF h ha hb hab];exact c1)with m|⟨d,hd,m⟩
   .exact .inl m
   .exact .inr (.inr ⟨d,hd,by rw[oL];exact m⟩)
  .grind
  .rcases(EW s v).most k i g hi (.inl hk) (by rw[<-FF h hb ha hab.symm];exact c2)with m|⟨d,hd,m⟩
   .grind
   .refine .inr (.inr ⟨d,hd,?_⟩);rw[<-oL]at m;rw[mD]at m|-;exact wo m
 .rw[<-e,kK];have O1:=O.1;refine(ID.1 O1).imp ?_;rintro p q ⟨hp,hq,hne⟩;have lp:=F.lt p hp;have lq:=F.lt q hq;refine⟨λg=> ?_,λg=> ?_⟩
  .unfold cX at g;simp only[S.mk.injEq]at g;have i1:=mI hn (by omega) (by omega) g.1;have i2:=mI hn (by omega) (by omega) g.2;grind
  .unfold cX at g;simp only[S.mk.injEq]at g;have i1:=mI hn (by omega) (by omega) g.1;have i2:=mI hn (by omega) (by omega) g.2;omega
end Geo
section
namespace Geo
def JJ{a b c:V}(hne:c≠a)(n:Int){h:Int}(hc:0<ev (lin a b) (pt c))(hh:h<ev (lin a b) (pt c)):∃q,In (thin c a n) q/\In [lin a b,lin c a,over b c h] q:=by
 have hL2:=il hne;have e9:(a.x-c.x)*(a.x-c.x)-(a.y-c.y)* -(a.y-c.y)=bm c a:=by unfold bm;grind
 obtain⟨M0,hM0,hI⟩:=n8 hne (x:= -(a.y-c.y)) (y:=a.x-c.x) (by omega) n;have e1:∀M:Int,ev (lin a b) (cl c a M (-(a.y-c.y)) (a.x-c.x))=M*ev (lin a b) (pt c)+ev (lin a b) ⟨-(a.y-c.y),a.x-c.x,0⟩:=λM=>by unfold ev lin cl pt;grind
 generalize hk:ev (lin a b) ⟨-(a.y-c.y),a.x-c.x,0⟩=k at e1;have hP:=hI (M0+k.natAbs) (by omega);have hβ:0<ev (lin a b) (cl c a (M0+k.natAbs) (-(a.y-c.y)) (a.x-c.x)):=by rw[e1];have:=dg (show 1<=ev (lin a b) (pt c) by omega) (show 0<=M0+(k.natAbs:Int) by omega);omega
 generalize cl c a (M0+k.natAbs) (-(a.y-c.y)) (a.x-c.x)=P at*;obtain⟨p0,p1,p2,p3⟩:=lS.1 hP;have e0:ev (lin b c) (pt a)=ev (lin a b) (pt c):=iG a b c;refine⟨cmb (1+(ev (over b c h) P).natAbs) (pt a) 1 P,?_,by simp only[cmb,pt];omega,?_⟩
 .rw[lS,ao,ao,ao,ci,ph,kR];have g1:=mpp (show 0<=1+((ev (over b c h) P).natAbs:Int) by omega) (show 0<=bm c a by omega);have g2:n*(1*ev (lin c a) P)=n*ev (lin c a) P:=by rw[IB]
  refine⟨by simp only[cmb,pt];omega,by omega,?_,?_⟩<;>rw[eL,vY]at* <;>omega
 .simp only[bT,cn,or_false,forall_eq_or_imp,forall_eq];refine⟨?_,?_,?_⟩
  .rw[ao,cK];omega
  .rw[ao,ci];omega
  .rw[ao];have ho:1<=ev (over b c h) (pt a):=by rw[lT,e0];show 1<=ev (lin a b) (pt c)-h*1;omega
   have:=dg ho (show 0<=1+((ev (over b c h) P).natAbs:Int) by omega);omega
section
variable {W:List V} {side:V->V->Prop} {ins:P3->Bool}
def Corner.both(H:Calm W side ins){a b c:V}{h:Int}(K:Corner W side a b c h)(hab:side a b)(hac:side a c)(hc:0<ev (lin a b) (pt c))(hh:h<ev (lin a b) (pt c)):Lft ins a b↔Lft ins c a:=by
 have N:=H.net;have key:∀{q1 q2:P3},In [lin a b,lin c a,over b c h] q1->In [lin a b,lin c a,over b c h] q2->ins q1=ins q2:=λh1 h2=>H.const (λu v huv=>K.free N huv) h1 h2;constructor
 .rintro⟨n0,hn⟩;obtain⟨q1,g1,g2⟩:=Dx (N.ne hab) n0 hc hh;refine xu H (N.symm hac) λn=> ?_;obtain⟨q2,k1,k2⟩:=JJ (N.ne (N.symm hac)) n hc hh;grind
 .rintro⟨n0,hn⟩;obtain⟨q1,g1,g2⟩:=JJ (N.ne (N.symm hac)) n0 hc hh;refine xu H hab λn=> ?_;obtain⟨q2,k1,k2⟩:=Dx (N.ne hab) n hc hh;grind
open Classical in
def Wq(_N:Net W side){a b c:V}(hab:side a b)(hac:side a c)(hc:0<ev (lin a b) (pt c))(hs:∀x,side a x->¬(0<ev (lin a b) (pt x)/\0<ev (lin c a) (pt x))):∃h,h<ev (lin a b) (pt c)/\Corner W side a b c h:=by
 have top:∀w∈W,w≠a->0<=ev (lin a b) (pt w)->0<=ev (lin c a) (pt w)->ev (lin b c) (pt w)<ev (lin a b) (pt c):=by
  intro w _ hwa h1 h2;have:=FG a b c (pt w);rw[show(pt w).d=1 from rfl,yb]at this;refine lD.1 λg=>hwa ?_;have z1:ev (lin a b) (pt w)=0:=by omega
  have z2:ev (lin c a) (pt w)=0:=by omega
  have z3:ev (lin b c) (pt w)=ev (lin a b) (pt c):=by omega
  have q1:=SC a b c ⟨1,0,0⟩ (pt w);have q2:=SC a b c ⟨0,1,0⟩ (pt w);rw[z1,z2,z3,yZ,yZ,nW,nW]at q1 q2;have r1:=mg (by omega) q1;have r2:=mg (by omega) q2;simp only[ev,pt]at r1 r2;cases w;cases a;simp only[V.mk.injEq];simp only at r1 r2;omega
 obtain⟨M,hM⟩:∃h,0<=h/\h<ev (lin a b) (pt c)/\∀w∈W,w≠a->0<=ev (lin a b) (pt w)->0<=ev (lin c a) (pt w)->ev (lin b c) (pt w)<=h:=by
  by_cases hl:(W.filter λw=>decide (w≠a/\0<=ev (lin a b) (pt w)/\0<=ev (lin c a) (pt w)))=[]
  .refine⟨0,jH _,hc,λw hw h1 h2 h3=> ?_⟩;have:w∈(W.filter λw=>decide (w≠a/\0<=ev (lin a b) (pt w)/\0<=ev (lin c a) (pt w))):=by grind
   grind
  .obtain⟨w,hw,hm⟩:=Bb (λw=>ev (lin b c) (pt w)) hl;obtain⟨w1,w2⟩:=iX.1 hw;have w3:=of_decide_eq_true w2;have:=top w w1 w3.1 w3.2.1 w3.2.2;refine⟨max 0 (ev (lin b c) (pt w)),by omega,by omega,λu hu h1 h2 h3=> ?_⟩;grind
 exact⟨M,hM.2.1,hab,hac,hc,hs,hM.1,hM.2.2⟩
def KX(H:Calm W side ins){a b c:V}(hab:side a b)(hac:side a c)(hc:0<ev (lin a b) (pt c))(hs:∀x,side a x->x=b\/x=c):Lft ins a b↔Lft ins c a:=by
 obtain⟨h,hh,K⟩:=Wq H.net hab hac hc λx hx ⟨h1,h2⟩=>by
  rcases hs x hx with rfl|rfl
  .rw[ci]at h1;omega
  .rw[cK]at h2;omega
 exact K.both H hab hac hc hh
end
end Geo
end
section
namespace Geo
structure T3 where
 a:V
 b:V
 c:V
deriving DecidableEq
def T3.sides(t:T3):List S:=[⟨t.a,t.b⟩,⟨t.b,t.c⟩,⟨t.c,t.a⟩]
def T3.rot(t:T3):T3:=⟨t.b,t.c,t.a⟩
section
variable {W:List V} {side:V->V->Prop} {ins:P3->Bool}
structure All3(W:List V)(side:V->V->Prop)(ins:P3->Bool)(TL:List T3):Prop where
 tri:∀t∈TL,Tri W side ins t.a t.b t.c
 all:∀a b c,Tri W side ins a b c->(⟨a,b,c⟩:T3)∈TL\/(⟨b,c,a⟩:T3)∈TL\/(⟨c,a,b⟩:T3)∈TL
 once:TL.Pairwise λt u=>t≠u/\t≠u.rot/\t≠u.rot.rot
def wn{t:T3}{e:S}:e∈t.sides↔(e.a=t.a/\e.b=t.b)\/(e.a=t.b/\e.b=t.c)\/(e.a=t.c/\e.b=t.a):=by cases e;unfold T3.sides;grind
def All3.perm(H:Filled W side ins){TL:List T3}(A:All3 W side ins TL){DS:List S}(hn:DS.Nodup)(hm:∀e:S,e∈DS↔side e.a e.b/\Lft ins e.a e.b):(TL.flatMap T3.sides).Perm DS:=by
 have N:=H.net;refine(List.perm_ext_iff_of_nodup ?_ hn).2 λe=> ?_
 .rw[pC,List.flatMap_def,List.pairwise_flatten];refine⟨λl hl=> ?_,?_⟩
  .obtain⟨t,ht,rfl⟩:=bZ.1 hl;have h:=A.tri t ht;have n2:=N.ne h.bc;unfold T3.sides;simp_all
  .rw[kK];refine(ID.1 A.once).imp ?_;rintro t u ⟨ht,hu,h1,h2,h3⟩ e he e' he' rfl;have T:=A.tri t ht;have U:=A.tri u hu;have key:∀{a b c x:V},Tri W side ins a b c->Tri W side ins a b x->c=x:=λh h'=>UZ N h h';cases t;cases u;rw[wn]at he he';rcases he with⟨e1,e2⟩|⟨e1,e2⟩|⟨e1,e2⟩<;>rcases he' with⟨f1,f2⟩|⟨f1,f2⟩|⟨f1,f2⟩<;>rw[e1]at f1<;>rw[e2]at f2<;>subst f1<;>subst f2
   .grind
   .have:=key T U.rot;subst this;exact h2 rfl
   .have:=key T U.rot.rot;subst this;exact h3 rfl
   .have:=key T.rot U;subst this;exact h3 rfl
   .have:=key T.rot U.rot;grind
   .have:=key T.rot U.rot.rot;subst this;exact h2 rfl
   .have:=key T.rot.rot U;subst this;exact h2 rfl
   .have:=key T.rot.rot U.rot;subst this;exact h3 rfl
   .have:=key T.rot.rot U.rot.rot;grind
 .rw[hm,cZ];constructor
  .rintro⟨t,ht,he⟩;have T:=A.tri t ht;rcases wn.1 he with⟨e1,e2⟩|⟨e1,e2⟩|⟨e1,e2⟩<;>rw[e1,e2]
   .exact⟨T.ab,T.lft H⟩
   .exact⟨T.bc,T.rot.lft H⟩
   .exact⟨T.ca,T.rot.rot.lft H⟩
  .rintro⟨h1,h2⟩;obtain⟨c,T⟩:=AN H h1 h2;rcases A.all _ _ _ T with g|g|g
   .exact⟨_,g,wn.2 (by grind)⟩
   .exact⟨_,g,wn.2 (by grind)⟩
   .exact⟨_,g,wn.2 (by grind)⟩
def KB(f:S->Int):∀TL:List T3,((TL.flatMap T3.sides).map f).sum=(TL.map λt=>f ⟨t.a,t.b⟩+f ⟨t.b,t.c⟩+f ⟨t.c,t.a⟩).sum
 |[] =>rfl
 |t::TL=>by
  have:=KB f TL;rw[fM,dM,rV,this,dB,CV];unfold T3.sides;grind
def All3.sum(H:Filled W side ins){TL:List T3}(A:All3 W side ins TL){DS:List S}(hn:DS.Nodup)(hm:∀e:S,e∈DS↔side e.a e.b/\Lft ins e.a e.b)(f:S->Int):
  (TL.map λt=>f ⟨t.a,t.b⟩+f ⟨t.b,t.c⟩+f ⟨t.c,t.a⟩).sum=(DS.map f).sum:=by
 rw[<-KB];exact KT ((A.perm H hn hm).map f)
open Classical in
def LD(N:Net W side)(ins:P3->Bool)(hW:W.Nodup):∃TL,All3 W side ins TL:=by
 refine⟨(W.flatMap λa=>W.flatMap λb=>W.map λc=>(⟨a,b,c⟩:T3)).filter λt=>decide (Tri W side ins t.a t.b t.c/\bf t.a t.b=true/\bf t.a t.c=true),λt ht=> ?_,λa b c h=> ?_,?_⟩
 .grind
 .have wa:=N.mem h.ab;have wb:=N.mem h.bc;have wc:=N.mem h.ca;have n1:=N.ne h.ab;have n2:=N.ne h.bc;have n3:=N.ne h.ca;have inl:∀{a b c:V},a∈W->b∈W->c∈W->Tri W side ins a b c->bf a b=true->bf a c=true->(⟨a,b,c⟩:T3)∈(W.flatMap λa=>W.flatMap λb=>W.map λc=>(⟨a,b,c⟩:T3)).filter λt=>decide (Tri W side ins t.a t.b t.c/\bf t.a t.b=true/\bf t.a t.c=true):=
   by grind
  by_cases g1:bf a b=true
  .by_cases g2:bf a c=true
   .grind
   .have g3:=AA (by grind) n3.symm;exact .inr (.inr (inl wc wa wb h.rot.rot g3 (tj g3 g1)))
  .have g3:=AA (by grind) n1;by_cases g2:bf b c=true
   .exact .inr (.inl (inl wb wc wa h.rot g2 g3))
   .have g4:=AA (by grind) n2;exact .inr (.inr (inl wc wa wb h.rot.rot (tj g4 g3) g4))
 .have nd:(W.flatMap λa=>W.flatMap λb=>W.map λc=>(⟨a,b,c⟩:T3)).Nodup:=by
   rw[pC]at hW|-;rw[List.flatMap_def,List.pairwise_flatten];refine⟨λl hl=> ?_,?_⟩
   .grind
   .grind
  refine(ID.1 (pC.1 (nd.filter _))).imp ?_;rintro t u ⟨ht,hu,hne⟩;have T:=(of_decide_eq_true (iX.1 ht).2).2;have U:=(of_decide_eq_true (iX.1 hu).2).2;refine⟨hne,λe=> ?_,λe=> ?_⟩
  .rw[e]at T;have:=tj U.1 T.2;unfold T3.rot at this;rw[wJ]at this;cases this
  .rw[e]at T;have:=tj U.2 T.1;unfold T3.rot at this;rw[wJ]at this;cases this
end
end Geo
end
section
namespace Geo
def swp(e:S):S:=⟨e.b,e.a⟩
def M9(e:S):swp (swp e)=e:=rfl
section
variable {W:List V} {side:V->V->Prop} {ins:P3->Bool}
def Oy(H:Calm W side ins){a b:V}(hab:side a b):∃N0:Int,1<=N0/\∀n,N0<=n->(∀u v,side u v->fY (thin a b n) ⟨u,v⟩)/\∀q,In (thin a b n) q->(Lft ins a b↔ins q=true):=by
 obtain⟨N0,h1,h2⟩:=H.net.thin hab;refine⟨N0,h1,λn hn=>⟨h2 n hn,λq hq=>⟨λ⟨m,hm⟩=> ?_,λhi=>xu H hab λm=> ?_⟩⟩⟩
 .obtain⟨p,hp⟩:=wh (H.net.ne hab) (max n m);rw[H.const (h2 n hn) hq (qZ (by omega) hp)];grind
 .obtain⟨p,hp⟩:=wh (H.net.ne hab) (max n m);exact⟨p,qZ (by omega) hp,by rw[<-hi];exact H.const (h2 n hn) (qZ (by omega) hp) hq⟩
end
def VR.rp{r:aH}(h:VR r):(aJ r).Nodup:=by unfold aJ;rw[if_neg (by have:=h.three;omega),pC,kK];refine(ID.1 (pC.1 List.nodup_range)).imp ?_;rintro i k ⟨hi,hk,hne⟩ e;exact hne (h.inj (by grind) (by grind) (congrArg S.a e))
def VR.ZZ{r:aH}(h:VR r){e:S}(he:e∈aJ r):swp e∉aJ r:=by
 intro hs;have h3:=h.three;obtain⟨_,i,hi,rfl⟩:=mem_edges.1 he;obtain⟨_,k,hk,e⟩:=mem_edges.1 hs;have e1:nth r ((i+1) % r.length)=nth r k:=congrArg S.a e;have e2:nth r i=nth r ((k+1) % r.length):=congrArg S.b e;have m1:=bq (i+1) (show 0<r.length by omega);have m2:=bq (k+1) (show 0<r.length by omega);have i1:=h.inj m1 hk e1;have i2:=h.inj hi m2 e2;by_cases g1:i+1<r.length
 .rw[dZ g1]at i1;by_cases g2:k+1<r.length
  .rw[dZ g2]at i2;omega
  .rw[show k+1=r.length by omega,ju]at i2;omega
 .rw[show i+1=r.length by omega,ju]at i1;rw[dZ (by omega)]at i2;omega
def VR.calm{r:aH}(h:VR r):Calm r (eM (aJ r)) (cH r):=by refine⟨(NK (λv hv=>kg (Ez h.near hv) (by omega)) (λe he=>⟨(ik he).1,(ik he).2,h.sW he⟩) (λe he v hv ho=>h.J9 hv he ho) (λe he d hd=>h.nocross he hd)).net,λp q hp hq hm=> ?_⟩;exact uM (by have:=h.three;omega) hp hq λe he=>hm e.a e.b (.inl he)
def VR.flip{r:aH}(h:VR r){a b:V}(he:(⟨a,b⟩:S)∈aJ r):Lft (cH r) a b↔¬Lft (cH r) b a:=by
 have C:=h.calm;have hab:eM (aJ r) a b:= .inl he;have hne:=C.net.ne hab;obtain⟨n1,_,h1⟩:=Oy C hab;obtain⟨n2,_,h2⟩:=Oy C (C.net.symm hab);obtain⟨p,q,hp,hq,hpq⟩:=Geo.flip (r:=r) (by have:=h.three;omega) h.rp hne he (N:=max n1 n2) (by omega) λe he' hn=>by
  have hs:eM (aJ r) e.a e.b:= .inl he';refine⟨?_,(h1 _ (by omega)).1 _ _ hs,(h2 _ (by omega)).1 _ _ hs⟩;rcases C.net.off hab hs with g|⟨g1,g2⟩|⟨g1,g2⟩
  .exact g
  .exact absurd (by cases e;grind) hn
  .exfalso;refine h.ZZ he ?_;have:swp ⟨a,b⟩=e:=by cases e;simp only at g1 g2;unfold swp;rw[g1,g2]
   grind
 grind
def VR.around{r:aH}(h:VR r){i:Nat}(hi:i<r.length){x:V}(hx:eM (aJ r) (nth r ((i+1) % r.length)) x):x=nth r ((i+1+1) % r.length)\/x=nth r i:=by
 have hm:=bq (i+1) (show 0<r.length by omega);rcases hx with hx|hx
 .obtain⟨_,k,hk,e⟩:=mem_edges.1 hx;have e1:=h.inj hm hk (congrArg S.a e);have e2:x=nth r ((k+1) % r.length):=congrArg S.b e;refine .inl ?_;rw[e2,<-e1,kc]
 .obtain⟨_,k,hk,e⟩:=mem_edges.1 hx;have e1:=h.inj hm (bq (k+1) (by grind)) (congrArg S.b e);have e2:x=nth r k:=congrArg S.a e;refine .inr ?_;rw[e2]
  congr 1
  by_cases g1:i+1<r.length<;>by_cases g2:k+1<r.length
  .rw[dZ g1,dZ g2]at e1;omega
  .rw[dZ g1,show k+1=r.length by omega,ju]at e1;omega
  .rw[dZ g2,show i+1=r.length by omega,ju]at e1;omega
  .omega
def Ay{r:aH}(h:VR r){i:Nat}(hi:i<r.length):bP r i∈aJ r:=mem_edges.2 ⟨by have:=h.three;omega,i,hi,rfl⟩
def VR.next{r:aH}(h:VR r){i:Nat}(hi:i<r.length):Lft (cH r) (bP r i).a (bP r i).b↔Lft (cH r) (bP r ((i+1) % r.length)).a (bP r ((i+1) % r.length)).b:=by
 have C:=h.calm;have hm:=bq (i+1) (show 0<r.length by omega);have t:=h.turn' i hi;have ei:bP r i=⟨nth r i,nth r ((i+1) % r.length)⟩:=rfl;have ek:bP r ((i+1) % r.length)=⟨nth r ((i+1) % r.length),nth r ((i+1+1) % r.length)⟩:=by show(⟨_,nth r (((i+1) % r.length+1) % r.length)⟩:S)=_;rw[kc]
 have m1:=Ay h hi;have m2:=Ay h hm;have ar:=λx=>h.around hi (x:=x);rw[ei]at m1|-;rw[ek]at m2|-;unfold Geo.turn at t;rw[Ne,oC,<-fP]at t;generalize nth r i=u at*;generalize nth r ((i+1) % r.length)=v at*;generalize nth r ((i+1+1) % r.length)=w at*;rcases mZ t with g|g
 .have g':0<ev (lin v u) (pt w):=by rw[ki];omega
  have:=KX C (.inr m1) (.inl m2) g' (by grind);rw[h.flip m1,h.flip m2,this]
 .have g':0<ev (lin v w) (pt u):=by rw[iG];exact g
  exact(KX C (.inl m2) (.inr m1) g' ar).symm
def VR.FM{r:aH}(h:VR r):∀i,i<r.length->(Lft (cH r) (bP r i).a (bP r i).b↔Lft (cH r) (bP r 0).a (bP r 0).b)
 |0,_=>Iff.rfl
 |i+1,hi=>by
  have:=h.next (i:=i) (by omega);rw[dZ hi]at this;rw[<-this];exact h.FM i (by omega)
def Nw{s:Shape}{D:List S}(T:Tg s D){a b:V}(hab:sides s D a b)(hi:fR s (cmb 1 (pt a) 1 (pt b))=true)
  (ho:∀e∈aa s,∀x y k:Int,0<=x->0<=y->0<k->cmb x (pt e.a) y (pt e.b)≠cmb k (pt a) k (pt b)):Lft (fR s) a b:=by
 have H:=T.filled;have hne:=H.net.ne hab;have hL:=il hne;refine xu H.calm hab λn=> ?_;obtain⟨N0,_,h2⟩:=H.net.thin hab;obtain⟨q,hq⟩:=wh hne (max n N0);refine⟨q,qZ (by omega) hq,?_⟩;rw[<-hi];refine MM T.vs hq.1 (by simp[cmb,pt]) λe he hm=> ?_;obtain⟨x,y,t,k,hx,hy,hxy,ht,hk,g⟩:=hm;rcases br 0 t with ht'|ht'
 .obtain⟨f,hf,hle⟩:=h2 (max n N0) (by omega) e.a e.b (.inl (iC _ he)) x y hx hy hxy;have e1:x*ev f (pt e.a)+y*ev f (pt e.b)=t*ev f q+k*(ev f (pt a)+ev f (pt b)):=by rw[<-ao,g,ao,ao,IB,IB]
  dsimp only at hle;have p1:=bV ht' (hq.2 f hf);have p2:0<=ev f (pt a)+ev f (pt b):=by
   unfold thin at hf;simp only[bT,cn,or_false]at hf;rcases hf with rfl|rfl|rfl
   .rw[cK,ci];omega
   .rw[lN,lN,cK,ci,kR,ph];omega
   .rw[oI,oI,cK,ci,kR,ph,AC];omega
  have:=mpp hk p2;omega
 .have:t=0:=by omega
  subst this;have hd:=congrArg P3.d g;simp only[cmb,pt]at hd;refine ho e he x y k hx hy (by omega) ?_;rw[g];unfold cmb;grind
def n7{s:Shape}{D:List S}(T:Tg s D){d e:S}(hd:d∈D)(he:e∈aa s):e≠d/\e≠swp d:=by
 have h:=T.vs;have hc:=T.chord d hd;obtain⟨d1,d2,d3⟩:=T.ends d hd;have vd:bJ d=true:=by unfold bJ;rw[kg (mr h d1) (by omega),kg (mr h d2) (by omega)];rfl
 have ve:=JE h he;unfold gI at hc;rw[bw,bk]at hc;have ht:=hc.1 e he;have k:cB e d e.a->cB e d e.b->False:=λo1 o2=>by have:=(oK e d).over e.a e.b (by simp) (by simp) (h.sW he) o1 o2;unfold cR at ht;grind
 refine⟨λg=> ?_,λg=> ?_⟩
 .subst g;exact k ⟨fQ ve,fQ ve⟩ ⟨jT ve,jT ve⟩
 .subst g;exact k ⟨fQ ve,jT vd⟩ ⟨jT ve,fQ vd⟩
def Md{s:Shape}{D:List S}(T:Tg s D){a b:V}(hd:(⟨a,b⟩:S)∈D\/(⟨b,a⟩:S)∈D):∀e∈aa s,∀x y k:Int,0<=x->0<=y->0<k->cmb x (pt e.a) y (pt e.b)≠cmb k (pt a) k (pt b):=by
 intro e he x y k hx hy hk g;have N:=T.segs.net;have hab:sides s D a b:=hd.imp (by grind) (by grind);have hs:sides s D e.a e.b:= .inl (iC _ he);have vt:∀{v:V} {y:Int},v∈cT s->cmb k (pt a) k (pt b)=cmb y (pt v) 0 (pt v)->0<y->False:=λ{v y} hv g hy=>by
  rcases N.clear hab hv k k y (by omega) (by omega) g hy with rfl|rfl
  .have:=uP (a:=v) (b:=b) (s:=k) hk (by rw[g];have:=congrArg P3.d g;simp only[cmb,pt]at this|-;grind);exact N.ne hab this.symm
  .have:=uP (a:=v) (b:=a) (s:=k) hk (by rw[kj,g];have:=congrArg P3.d g;simp only[cmb,pt]at this|-;grind);exact N.ne hab this
 have hd0:=congrArg P3.d g;rw[tw,tw]at hd0;have ev:=Dj he;rcases br 0 x with hx'|hx'
 .rcases br 0 y with hy'|hy'
  .rcases N.apart hs hab _ _ _ _ hx' hy' hk hk g with⟨e1,e2⟩|⟨e1,e2⟩<;>rcases hd with hd|hd
   .exact(n7 T hd he).1 (by cases e;grind)
   .exact(n7 T hd he).2 (by cases e;simp only at e1 e2;rw[e1,e2];rfl)
   .exact(n7 T hd he).2 (by cases e;simp only at e1 e2;rw[e1,e2];rfl)
   .exact(n7 T hd he).1 (by cases e;grind)
  .have:y=0:=by omega
   subst this;exact vt ev.1 (by rw[<-g];unfold cmb;simp) hx'
 .have:x=0:=by omega
  subst this;exact vt ev.2 (by rw[<-g];unfold cmb;simp) (show 0<y by omega)
def Me{s:Shape}{D:List S}(T:Tg s D){d:S}(hd:d∈D):Lft (fR s) d.a d.b/\Lft (fR s) d.b d.a:=by obtain⟨d1,d2,_⟩:=T.ends d hd;have hi:=Yl T.vs d1 d2 (T.chord d hd);refine⟨Nw T (.inl (fb _ hd)) hi (Md T (.inl hd)),Nw T (.inr (fb _ hd)) ?_ (Md T (.inr hd))⟩;rw[kj];exact hi
end Geo
end
namespace Geo
def kH(E D:List S):List S:=E++(D++D.map swp)
def Am{l:List S}(h:l.Nodup):(l.map swp).Nodup:=by rw[pC]at h|-;rw[kK];exact h.imp λ{a b} hne e=>hne (by rw[<-M9 a,e,M9])
def jf{l:List S}{e:S}:e∈l.map swp↔swp e∈l:=by rw[bZ];exact⟨λ⟨d,hd,e⟩=>by rw[<-e];exact hd,λh=>⟨swp e,h,rfl⟩⟩
def Dk{s:Shape}{D E:List S}(T:Tg s D)(hE:E.Nodup)(hs:∀e∈E,e∈aa s\/swp e∈aa s):(kH E D).Nodup:=by
 have off:∀e∈E,∀d∈D,e≠d/\e≠swp d:=λe he d hd=>by
  rcases hs e he with g|g
  .exact n7 T hd g
  .have:=n7 T hd g;exact⟨by grind,λh=>this.1 (by rw[h];rfl)⟩
 have hD:D.Nodup:=pC.2 (T.once.imp (by grind));unfold kH;rw[nV,nV];refine⟨hE,⟨hD,Am hD,λa ha b hb e=> ?_⟩,λa ha b hb e=> ?_⟩
 .subst e;rw[jf]at hb;rcases AT (R:=λd e:S=>d≠swp e) (λa b h e=>h (by rw[e];rfl)) (T.once.imp λ{a b} h=>h.2) _ ha _ hb with g|g
  .exact(T.ends a ha).2.2 (congrArg S.a g)
  .exact g rfl
 grind
def Mc{s:Shape}{D E:List S}(T:Tg s D)(hm:∀e:S,e∈E↔eM (aa s) e.a e.b/\Lft (fR s) e.a e.b)(e:S):e∈kH E D↔sides s D e.a e.b/\Lft (fR s) e.a e.b:=by
 unfold kH;rw[bg,bg,jf,hm];constructor
 .rintro(⟨h1,h2⟩|h|h)
  .exact⟨h1.imp (by grind) (by grind),h2⟩
  .exact⟨.inl (fb _ h),(Me T h).1⟩
  .exact⟨.inr (fb _ h),(Me T h).2⟩
 .rintro⟨h1,h2⟩;rcases h1 with h|h<;>rcases bg.1 h with h|h
  .exact .inl ⟨.inl h,h2⟩
  .simp_all
  .exact .inl ⟨.inr h,h2⟩
  .exact .inr (.inr h)
def XP(f:S->Int)(E D:List S):((kH E D).map f).sum=(E.map f).sum+(D.map λd=>f d+f (swp d)).sum:=by unfold kH;rw[dM,dM,rV,rV,dq,NB];rfl
def Ef{α:Type}{f:α->Int}:∀{l:List α},(∀x∈l,f x=0)->(l.map f).sum=0
 |[],_=>rfl
 |x::l,h=>by rw[dB,CV,h x (by grind),Ef (by grind)];rfl
def JK{α:Type}{f:α->Int}:∀{l:List α},(∀x∈l,0<=f x)->0<=(l.map f).sum
 |[],_=>jH _
 |x::l,h=>by
  have:=JK λy hy=>h y (cE _ hy);grind
def Wn(a b c:V):cross a b+cross b c+cross c a=ev (lin a b) (pt c):=by unfold cross ev lin pt;grind
def VR.alone{r:aH}(h:VR r):VS ⟨r,[]⟩:=by refine⟨Nat.zero_le _,h,by grind,?_,by grind,by grind,by grind,by grind,by grind⟩;have:=h.most;unfold gF aD;grind
def VR.left{r:aH}(h:VR r){e:S}(he:e∈aJ r):Lft (cH r) e.a e.b:=by
 obtain⟨_,i,hi,rfl⟩:=mem_edges.1 he;rw[h.FM i hi];refine fH λhn=> ?_;have hv:=h.alone;have hvs:cT ⟨r,[]⟩=r:=by unfold cT aD;simp
 have hes:aa ⟨r,[]⟩=aJ r:=by unfold aa aD;simp
 have T:=PU hv (v:=r) (by grind) h.nodup;have H:=T.filled;have hi':fR ⟨r,[]⟩=cH r:=by funext p;unfold fR;simp
 obtain⟨TL,A⟩:=LD H.net (fR ⟨r,[]⟩) hv.nodup;have no:∀e∈aJ r,¬Lft (cH r) e.a e.b:=λe he=>by obtain⟨_,i,hi,rfl⟩:=mem_edges.1 he;rw[h.FM i hi];exact hn
 have hm:∀e:S,e∈(aJ r).map swp↔eM (aa ⟨r,[]⟩) e.a e.b/\Lft (fR ⟨r,[]⟩) e.a e.b:=λe=>by
  rw[jf,hi',hes];constructor
  .intro g;refine⟨.inr g,fH λhx=>no _ g ?_⟩;exact(h.flip (a:=e.b) (b:=e.a) g).2 hx
  .rintro⟨g|g,g2⟩
   .grind
   .exact g
 have nd:=Dk T (Am h.rp) λe he=> .inr (by rw[hes];exact jf.1 he);have S1:=A.sum H nd (Mc T hm) (λe=>cross e.a e.b);rw[XP,Ef (f:=λd:S=>cross d.a d.b+cross (swp d).a (swp d).b) λd _=>by unfold cross swp;grind,dq]at S1;have e1:((aJ r).map ((λe:S=>cross e.a e.b)∘swp)).sum= -Geo.area r:=by
  rw[Dq (by omega)];have:((aJ r).map λe=>cross e.a e.b+((λe:S=>cross e.a e.b)∘swp) e).sum=0:=Ef λd _=>by simp only[CW,cross,swp];grind
  rw[NB]at this;omega
 have S2:0<=(TL.map λt=>cross t.a t.b+cross t.b t.c+cross t.c t.a).sum:=JK λt ht=>by rw[Wn];have:=(A.tri t ht).left;omega
 have:=h.area;grind
def VR.right{r:aH}(h:VR r){e:S}(he:e∈aJ r):¬Lft (cH r) e.b e.a:=(h.flip he).1 (h.left he)
end Geo
section
namespace Geo
def LF{r:aH}(hr:VR r){v:V}(hw:bL v 2000=true)(h:dN r v≠1):dN r v=if cH r (pt v)then 2 else 0:=by
 have h4:=kg hw (show(2000:Int)<=4000 by omega);have hp:dK (eJ v)=true:=by rw[C7];exact h4
 unfold dN at h|-;rw[h4]at h|-;rw[Dt hr hp λe he=> ?_]
 .rfl
 refine vZ.2 λho=>h ?_;unfold bj;rw[(jZ _).2 hr,hp];exact FY ⟨e,he,ho⟩
def aAS{r:aH}(hr:VR r){v:V}(hw:bL v 2000=true)(h:dN r v=2):cH r (pt v)=true:=by have:=LF hr hw (by omega);grind
def Zq{r:aH}(hr:VR r){v:V}(hw:bL v 2000=true)(h:dN r v=0):cH r (pt v)=false:=by have:=LF hr hw (by omega);grind
section
variable {s:Shape} {D:List S}
def zn{r:aH}(hr:r∈aD s){v:V}(hv:v∈r):v∈cT s:=k9.2 ⟨r,hr,hv⟩
def uC{r:aH}(hr:r∈aD s){e:S}(he:e∈aJ r):sides s D e.a e.b:= .inl (iC _ (cZ.2 ⟨r,hr,he⟩))
def wT(T:Tg s D){r q:aH}(hr:r∈aD s)(hq:q∈aD s)(hrq:r≠q){v:V}(hv:v∈r){e:S}(he:e∈aJ q):v≠e.a/\v≠e.b:=by obtain⟨h1,h2⟩:=ik he;have:=y8 (aD s) T.vs.nodup r hr q hq;grind
def EA(T:Tg s D){r q:aH}(hr:r∈aD s)(hq:q∈aD s)(hrq:r≠q){a b:V}(ha:a∈r)(hab:sides s D a b):∃N0:Int,∀n,N0<=n->∀p,In (thin a b n) p->cH q p=cH q (pt a):=by
 have N:=T.segs.net;obtain⟨N0,_,h2⟩:=N.thin hab;refine⟨N0,λn hn p hp=>(uM (by have:=(T.vs.ring hq).three;omega) (show(0:Int)<1 by omega) hp.1 λe he hm=> ?_).symm⟩;obtain⟨x,y,k,t,hx,hy,hxy,hk,ht,g⟩:=hm;have hs:sides s D e.a e.b:=uC hq he;rcases br 0 t with ht'|ht'
 .obtain⟨f,hf,hle⟩:=h2 n hn e.a e.b hs x y hx hy hxy;dsimp only at hle;have e1:x*ev f (pt e.a)+y*ev f (pt e.b)=k*ev f (pt a)+t*ev f p:=by rw[<-ao,g,ao]
  have p1:=bV ht' (hp.2 f hf);have p2:0<=ev f (pt a):=by
   have hL:=il (N.ne hab);unfold thin at hf;simp only[bT,cn,or_false]at hf;rcases hf with rfl|rfl|rfl
   .rw[cK];omega
   .rw[lN,cK,kR];omega
   .rw[oI,cK,ph,AC];omega
  have:=mpp hk p2;omega
 .have:t=0:=by omega
  subst this;have hd:=congrArg P3.d g;simp only[cmb,pt]at hd;have hov:=wT T hr hq hrq ha he;rcases N.clear hs (zn hr ha) x y k hx hy (by rw[g];unfold cmb;simp) (by omega)with e1|e1
  .grind
  grind
def Va(T:Tg s D){r q:aH}(hr:r∈aD s)(hq:q∈aD s)(hrq:r≠q){e:S}(he:e∈aJ r):cH q (pt e.a)=cH q (pt e.b):=by
 have N:=T.segs.net;refine uM (by have:=(T.vs.ring hq).three;omega) (show(0:Int)<1 by omega) (show(0:Int)<1 by omega) λd hd hm=> ?_;obtain⟨h1,h2⟩:=ik he;have o1:=wT T hr hq hrq h1 hd;have o2:=wT T hr hq hrq h2 hd;rcases N.off (uC hr he) (uC hq hd)with⟨_,g⟩|⟨g,_⟩|⟨g,_⟩
 .rcases g with g|⟨g,_⟩|⟨g,_⟩|⟨g,_⟩|⟨g,_⟩
  .exact g hm
  .grind
  .grind
  .grind
  grind
 .grind
 grind
def Mr(T:Tg s D){r q:aH}(hr:r∈aD s)(hq:q∈aD s)(hrq:r≠q):∀i,i<r.length->cH q (pt (nth r i))=cH q (pt (nth r 0))
 |0,_=>rfl
 |i+1,hi=>by
  have:=Va T hr hq hrq (e:=bP r i) (Ay (T.vs.ring hr) (by omega));rw[show(bP r i).b=nth r (i+1) by show nth r ((i+1) % r.length)=_;rw[dZ hi],show(bP r i).a=nth r i from rfl]at this;rw[<-this];exact Mr T hr hq hrq i (by omega)
def OC(T:Tg s D){r:aH}(hr:r∈s.holes){v:V}(hv:v∈r):dN s.outer v=2:=by obtain⟨i,hi,rfl⟩:=pX hr;have:=T.vs.ins i hi;unfold bM at this;grind
def As(T:Tg s D){r:aH}(hr:r∈s.holes):r≠s.outer:=by intro e;have h:=T.vs;have hv:nth r 0∈r:=fD.2 ⟨0,by have:=(h.ring (cE _ hr)).three;omega,rfl⟩;obtain⟨i,hi,rfl⟩:=pX hr;have ap:=h.apo i hi;rw[e]at ap hv;exact wH h.outer ap hv (Ay h.outer (i:=0) (by grind)) (by rw[<-e];exact fQ (jc (h.hole i hi).near 0 (by grind)))
def WF(T:Tg s D){q:aH}(hq:q∈s.holes){v:V}(hv:v∈s.outer):cH q (pt v)=false:=by
 have h:=T.vs;have N:=T.segs.net;have hq':q∈aD s:=cE _ hq;have ho':s.outer∈aD s:=cI;have hne:=(As T hq).symm;have h3:=h.outer.three;have all:=Mr T ho' hq' hne;have li:=qY (r:=s.outer) (by omega);have low:cH q (pt (nth s.outer (dO s.outer)))=false:=by
  have hv0:nth s.outer (dO s.outer)∈s.outer:=dh li;have least:∀a∈s.outer,(nth s.outer (dO s.outer)).y<=a.y:=λa ha=>by obtain⟨i,hi,rfl⟩:=fD.1 ha;have:=sC s.outer s.outer.length i hi;unfold leV at this;unfold dO;omega
  have below:∀u∈q,(nth s.outer (dO s.outer)).y<=u.y:=λu hu=>by obtain⟨_,_,⟨a,ha,hay⟩,_⟩:=U4 (by omega) (OC T hq hu);grind
  have fr:=En h.outer _ hv0;generalize nth s.outer (dO s.outer)=v0 at*;rw[uM (q:=⟨v0.x,v0.y-5000,1⟩) (by have:=(h.ring hq').three;omega) (show(0:Int)<1 by omega) (by grind) λe he hm=> ?_]
  .exact Nd (by have:=(h.ring hq').three;omega) (En (h.ring hq')) (by grind) (by grind)
  .obtain⟨x,y,k,t,hx,hy,hxy,hk,ht,g⟩:=hm;obtain⟨e1,e2⟩:=ik he;have b1:=dg (below _ e1) hx;have b2:=dg (below _ e2) hy;have hov:=wT T ho' hq' hne hv0 he;have gy:=congrArg P3.y g;have gd:=congrArg P3.d g;simp only[cmb,pt]at gy gd;have t0:t=0:=by
    have m1:x*v0.y+y*v0.y=k*v0.y+t*v0.y:=by rw[<-rU,<-rU];congr 1;omega
    have m2:t*(v0.y-5000)=t*v0.y-t*5000:=Int.mul_sub _ _ _;omega
   subst t0;rcases N.clear (uC hq' he) (zn ho' hv0) x y k hx hy (by rw[g];unfold cmb;simp) (by omega)with e1|e1
   .grind
   grind
 obtain⟨i,hi,rfl⟩:=fD.1 hv;grind
def YM(T:Tg s D){r q:aH}(hr:r∈s.holes)(hq:q∈s.holes)(hrq:r≠q){v:V}(hv:v∈r):cH q (pt v)=false:=by
 have h:=T.vs;have hw:bL v 2000=true:=mr h (zn (cE _ hr) hv);refine Zq (h.ring (cE _ hq)) hw ?_;obtain⟨i,hi,rfl⟩:=pX hr;obtain⟨k,hk,rfl⟩:=pX hq;have key:bM (aC s.holes i) (aC s.holes k) 0=true:=by
  rcases yd i k with g|g|g
  .exact h.out2 k i g hk
  .grind
  .exact h.out1 i k g hi
 unfold bM at key;grind
def Gi{α:Type}{P:α->Int->Prop}:∀{l:List α},(∀x∈l,∃N0:Int,∀n,N0<=n->P x n)->∃N0:Int,∀n,N0<=n->∀x∈l,P x n
 |[],_=>⟨0,by grind⟩
 |x::l,h=>by
  obtain⟨n1,h1⟩:=h x (by grind);obtain⟨n2,h2⟩:=Gi λy hy=>h y (cE _ hy);refine⟨max n1 n2,λn hn y hy=> ?_⟩;grind
def Ja(T:Tg s D){a b:V}(ha:a∈s.outer)(hab:sides s D a b):∃N0:Int,∀n,N0<=n->∀p,In (thin a b n) p->fR s p=cH s.outer p:=by
 obtain⟨N0,h0⟩:=Gi (l:=s.holes) (P:=λq n=>∀p,In (thin a b n) p->cH q p=cH q (pt a)) λq hq=>EA T cI (cE _ hq) (As T hq).symm ha hab;refine⟨N0,λn hn p hp=> ?_⟩;unfold fR;have:(s.holes.all λh=> !(cH h p))=true:=by rw[bk];intro q hq;rw[h0 n hn q hq p hp,WF T hq ha];rfl
 grind
def Kl(T:Tg s D){r:aH}(hr:r∈s.holes){a b:V}(ha:a∈r)(hab:sides s D a b):∃N0:Int,∀n,N0<=n->∀p,In (thin a b n) p->fR s p= !(cH r p):=by
 have hr':r∈aD s:=cE _ hr;obtain⟨N1,h1⟩:=EA T hr' cI (As T hr) ha hab;obtain⟨N0,h0⟩:=Gi (l:=s.holes) (P:=λq n=>r≠q->∀p,In (thin a b n) p->cH q p=cH q (pt a)) λq hq=>by
  by_cases g:r=q
  .simp_all
  .obtain⟨m,hm⟩:=EA T hr' (cE _ hq) g ha hab;exact⟨m,by grind⟩
 refine⟨max N0 N1,λn hn p hp=> ?_⟩;unfold fR;rw[h1 n (by omega) p hp,aAS T.vs.outer (mr T.vs (zn hr' ha)) (OC T hr ha),nT,fm,bk];refine⟨λg=>g r hr,λg q hq=> ?_⟩;by_cases e:r=q
 .grind
 .rw[h0 n (by omega) q hq e p hp,YM T hr hq e ha];rfl
def z8{ins ins':P3->Bool}{a b:V}(h:∃N0:Int,∀n,N0<=n->∀p,In (thin a b n) p->ins p=ins' p):Lft ins a b↔Lft ins' a b:=by
 obtain⟨N0,h⟩:=h;constructor<;>rintro⟨m,g⟩
 .exact⟨max N0 m,by grind⟩
 .exact⟨max N0 m,by grind⟩
def Nq{W:List V}{side:V->V->Prop}{ins:P3->Bool}(H:Calm W side ins){a b:V}(hab:side a b):Lft (λp=> !ins p) a b↔¬Lft ins a b:=by
 constructor
 .intro h g;exact g.not (H.net.ne hab) h
 .intro h;rcases aAR H hab with g|g
  .grind
  .exact g
def zU(T:Tg s D){e:S}(he:e∈aJ s.outer):Lft (fR s) e.a e.b/\¬Lft (fR s) e.b e.a:=by obtain⟨h1,h2⟩:=ik he;have hs:sides s D e.a e.b:=uC cI he;rw[z8 (Ja T h1 hs),z8 (Ja T h2 hs.symm)];exact⟨T.vs.outer.left he,T.vs.outer.right he⟩
def AG(T:Tg s D){r:aH}(hr:r∈s.holes){e:S}(he:e∈aJ r):Lft (fR s) e.b e.a/\¬Lft (fR s) e.a e.b:=by obtain⟨h1,h2⟩:=ik he;have hs:sides s D e.a e.b:=uC (cE _ hr) he;have hv:=T.vs.ring (cE _ hr);have C:=hv.calm;rw[z8 (Kl T hr h2 hs.symm),z8 (Kl T hr h1 hs),Nq C (.inl he),Nq C (.inr he)];exact⟨hv.right he,λg=>g (hv.left he)⟩
def iV(s:Shape):List S:=aJ s.outer++(s.holes.flatMap aJ).map swp
def EV(s:Shape):aa s=aJ s.outer++s.holes.flatMap aJ:=by unfold aa aD;grind
def xH(T:Tg s D)(e:S):e∈iV s↔eM (aa s) e.a e.b/\Lft (fR s) e.a e.b:=by
 unfold iV eM;rw[bg,jf,EV,bg,bg,cZ,cZ,cZ];constructor
 .rintro(h|⟨r,hr,h⟩)
  .exact⟨.inl (.inl h),(zU T h).1⟩
  .exact⟨.inr (.inr ⟨r,hr,h⟩),(AG T hr h).1⟩
 .rintro⟨(h|⟨r,hr,h⟩)|(h|⟨r,hr,h⟩),g⟩
  .exact .inl h
  .exact absurd g (AG T hr h).2
  .exact absurd g (zU T h).2
  .exact .inr ⟨r,hr,h⟩
def VS.rp(h:VS s):(aa s).Nodup:=by
 have hn:=h.nodup;have e:(aa s).map S.a=cT s:=by
  unfold aa cT;have key:∀l:List aH,(∀r∈l,VR r)->(l.flatMap aJ).map S.a=l.flatten:=by
   intro l;induction l with
   |nil=>intro _;rfl
   |cons r l ih=>
    intro hl;rw[fM,dM,mc,ih (by grind),Lm (by have:=(hl r (by grind)).three;omega)]
  exact key _ λr hr=>h.ring hr
 rw[pC,<-e,kK]at hn;exact pC.2 (hn.imp (by grind))
def Jz(T:Tg s D):(iV s).Nodup:=by have hn:=T.vs.rp;rw[EV,nV]at hn;unfold iV;rw[nV];refine⟨hn.1,Am hn.2.1,λa ha b hb e=> ?_⟩;subst e;rw[jf,cZ]at hb;obtain⟨r,hr,hb⟩:=hb;have e1:=(ik ha).1;have e2:=(ik hb).2;exact As T hr (y8 (aD s) T.vs.nodup r (cE _ hr) s.outer cI _ e2 e1)
end
end Geo
end
section
namespace Geo
def Up(x:V):Prop:=0<x.y\/(x.y=0/\0<x.x)
def Dn(x:V):Prop:=x.y<0\/(x.y=0/\x.x<0)
instance(x:V):Decidable (Up x):=by unfold Up;infer_instance
instance(x:V):Decidable (Dn x):=by unfold Dn;infer_instance
def neg(x:V):V:=⟨-x.x,-x.y⟩
def xf(x:V):Up (neg x)↔Dn x:=by unfold Up Dn neg;grind
def q8(x:V):Dn (neg x)↔Up x:=by unfold Up Dn neg;grind
def Up.not{x:V}(h:Up x):¬Dn x:=by unfold Up Dn at*;omega
def PS(x:V):Up x\/Dn x\/x=⟨0,0⟩:=by
 unfold Up Dn;rcases ye x.y 0 with h|h|h
 .omega
 .rcases ye x.x 0 with g|g|g
  .omega
  .exact .inr (.inr (by cases x;grind))
  omega
 omega
def Az{y z:V}{α β:Int}(hy:Dn y)(hz:Dn z)(ha:0<=α)(hb:0<β):Dn ⟨α*y.x+β*z.x,α*y.y+β*z.y⟩:=by
 unfold Dn at*;dsimp only;have py:y.y<=0:=by omega
 have pz:z.y<=0:=by omega
 have m1:α*y.y<=0:=H9 ha py;have m2:β*z.y<=0:=H9 (by omega) pz;by_cases g:α*y.y+β*z.y<0
 .exact .inl g
 .have e1:α*y.y=0:=by omega
  have e2:β*z.y=0:=by omega
  have z0:z.y=0:=by rcases dt.1 e2 with h|h<;>omega
  have m3:β*z.x<0:=gm hb (by omega);have m4:α*y.x<=0:=by
   rcases dt.1 e1 with h|h
   .grind
   .exact H9 ha (by omega)
  omega
def PC{x:V}{k:Int}(hk:0<k)(h:Dn ⟨k*x.x,k*x.y⟩):Dn x:=by
 unfold Dn at*;dsimp only at h;rcases h with h|⟨h1,h2⟩
 .refine .inl (lD.1 λg=> ?_);have:=cV (show 0<=k by omega) g;omega
 .refine .inr ⟨by rcases dt.1 h1 with h|h<;>omega,lD.1 λg=> ?_⟩;have:=cV (show 0<=k by omega) g;omega
def lf(p q:Int)(x:V):Int:=p*x.x+q*x.y
def FW{x y z:V}{p q:Int}(hx:0<lf p q x)(hy:0<lf p q y)(hz:0<lf p q z)(ux:Up x)(dy:Dn y)(dz:Dn z)(h:0<cross x y):0<cross x z:=by
 refine lD.1 λg=> ?_;have e:cross z y*lf p q x= -(cross x z)*lf p q y+cross x y*lf p q z:=by unfold cross lf;grind
 have p1:=cV (show 0<= -(cross x z) by omega) (show 0<=lf p q y by omega);have p2:=bV h hz;have k:0<cross z y:=lD.1 λg'=>by have:=SN g' (show 0<=lf p q x by omega);omega
 refine ux.not (PC k ?_);have ex:cross z y*x.x= -(cross x z)*y.x+cross x y*z.x:=by unfold cross;grind
 have ey:cross z y*x.y= -(cross x z)*y.y+cross x y*z.y:=by unfold cross;grind
 rw[ex,ey];exact Az dy dz (by omega) h
def Kz(x y:V):cross (neg x) (neg y)=cross x y:=by unfold cross neg;grind
def GZ(p q:Int)(x:V):lf (-p) (-q) (neg x)=lf p q x:=by unfold lf neg;grind
def NI{x y z:V}{p q:Int}(hx:0<lf p q x)(hy:0<lf p q y)(hz:0<lf p q z)(ux:Dn x)(dy:Up y)(dz:Up z)(h:0<cross x y):0<cross x z:=by rw[<-Kz]at h|-;exact FW (p:= -p) (q:= -q) (by rw[GZ];exact hx) (by rw[GZ];exact hy) (by rw[GZ];exact hz) ((xf x).2 ux) ((q8 y).2 dy) ((q8 z).2 dz) h
def ig(x y:V):cross y x= -cross x y:=by unfold cross;grind
def Ae{x y:V}{p q:Int}(hx:0<lf p q x)(hy:0<lf p q y)(ux:Up x)(dy:Dn y):cross x y≠0:=λh=>by
 have e1:lf p q y*x.x=lf p q x*y.x:=by unfold cross lf at*;grind
 have e2:lf p q y*x.y=lf p q x*y.y:=by unfold cross lf at*;grind
 refine ux.not (PC hy ?_);have:=Az dy dy (jH 0) hx;grind
def cr(x y:V):Int:=if Up x↔Up y then 0 else sgn (cross x y)
def ue{x y:V}(h:Up x↔Up y):cr x y=0:=if_pos h
def sZ{x y:V}(h:¬(Up x↔Up y)):cr x y=sgn (cross x y):=if_neg h
def Ej(n:Int):sgn (-n)= -sgn n:=by unfold sgn;grind
def Oh{m n:Int}(hm:m≠0)(hn:n≠0)(h:0<m↔0<n):sgn m=sgn n:=by unfold sgn;grind
def F8{x y z:V}{p q:Int}(hx:0<lf p q x)(hy:0<lf p q y)(hz:0<lf p q z):cr x y+cr y z=cr x z:=by
 have k:∀{x:V},0<lf p q x->¬Up x->Dn x:=λ{x} h g=>by
  rcases PS x with e|e|e
  .grind
  .exact e
  .rw[e]at h;unfold lf at h;simp at h
 have pair:∀{x y z:V},0<lf p q x->0<lf p q y->0<lf p q z->¬(Up x↔Up y)->(Up y↔Up z)->sgn (cross x y)=sgn (cross x z):=by
  intro x y z hx hy hz h1 h2;by_cases ux:Up x
  .have dy:Dn y:=by grind
   have dz:Dn z:=by grind
   exact Oh (Ae hx hy ux dy) (Ae hx hz ux dz) ⟨FW hx hy hz ux dy dz,FW hx hz hy ux dz dy⟩
  .have dx:=k hx ux;have uy:Up y:=by grind
   have uz:=h2.1 uy;refine Oh (λg=>Ae hy hx uy dx (by rw[ig];omega)) (λg=>Ae hz hx uz dx (by rw[ig];omega)) ⟨NI hx hy hz dx uy uz,NI hx hz hy dx uz uy⟩
 by_cases h1:Up x↔Up y
 .rw[ue h1,vY];by_cases h2:Up y↔Up z
  .rw[ue h2,ue (h1.trans h2)]
  .rw[sZ h2,sZ (by grind),ig z y,ig z x,Ej,Ej,pair hz hy hx (by grind) h1.symm]
 .by_cases h2:Up y↔Up z
  .rw[ue h2,nW,sZ h1,sZ (by grind),pair hx hy hz h1 h2]
  .have h3:Up x↔Up z:=by by_cases a:Up x<;>by_cases b:Up y<;>by_cases c:Up z<;>simp_all
   rw[ue h3,sZ h1,sZ h2,ig y x,Ej,pair hy hx hz (by grind) h3];omega
def UN{p q:V}(h:cross p q≠0):cr p q=cr p ⟨p.x+q.x,p.y+q.y⟩+cr ⟨p.x+q.x,p.y+q.y⟩ q:=by
 have e1:lf (sgn (cross p q)*(q.y-p.y)) (sgn (cross p q)*(p.x-q.x)) p=sgn (cross p q)*cross p q:=by unfold lf cross;grind
 have e2:lf (sgn (cross p q)*(q.y-p.y)) (sgn (cross p q)*(p.x-q.x)) q=sgn (cross p q)*cross p q:=by unfold lf cross;grind
 have e3:lf (sgn (cross p q)*(q.y-p.y)) (sgn (cross p q)*(p.x-q.x)) ⟨p.x+q.x,p.y+q.y⟩=2*(sgn (cross p q)*cross p q):=by unfold lf cross;grind
 have k:0<sgn (cross p q)*cross p q:=by
  rcases mZ h with g|g
  .rw[show sgn (cross p q)= -1 by unfold sgn;omega];omega
  .rw[show sgn (cross p q)=1 by unfold sgn;rw[if_pos g]];omega
 exact(F8 (by rw[e1];exact k) (by omega) (by omega)).symm
def ll(f:Nat->Int):Nat->Int
 |0=>0
 |k+1=>ll f k+f k
structure Curve(v:Nat->V)(m:Nat):Prop where
 close:v (m+3)=v 0
 least:∀i,0<i->i<m+3->Up (sub (v i) (v 0))
 turn:∀i,i+1<m+3->cross (sub (v (i+1)) (v i)) (sub (v (i+2)) (v (i+1)))≠0
 turn0:cross (sub (v (m+3)) (v (m+2))) (sub (v 1) (v 0))≠0
 apart:∀i j,i+1<j->j<m+3->¬(i=0/\j=m+2)->∃f:P3,ev f (pt (v i))<0/\ev f (pt (v (i+1)))<0/\0<ev f (pt (v j))/\0<ev f (pt (v (j+1)))
section
variable {v:Nat->V} {m:Nat}
def uk(f:P3)(a b:V):lf f.x f.y (sub a b)=ev f (pt a)-ev f (pt b):=by unfold lf sub ev pt;grind
def sub_neg(a b:V):neg (sub a b)=sub b a:=by unfold neg sub;grind
def Curve.cell(C:Curve v m){i j:Nat}(h1:i+1<j)(h2:j<m+3)(h3:¬(i=0/\j=m+2)):
  cr (sub (v j) (v i)) (sub (v (j+1)) (v i))+cr (sub (v (j+1)) (v i)) (sub (v (j+1)) (v (i+1)))=cr (sub (v j) (v i)) (sub (v j) (v (i+1)))+cr (sub (v j) (v (i+1))) (sub (v (j+1)) (v (i+1))):=by
 obtain⟨f,f1,f2,f3,f4⟩:=C.apart i j h1 h2 h3;rw[F8 (p:=f.x) (q:=f.y) (by rw[uk];omega) (by rw[uk];omega) (by rw[uk];omega),F8 (p:=f.x) (q:=f.y) (by rw[uk];omega) (by rw[uk];omega) (by rw[uk];omega)]
def Curve.col(C:Curve v m){b j:Nat}(hj:j<m+3)(h:b=0->j≠m+2):∀a,b+a<j->
  ll (λi=>cr (sub (v j) (v (b+i))) (sub (v j) (v (b+i+1)))) a+cr (sub (v j) (v (b+a))) (sub (v (j+1)) (v (b+a)))=
  cr (sub (v j) (v b)) (sub (v (j+1)) (v b))+ll (λi=>cr (sub (v (j+1)) (v (b+i))) (sub (v (j+1)) (v (b+i+1)))) a
 |0,_=>by simp[ll]
 |a+1,ha=>by
  have ih:=C.col hj h a (by omega);have c:=C.cell (i:=b+a) (j:=j) (by omega) hj (by omega);rw[ll,ll];grind
def Curve.diag(C:Curve v m){i:Nat}(hi:i+1<m+3):cr (sub (v (i+1)) (v i)) (sub (v (i+2)) (v (i+1)))=cr (sub (v (i+1)) (v i)) (sub (v (i+2)) (v i))+cr (sub (v (i+2)) (v i)) (sub (v (i+2)) (v (i+1))):=by
 rw[UN (C.turn i hi)];have e:(⟨(sub (v (i+1)) (v i)).x+(sub (v (i+2)) (v (i+1))).x,(sub (v (i+1)) (v i)).y+(sub (v (i+2)) (v (i+1))).y⟩:V)=sub (v (i+2)) (v i):=by unfold sub;simp only[V.mk.injEq];omega
 rw[e]
def Curve.part(C:Curve v m):∀k,k<m+2->ll (λi=>cr (sub (v (i+1)) (v i)) (sub (v (i+2)) (v (i+1)))) k=
  ll (λj=>cr (sub (v (j+1)) (v 0)) (sub (v (j+2)) (v 0))) k+ll (λi=>cr (sub (v (k+1)) (v i)) (sub (v (k+1)) (v (i+1)))) k
 |0,_=>by simp[ll]
 |k+1,hk=>by
  have ih:=C.part k (by omega);have d:=C.diag (i:=k) (by omega);have c:=C.col (b:=0) (j:=k+1) (by omega) (by omega) k (by omega);rw[ll,ll,ll];grind
end
end Geo
end
namespace Geo
def vv(r:aH)(i:Nat):V:=nth r (i % r.length)
end Geo
end Go.Proofs.YtdaeofhdgabhjaaGreat
