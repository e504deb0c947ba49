/- What the statement stands on: contracts of functions, plain laws. Part 1 of 7, no condition of its own. (G1 G2 G3 G4 G5 G6 G7 G8 G9 H1 H2 H3 H4 H9 H6 H7 H8 I1 I2 I3 I4 I5 I6 I7 I8 I9 I10 H5 I11 I12 I13 I14 I15 I16 I17) -/

set_option linter.all false
set_option maxRecDepth 100000
set_option maxHeartbeats 8000000
open Int renaming lt_or_gt_of_ne->kU,mul_le_mul_left->IK,mul_zero->dU,lt_or_le->bl,mul_pos_of_neg_of_neg->vj,mul_nonneg->bm,mul_neg_of_neg_of_pos->lZ,mul_eq_zero->cp,le_total->vm,mul_le_mul_of_nonneg_right->lg,zero_mul->tU,mul_one->ym,dvd_iff_tmod_eq_zero->SX,add_zero->nT,mul_pos->aa,mul_le_mul_of_nonneg_left->dG,lt_trichotomy->o4,pos_of_mul_pos_right->Sb,mul_neg_of_pos_of_neg->fk,lt_or_eq_of_le->tV,le_of_lt->gR,mul_neg->lh,zero_add->vw,mul_nonpos_of_nonpos_of_nonneg->IU,neg_mul->nV,not_le->ko,le_refl->i9,mul_comm->eS,sub_neg->IV,one_mul->IW,eq_of_mul_eq_mul_left->mY,not_lt->Ce,add_mul->o6,mul_lt_mul_of_pos_left->Sc
open Bool renaming and_eq_true->bn,true_and->kC,false_eq_true->lc,not_true->mU,eq_iff_iff->fg,or_eq_true->jl,false_and->qO,and_true->IP,false_bne->rS,bne_false->vq,true_bne->yo,bne_true->vu,not_false->rT,eq_false_iff->o7
open List renaming mem_cons->aj,not_mem_nil->cG,pairwise_cons->gh,Pairwise.nil->tT,mem_filter->fF,length_nil->mV,length_cons->gu,range->bV,all_eq_true->bf,mem_range->cF,not_any_eq_all_not->SU,getElem_of_mem->jm,perm_append_comm->vn,getD_eq_getElem?_getD->dw,getElem?_append_left->mW,getElem?_drop->vo,getElem?_append_right->kW,nodup_iff_pairwise_ne->ol,pairwise_iff_getElem->om,getElem?_eq_getElem->fA,flatten_cons->mX,mem_append->bi,flatMap_cons->fG,mem_flatMap->cQ,mem_flatten->kY,nodup_append->nR,Perm.refl->CZ,mem_map->bR,map_cons->cv,sum_cons->Ca,map_append->dR,mem_singleton->bZ,pairwise_append->SY,range_succ->rQ,mem_cons_self->bo,mem_cons_of_mem->bk,mem_append_left->fT,map_map->di,any_eq_true->lj,ext_getElem->tW,length_map->db,getElem_map->jR,getElem_range->qP,map_congr_left->lk,pairwise_map->i8,ne_nil_of_mem->IX,mem_append_right->fB,Pairwise.and_mem->Cf,flatMap_def->IY,pairwise_flatten->IZ,sum_append->yt
open Classical renaming byContradiction->cu
open Nat renaming mod_lt->bw,mod_eq_of_lt->dp,mod_self->kV,gcd->cD,lt_trichotomy->yn,mod_add_mod->kX,add_mod_right->oj,add_assoc->rP,gcd_dvd_right->IL,lt_or_ge->nU,gcd_dvd_left->IM,dvd_trans->IN,sub_add_cancel->IR
open Function renaming comp->Cb
open Decidable renaming not_not->Sa
namespace Go.Proofs.YtdaeofhdgabhjaaGreat.Geo
end Go.Proofs.YtdaeofhdgabhjaaGreat.Geo
open Go.Proofs.YtdaeofhdgabhjaaGreat.Geo
namespace Go.Proofs.YtdaeofhdgabhjaaGreat
@[reducible]def aC{α:Sort _}(a:α)(f:α->Prop):Prop:=f a
namespace Geo
structure V where
 x:Int
 y:Int
deriving DecidableEq,Inhabited
structure S where
 a:V
 b:V
deriving DecidableEq,Inhabited
def sub(p q:V):V:=⟨p.x-q.x,p.y-q.y⟩
def cross(p q:V):Int:=p.x*q.y-p.y*q.x
def sgn(n:Int):Int:=if 0<n then 1 else if n<0 then-1 else 0
def turn(a b c:V):Int:=sgn (cross (sub b a) (sub c a))
def bg(p q:V):Bool:=decide (p.y<q.y)||(p.y==q.y&&decide (p.x<q.x))
def ao(p:V)(m:Int):Bool:=decide (-m<=p.x)&&decide (p.x<=m)&&decide (-m<=p.y)&&decide (p.y<=m)
def bG(s:S):Bool:=ao s.a 4000&&ao s.b 4000
def fW(s:S)(p:V):Bool:=decide (min s.a.x s.b.x<=p.x)&&decide (p.x<=max s.a.x s.b.x)&&decide (min s.a.y s.b.y<=p.y)&&decide (p.y<=max s.a.y s.b.y)
def onS(s:S)(p:V):Bool:=bG s&&fW s p&&turn s.a s.b p==0
def mq(n:Int):sgn n=0↔n=0:=by unfold sgn;grind
def ud(n:Int):0<sgn n↔0<n:=by unfold sgn;grind
def Y6(n:Int):sgn n<0↔n<0:=by unfold sgn;grind
def wg(m n:Int):sgn m*sgn n<0↔(0<m/\n<0)\/(m<0/\0<n):=by unfold sgn;grind
def fE(x y:Int):Int:=if x<y then-1 else if y<x then 1 else 0
def cE(p q:V):Int:=if fE p.y q.y=0 then fE p.x q.x else fE p.y q.y
def oK(s t:S)(d:Int):Int:=
 let a0:=cross (sub t.a s.a) (sub t.b t.a)
 let b0:=cross (sub t.a s.a) (sub s.b s.a)
 let a:=if d<0 then-a0 else a0
 let b:=if d<0 then-b0 else b0
 let e:=if d<0 then-d else d
 if a<0\/e<a\/b<0\/e<b then 0 else if a=0\/a=e\/b=0\/b=e then 1 else 2
def loS(s:S):V:=if bg s.b s.a then s.b else s.a
def hiS(s:S):V:=if bg s.b s.a then s.a else s.b
def eT(s t:S):V:=if bg (loS s) (loS t)then loS t else loS s
def fM(s t:S):V:=if bg (hiS t) (hiS s)then hiS t else hiS s
def cC(s t:S):Int:=
 if !(bG s&&bG t)then 0
 else if cross (sub s.b s.a) (sub t.b t.a)≠0 then oK s t (cross (sub s.b s.a) (sub t.b t.a))
 else if s.a=s.b/\onS t s.a=true then 1
 else if t.a=t.b/\onS s t.a=true then 1
 else if s.a=s.b\/t.a=t.b\/turn s.a s.b t.a≠0 then 0
 else if cE (eT s t) (fM s t)=0 then 1
 else if cE (eT s t) (fM s t)= -1 then 3
 else 0
def cB(s t:S)(p:V):Prop:=onS s p=true/\onS t p=true
structure MeetIs(s t:S)(k:Int):Prop where
 none:(bG s&&bG t)=false->k=0
 over:∀p q,p∈[s.a,s.b,t.a,t.b]->q∈[s.a,s.b,t.a,t.b]->p≠q->cB s t p->cB s t q->k=3
 touch:(bG s&&bG t)=true->(∀p q,p∈[s.a,s.b,t.a,t.b]->q∈[s.a,s.b,t.a,t.b]->cB s t p->cB s t q->p=q)->(∃p,p∈[s.a,s.b,t.a,t.b]/\cB s t p)->k=1
 cross:(bG s&&bG t)=true->(∀p,p∈[s.a,s.b,t.a,t.b]->¬cB s t p)->(turn s.a s.b t.a*turn s.a s.b t.b<0/\turn t.a t.b s.a*turn t.a t.b s.b<0)->k=2
 else_:(bG s&&bG t)=true->(∀p,p∈[s.a,s.b,t.a,t.b]->¬cB s t p)->¬(turn s.a s.b t.a*turn s.a s.b t.b<0/\turn t.a t.b s.a*turn t.a t.b s.b<0)->k=0
def BA(d b v w:Int)(hd:0<d)(h:d*w=b*v)(hv:v≠0):(min 0 v<=w/\w<=max 0 v)↔(0<=b/\b<=d):=by
 rcases kU hv with hv|hv
 .have e1:w<=0↔0<=b:=by
   rw[<-IK hd,dU,h];constructor
   .intro h1;rcases bl b 0 with h2|h2
    .have:=vj h2 hv;omega
    .exact h2
   .intro h1;have:=bm h1 (show(0:Int)<= -v by omega);grind
  have e2:v<=w↔b<=d:=by
   rw[<-IK hd,h];constructor
   .simp_all
   .simp_all
  omega
 .have e1:0<=w↔0<=b:=by
   rw[<-IK hd,dU,h];constructor
   .intro h1;rcases bl b 0 with h2|h2
    .have:=lZ h2 hv;omega
    .exact h2
   .intro h1;exact bm h1 (by omega)
  have e2:w<=v↔b<=d:=by rw[<-IK hd,h];exact Int.mul_le_mul_right hv
  omega
def oH(s:S)(p:V)(d b:Int)(hd:0<d)(hx:d*(p.x-s.a.x)=b*(s.b.x-s.a.x))(hy:d*(p.y-s.a.y)=b*(s.b.y-s.a.y))(hv:s.a≠s.b):
  fW s p=true↔(0<=b/\b<=d):=by
 obtain⟨⟨ax,ay⟩,⟨bx,b_y⟩⟩:=s;obtain⟨px,py⟩:=p;simp only[fW,bn,decide_eq_true_eq]at*;simp only[ne_eq,V.mk.injEq,not_and]at hv;by_cases h1:bx-ax=0
 .have h2:b_y-ay≠0:=by intro h2;grind
  rw[h1,dU]at hx;have h3:px-ax=0:=by
   rcases cp.1 hx with h|h
   .omega
   .exact h
  have:=BA d b _ _ hd hy h2;omega
 .by_cases h2:b_y-ay=0
  .rw[h2,dU]at hy;have h3:py-ay=0:=by
    rcases cp.1 hy with h|h
    .omega
    .exact h
   have:=BA d b _ _ hd hx h1;omega
  .have e1:=BA d b _ _ hd hx h1;have e2:=BA d b _ _ hd hy h2;omega
def gT{s:S}{p:V}(hv:bG s=true):onS s p=true↔(fW s p=true/\cross (sub s.b s.a) (sub p s.a)=0):=by unfold onS turn;rw[hv];simp only[kC,bn,beq_iff_eq,mq]
def fP{s:S}(hv:bG s=true):onS s s.a=true:=by rw[gT hv];refine⟨?_,by simp[cross,sub]⟩;simp[fW];omega
def jI{s:S}(hv:bG s=true):onS s s.b=true:=by rw[gT hv];refine⟨?_,by simp only[cross,sub];grind⟩;simp[fW];omega
def q1{d a b sa sb ta tb:Int}(h:d*(ta-sa)=a*(sb-sa)-b*(tb-ta))(e:a=0):d*(sa-ta)=b*(tb-ta):=by grind
def q2{d a b sa sb ta tb:Int}(h:d*(ta-sa)=a*(sb-sa)-b*(tb-ta))(e:a=d):d*(sb-ta)=b*(tb-ta):=by grind
def q3{d a b sa sb ta tb:Int}(h:d*(ta-sa)=a*(sb-sa)-b*(tb-ta))(e:b=0):d*(ta-sa)=a*(sb-sa):=by grind
def q4{d a b sa sb ta tb:Int}(h:d*(ta-sa)=a*(sb-sa)-b*(tb-ta))(e:b=d):d*(tb-sa)=a*(sb-sa):=by grind
def z13{d a b sa sb ta tb:Int}(h:d*(ta-sa)=a*(sb-sa)-b*(tb-ta))(e:a=0)(f:b=0):d*(ta-sa)=0:=by grind
def z14{d a b sa sb ta tb:Int}(h:d*(ta-sa)=a*(sb-sa)-b*(tb-ta))(e:a=0)(f:b=d):d*(tb-sa)=0:=by grind
def z23{d a b sa sb ta tb:Int}(h:d*(ta-sa)=a*(sb-sa)-b*(tb-ta))(e:a=d)(f:b=0):d*(ta-sb)=0:=by grind
def z24{d a b sa sb ta tb:Int}(h:d*(ta-sa)=a*(sb-sa)-b*(tb-ta))(e:a=d)(f:b=d):d*(tb-sb)=0:=by grind
def YB(s t:S)(hs:bG s=true)(ht:bG t=true)(hd:cross (sub s.b s.a) (sub t.b t.a)≠0):
  MeetIs s t (oK s t (cross (sub s.b s.a) (sub t.b t.a))):=by
 have hsab:s.a≠s.b:=by intro h;apply hd;rw[h];simp[cross,sub]
 have htab:t.a≠t.b:=by intro h;apply hd;rw[h];simp[cross,sub]
 obtain⟨a0,ha0⟩:∃a,a=cross (sub t.a s.a) (sub t.b t.a):=⟨_,rfl⟩;obtain⟨b0,hb0⟩:∃a,a=cross (sub t.a s.a) (sub s.b s.a):=⟨_,rfl⟩;obtain⟨d0,hd0⟩:∃a,a=cross (sub s.b s.a) (sub t.b t.a):=⟨_,rfl⟩;have f1:cross (sub t.b t.a) (sub s.a t.a)=a0:=by rw[ha0];simp only[cross,sub];grind
 have f2:cross (sub t.b t.a) (sub s.b t.a)=a0-d0:=by rw[ha0,hd0];simp only[cross,sub];grind
 have f3:cross (sub s.b s.a) (sub t.a s.a)= -b0:=by rw[hb0];simp only[cross,sub];grind
 have f4:cross (sub s.b s.a) (sub t.b s.a)=d0-b0:=by rw[hb0,hd0];simp only[cross,sub];grind
 have gx:d0*(t.a.x-s.a.x)=a0*(s.b.x-s.a.x)-b0*(t.b.x-t.a.x):=by rw[ha0,hb0,hd0];simp only[cross,sub];grind
 have gy:d0*(t.a.y-s.a.y)=a0*(s.b.y-s.a.y)-b0*(t.b.y-t.a.y):=by rw[ha0,hb0,hd0];simp only[cross,sub];grind
 rw[<-hd0]at hd;obtain⟨a,b,d,hdp,hx,hy,hab⟩:∃a b d:Int,0<d/\d*(t.a.x-s.a.x)=a*(s.b.x-s.a.x)-b*(t.b.x-t.a.x)/\d*(t.a.y-s.a.y)=a*(s.b.y-s.a.y)-b*(t.b.y-t.a.y)/\((d0<0/\a= -a0/\b= -b0/\d= -d0)\/(¬d0<0/\a=a0/\b=b0/\d=d0)):=by
  by_cases h:d0<0
  .exact⟨-a0,-b0,-d0,by omega,by grind,by grind,by grind⟩
  .exact⟨a0,b0,d0,by omega,gx,gy,by grind⟩
 have hK:oK s t d0=if a<0\/d<a\/b<0\/d<b then 0 else if a=0\/a=d\/b=0\/b=d then 1 else 2:=by unfold oK;simp only[<-ha0,<-hb0];rcases hab with⟨h,rfl,rfl,rfl⟩|⟨h,rfl,rfl,rfl⟩<;>simp only[h,if_true,if_false]
 have c1:cB s t s.a↔(a=0/\0<=b/\b<=d):=by
  unfold cB;rw[gT ht,f1];have e:a0=0↔a=0:=by clear gx gy hx hy;omega
  rw[e];constructor
  .rintro⟨_,h1,h2⟩;exact⟨h2,(oH t s.a d b hdp (q1 hx h2) (q1 hy h2) htab).1 h1⟩
  .rintro⟨h2,h3⟩;exact⟨fP hs,(oH t s.a d b hdp (q1 hx h2) (q1 hy h2) htab).2 h3,h2⟩
 have c2:cB s t s.b↔(a=d/\0<=b/\b<=d):=by
  unfold cB;rw[gT ht,f2];have e:a0-d0=0↔a=d:=by clear gx gy hx hy;omega
  rw[e];constructor
  .rintro⟨_,h1,h2⟩;exact⟨h2,(oH t s.b d b hdp (q2 hx h2) (q2 hy h2) htab).1 h1⟩
  .rintro⟨h2,h3⟩;exact⟨jI hs,(oH t s.b d b hdp (q2 hx h2) (q2 hy h2) htab).2 h3,h2⟩
 have c3:cB s t t.a↔(b=0/\0<=a/\a<=d):=by
  unfold cB;rw[gT hs,f3];have e: -b0=0↔b=0:=by clear gx gy hx hy;omega
  rw[e];constructor
  .rintro⟨⟨h1,h2⟩,_⟩;exact⟨h2,(oH s t.a d a hdp (q3 hx h2) (q3 hy h2) hsab).1 h1⟩
  .rintro⟨h2,h3⟩;exact⟨⟨(oH s t.a d a hdp (q3 hx h2) (q3 hy h2) hsab).2 h3,h2⟩,fP ht⟩
 have c4:cB s t t.b↔(b=d/\0<=a/\a<=d):=by
  unfold cB;rw[gT hs,f4];have e:d0-b0=0↔b=d:=by clear gx gy hx hy;omega
  rw[e];constructor
  .rintro⟨⟨h1,h2⟩,_⟩;exact⟨h2,(oH s t.b d a hdp (q4 hx h2) (q4 hy h2) hsab).1 h1⟩
  .rintro⟨h2,h3⟩;exact⟨⟨(oH s t.b d a hdp (q4 hx h2) (q4 hy h2) hsab).2 h3,h2⟩,jI ht⟩
 have hT:(turn s.a s.b t.a*turn s.a s.b t.b<0/\turn t.a t.b s.a*turn t.a t.b s.b<0)↔(0<a/\a<d/\0<b/\b<d):=by
  unfold turn;rw[wg,wg,f1,f2,f3,f4];clear hx hy gx gy c1 c2 c3 c4 f1 f2 f3 f4 hK ha0 hb0 hd0;rcases hab with⟨h,rfl,rfl,rfl⟩|⟨h,rfl,rfl,rfl⟩
  .omega
  .omega
 rw[<-hd0,hK];clear hK f1 f2 f3 f4;have hone:∀p q,p∈[s.a,s.b,t.a,t.b]->q∈[s.a,s.b,t.a,t.b]->cB s t p->cB s t q->p=q:=by
  have zz:∀x:Int,d*x=0->x=0:=λx h=>by rcases cp.1 h with h|h<;>omega
  have e13:cB s t s.a->cB s t t.a->s.a=t.a:=by rw[c1,c3];rintro⟨h1,_⟩ ⟨h2,_⟩;have h3:=zz _ (z13 hx h1 h2);have h4:=zz _ (z13 hy h1 h2);cases hsa:s.a;cases hta:t.a;simp only[hsa,hta]at h3 h4;simp;omega
  have e14:cB s t s.a->cB s t t.b->s.a=t.b:=by rw[c1,c4];rintro⟨h1,_⟩ ⟨h2,_⟩;have h3:=zz _ (z14 hx h1 h2);have h4:=zz _ (z14 hy h1 h2);cases hsa:s.a;cases hta:t.b;simp only[hsa,hta]at h3 h4;simp;omega
  have e23:cB s t s.b->cB s t t.a->s.b=t.a:=by rw[c2,c3];rintro⟨h1,_⟩ ⟨h2,_⟩;have h3:=zz _ (z23 hx h1 h2);have h4:=zz _ (z23 hy h1 h2);cases hsa:s.b;cases hta:t.a;simp only[hsa,hta]at h3 h4;simp;omega
  have e24:cB s t s.b->cB s t t.b->s.b=t.b:=by rw[c2,c4];rintro⟨h1,_⟩ ⟨h2,_⟩;have h3:=zz _ (z24 hx h1 h2);have h4:=zz _ (z24 hy h1 h2);cases hsa:s.b;cases hta:t.b;simp only[hsa,hta]at h3 h4;simp;omega
  have e12:cB s t s.a->cB s t s.b->False:=by rw[c1,c2];clear hx hy;omega
  have e34:cB s t t.a->cB s t t.b->False:=by rw[c3,c4];clear hx hy;omega
  intro p q hp hq h1 h2;simp only[aj,cG,or_false]at hp hq;rcases hp with rfl|rfl|rfl|rfl<;>rcases hq with rfl|rfl|rfl|rfl
  .rfl
  .grind
  .grind
  .grind
  .grind
  .rfl
  .grind
  .grind
  .grind
  .grind
  .rfl
  .grind
  .grind
  .grind
  .grind
  .rfl
 clear hx hy hd0 hab hd;constructor
 .grind
 .grind
 .grind
 .omega
 grind
def leV(p q:V):Prop:=p.y<q.y\/(p.y=q.y/\p.x<=q.x)
instance(p q:V):Decidable (leV p q):=by unfold leV;infer_instance
def sI(p:V):leV p p:= .inr (by grind)
def qg{p q r:V}(h1:leV p q)(h2:leV q r):leV p r:=by unfold leV at*;omega
def xT{p q:V}(h1:leV p q)(h2:leV q p):p=q:=by cases p;cases q;unfold leV at*;grind
def xL(p q:V):leV p q\/leV q p:=by unfold leV;omega
def l7(p q:V):bg p q=true↔¬leV q p:=by unfold bg leV;simp;omega
def qW(p q:V):bg p q=false↔leV q p:=by rw[<-Bool.not_eq_true,l7];grind
def xO(p q:V):cE p q=0↔p=q:=by cases p;cases q;unfold cE fE;grind
def NF(p q:V):cE p q= -1↔bg p q=true:=by unfold cE fE bg;grind
def xt(p q:V):cE p q<0↔bg p q=true:=by unfold cE fE bg;grind
def OZ(s:S):(loS s=s.a/\hiS s=s.b)\/(loS s=s.b/\hiS s=s.a):=by unfold loS hiS;grind
def NL(s:S)(p:V)(hne:s.a≠s.b)(hc:cross (sub s.b s.a) (sub p s.a)=0):fW s p=true↔(leV (loS s) p/\leV p (hiS s)):=by
 simp only[cross,sub]at hc;by_cases hy:s.b.y=s.a.y
 .have hx:s.b.x≠s.a.x:=by intro hx;apply hne;cases hsa:s.a;cases hsb:s.b;simp only[hsa,hsb]at hx hy;simp[hx,hy]
  unfold loS hiS;cases h:bg s.b s.a
  .have h1:=(qW _ _).1 h;simp only[fW,leV,bn,decide_eq_true_eq]at*;grind
  .have h1:=(l7 _ _).1 h;simp only[fW,leV,bn,decide_eq_true_eq]at*;grind
 .have hxy:p.y=s.a.y->p.x=s.a.x:=by
   intro h;have h0:p.y-s.a.y=0:=by omega
   rw[h0]at hc;have:(s.b.y-s.a.y)*(p.x-s.a.x)=0:=by omega
   rcases cp.1 this with h|h<;>omega
  have hxz:p.y=s.b.y->p.x=s.b.x:=by
   intro h;rw[h]at hc;have:(s.b.y-s.a.y)*(p.x-s.b.x)=0:=by grind
   rcases cp.1 this with h|h<;>omega
  rcases kU hy with h|h
  .have hb:=oH s p (s.a.y-s.b.y) (s.a.y-p.y) (by omega) (by grind) (by grind) hne;rw[hb];have h1:bg s.b s.a=true:=by rw[l7];unfold leV;omega
   unfold loS hiS;rw[h1];simp only[if_true,leV];omega
  .have hb:=oH s p (s.b.y-s.a.y) (p.y-s.a.y) (by omega) (by grind) (by grind) hne;rw[hb];have h1:bg s.b s.a=false:=by rw[qW];unfold leV;omega
   unfold loS hiS;rw[h1];simp only[lc,if_false,leV];omega
def zS{s:S}(h:s.a=s.b){p:V}(hp:fW s p=true):p=s.a:=by cases hsa:s.a;cases hsb:s.b;cases p;simp only[fW,hsa,hsb,V.mk.injEq,bn,decide_eq_true_eq]at*;omega
def Jm(u v w:V)(h1:cross u v=0)(h2:cross v w=0)(hv:v≠⟨0,0⟩):cross u w=0:=by
 simp only[cross]at*;by_cases hx:v.x=0
 .have hy:v.y≠0:=by intro hy;apply hv;cases v;simp at hx hy;simp[hx,hy]
  have:v.y*(u.x*w.y-u.y*w.x)=0:=by grind
  rcases cp.1 this with h|h
  .omega
  .exact h
 .have:v.x*(u.x*w.y-u.y*w.x)=0:=by grind
  rcases cp.1 this with h|h
  .omega
  .exact h
def Ga{p q:V}(h:p≠q):sub q p≠⟨0,0⟩:=by intro h';apply h;cases p;cases q;simp only[sub,V.mk.injEq]at*;omega
def oC(s t:S):MeetIs s t (cC s t):=by
 unfold cC;by_cases hv:(bG s&&bG t)=true
 .have hs:bG s=true:=by simp at hv;exact hv.1
  have ht:bG t=true:=by simp at hv;exact hv.2
  rw[if_neg (by rw[hv];simp)];by_cases hd:cross (sub s.b s.a) (sub t.b t.a)≠0
  .rw[if_pos hd];exact YB s t hs ht hd
  .rw[if_neg hd];have hd0:cross (sub s.b s.a) (sub t.b t.a)=0:=by omega
   have hnv:∀k,(bG s&&bG t)=false->k=(0:Int):=by intro k h;rw[hv]at h;cases h
   have hside:¬(turn s.a s.b t.a*turn s.a s.b t.b<0/\turn t.a t.b s.a*turn t.a t.b s.b<0):=by
    rintro⟨h,_⟩;unfold turn at h;rw[wg]at h;have e:cross (sub s.b s.a) (sub t.b s.a)=cross (sub s.b s.a) (sub t.a s.a)+cross (sub s.b s.a) (sub t.b t.a):=by simp only[cross,sub];grind
    omega
   have allone:∀z,(∀p,p∈[s.a,s.b,t.a,t.b]->cB s t p->p=z)->cB s t z->z∈[s.a,s.b,t.a,t.b]->MeetIs s t 1:=by intro z hz hzo hzm;refine⟨hnv 1,by grind,λ_ _ _=>rfl,by grind,by grind⟩
   have nothing:(∀p,p∈[s.a,s.b,t.a,t.b]->¬cB s t p)->MeetIs s t 0:=by intro h;exact⟨λ_=>rfl,by grind,by grind,by grind,λ_ _ _=>rfl⟩
   by_cases h1:s.a=s.b/\onS t s.a=true
   .rw[if_pos h1];exact allone s.a (λp _ h=>zS h1.1 ((gT hs).1 h.1).1) ⟨fP hs,h1.2⟩ (by simp)
   .rw[if_neg h1];by_cases h2:t.a=t.b/\onS s t.a=true
    .rw[if_pos h2];exact allone t.a (λp _ h=>zS h2.1 ((gT ht).1 h.2).1) ⟨h2.2,fP ht⟩ (by simp)
    .rw[if_neg h2];by_cases h3:s.a=s.b\/t.a=t.b\/turn s.a s.b t.a≠0
     .rw[if_pos h3];apply nothing;rintro p hp ⟨hps,hpt⟩;by_cases hsd:s.a=s.b
      .have:=zS hsd ((gT hs).1 hps).1;grind
      .by_cases htd:t.a=t.b
       .have:=zS htd ((gT ht).1 hpt).1;grind
       .have h4:turn s.a s.b t.a≠0:=by
         rcases h3 with h|h|h
         .grind
         .grind
         .exact h
        have c1:=((gT hs).1 hps).2;have c2:=((gT ht).1 hpt).2;have hv0:=Ga htd;have c3:=Jm _ _ _ hd0 c2 hv0;apply h4;unfold turn;rw[mq];have e:cross (sub s.b s.a) (sub t.a s.a)=cross (sub s.b s.a) (sub p s.a)-cross (sub s.b s.a) (sub p t.a):=by simp only[cross,sub];grind
        omega
     .rw[if_neg h3];have hsd:s.a≠s.b:=by grind
      have htd:t.a≠t.b:=by grind
      have hta:cross (sub s.b s.a) (sub t.a s.a)=0:=by
       have:turn s.a s.b t.a=0:=by grind
       unfold turn at this;rwa[mq]at this
      have hl1:∀p,p∈[s.a,s.b,t.a,t.b]->cross (sub s.b s.a) (sub p s.a)=0:=by
       intro p hp;simp only[aj,cG,or_false]at hp;rcases hp with rfl|rfl|rfl|rfl
       .simp[cross,sub]
       .simp only[cross];grind
       .exact hta
       .have e:cross (sub s.b s.a) (sub t.b s.a)=cross (sub s.b s.a) (sub t.a s.a)+cross (sub s.b s.a) (sub t.b t.a):=by simp only[cross,sub];grind
        omega
      have hl2:∀p,p∈[s.a,s.b,t.a,t.b]->cross (sub t.b t.a) (sub p t.a)=0:=by
       intro p hp;have h5:=hl1 p hp;have e:cross (sub s.b s.a) (sub p t.a)=cross (sub s.b s.a) (sub p s.a)-cross (sub s.b s.a) (sub t.a s.a):=by simp only[cross,sub];grind
       have h6:cross (sub s.b s.a) (sub p t.a)=0:=by omega
       have h7:cross (sub t.b t.a) (sub s.b s.a)=0:=by
        have:cross (sub t.b t.a) (sub s.b s.a)= -cross (sub s.b s.a) (sub t.b t.a):=by simp only[cross,sub];grind
        omega
       exact Jm _ _ _ h7 h6 (Ga hsd)
      have hlo:leV (loS s) (eT s t)/\leV (loS t) (eT s t)/\(eT s t=loS s\/eT s t=loS t):=by
       unfold eT;cases h:bg (loS s) (loS t)
       .have:=(qW _ _).1 h;simp[this,sI]
       .have h':=(l7 _ _).1 h;have:leV (loS s) (loS t):=(xL _ _).elim id (by grind);simp[this,sI]
      have hhi:leV (fM s t) (hiS s)/\leV (fM s t) (hiS t)/\(fM s t=hiS s\/fM s t=hiS t):=by
       unfold fM;cases h:bg (hiS t) (hiS s)
       .have:=(qW _ _).1 h;simp[this,sI]
       .have h':=(l7 _ _).1 h;have:leV (hiS t) (hiS s):=(xL _ _).elim id (by grind);simp[this,sI]
      have hmem:∀p,(p=loS s\/p=hiS s\/p=loS t\/p=hiS t)->p∈[s.a,s.b,t.a,t.b] :=by intro p h;have h5:=OZ s;have h6:=OZ t;simp only[aj,cG,or_false];grind
      have hon:∀p,p∈[s.a,s.b,t.a,t.b]->(cB s t p↔leV (eT s t) p/\leV p (fM s t)):=by
       intro p hp;unfold cB;rw[gT hs,gT ht,NL s p hsd (hl1 p hp),NL t p htd (hl2 p hp)];constructor
       .grind
       .rintro⟨a1,a2⟩;exact⟨⟨⟨qg hlo.1 a1,qg a2 hhi.1⟩,hl1 p hp⟩,⟨qg hlo.2.1 a1,qg a2 hhi.2.1⟩,hl2 p hp⟩
      have mlo:eT s t∈[s.a,s.b,t.a,t.b] :=hmem _ (by grind);have mhi:fM s t∈[s.a,s.b,t.a,t.b] :=hmem _ (by grind);by_cases h5:cE (eT s t) (fM s t)=0
      .rw[if_pos h5];have e:=(xO _ _).1 h5;refine allone (eT s t) ?_ (by grind) mlo;intro p hp h;have h6:=(hon p hp).1 h;rw[<-e]at h6;exact xT h6.2 h6.1
      .rw[if_neg h5];by_cases h6:cE (eT s t) (fM s t)= -1
       .rw[if_pos h6];have h7:=(l7 _ _).1 ((NF _ _).1 h6);have h8:leV (eT s t) (fM s t):=(xL _ _).elim id (by grind);have o1:=(hon _ mlo).2 ⟨sI _,h8⟩;have o2:=(hon _ mhi).2 ⟨h8,sI _⟩;have hne:eT s t≠fM s t:=by grind
        exact⟨by grind,by grind,by grind,by grind,by grind⟩
       .rw[if_neg h6];apply nothing;intro p hp h;have h7:=(hon p hp).1 h;have h8:=qg h7.1 h7.2;have h9:¬bg (eT s t) (fM s t)=true:=λh=>h6 ((NF _ _).2 h);rw[l7]at h9;exact h5 ((xO _ _).2 (xT h8 (by grind)))
 .have hv':(bG s&&bG t)=false:=by simpa using hv
  rw[if_pos (by rw[hv'];rfl)];have hv3:¬(bG s&&bG t)=true:=by rw[hv'];simp
  refine⟨λ_=>rfl,λp q _ _ _ h1 _=> ?_,by grind,by grind,by grind⟩;exfalso;obtain⟨h1,h2⟩:=h1;unfold onS at h1 h2;grind
def jf:List V->V->List V
 |[],p=>[p]
 |q::r,p=>if bg q p then q::jf r p else if q=p then q::r else p::q::r
def lD(l:List V):List V:=l.foldl jf []
def Mj(l:List V)(p x:V):x∈jf l p↔x=p\/x∈l:=by
 induction l with
 |nil=>simp[jf]
 |cons q r ih=>
  unfold jf;grind
def TA(l acc:List V)(x:V):x∈l.foldl jf acc↔x∈acc\/x∈l:=by
 induction l generalizing acc with
 |nil=>simp
 |cons q r ih=>rw[List.foldl_cons,ih,Mj];grind
def T8(l:List V)(x:V):x∈lD l↔x∈l:=by unfold lD;rw[TA];simp
def tu{p q r:V}(h1:bg p q=true)(h2:bg q r=true):bg p r=true:=by unfold bg at*;grind
def wT(p:V):bg p p=false:=by unfold bg;simp
def AA{p q:V}(h1:bg p q=false)(h2:p≠q):bg q p=true:=by rw[l7];intro h;exact h2 (xT h ((qW _ _).1 h1))
def UD(l:List V)(p:V)(h:l.Pairwise (λa b=>bg a b=true)):(jf l p).Pairwise (λa b=>bg a b=true):=by
 induction l with
 |nil=>simp[jf]
 |cons q r ih=>
  rw[gh]at h;unfold jf;split
  .rename_i hq;rw[gh];refine⟨?_,ih h.2⟩;intro x hx;rcases(Mj _ _ _).1 hx with rfl|hx
   .exact hq
   grind
  .split
   .simp_all
   .rename_i hne;have hpq:=AA (by grind) hne;rw[gh,gh];refine⟨?_,h⟩;intro x hx;rcases aj.1 hx with rfl|hx
    .exact hpq
    .exact tu hpq (h.1 x hx)
def Sr(l acc:List V)(h:acc.Pairwise (λa b=>bg a b=true)):(l.foldl jf acc).Pairwise (λa b=>bg a b=true):=by
 induction l generalizing acc with
 |nil=>exact h
 |cons q r ih=>exact ih _ (UD acc q h)
def I8(l:List V):(lD l).Pairwise (λa b=>bg a b=true):=Sr l [] tT
def ends(s t:S):List V:=[s.a,s.b,t.a,t.b]
def ju(s t:S):List V:=lD ((ends s t).filter (λp=>onS s p&&onS t p))
def DT(s t:S)(p:V):p∈ju s t↔p∈ends s t/\cB s t p:=by unfold ju cB;rw[T8,fF];simp
def gK(s:S)(p:V):Int:=if !(bG s)|| !(ao p 4000)then 0 else turn s.a s.b p
def cZ(s t:S):Int:=
 if !(bG s&&bG t)then 0
 else if 1<(ju s t).length then 3
 else if(ju s t).length=1 then 1
 else if gK s t.a*gK s t.b<0/\gK t s.a*gK t s.b<0 then 2
 else 0
def pV(s t:S):cC s t=cZ s t:=by
 have h:=oC s t;obtain⟨k,hk⟩:∃k,k=cC s t:=⟨_,rfl⟩;unfold cZ;cases hv:(bG s&&bG t)with
 |false=>simp[h.none hv]
 |true=>
  have hs:bG s=true:=by simp at hv;exact hv.1
  have ht:bG t=true:=by simp at hv;exact hv.2
  have ws:=hs;have wt:=ht;unfold bG at ws wt;simp only[bn]at ws wt;simp only[mU,lc,if_false,gK,hs,ht,ws,wt,Bool.or_self];have hp:=I8 ((ends s t).filter (λp=>onS s p&&onS t p));have hm:=DT s t;rw[show lD ((ends s t).filter (λp=>onS s p&&onS t p))=ju s t from rfl]at hp;generalize ju s t=l at hp hm;match l,hp,hm with
  |[],_,hm=>
   have hno:∀p,p∈[s.a,s.b,t.a,t.b]->¬cB s t p:=λp hp ho=>by have:=(hm p).2 ⟨hp,ho⟩;cases this
   simp only[mV];by_cases hc:turn s.a s.b t.a*turn s.a s.b t.b<0/\turn t.a t.b s.a*turn t.a t.b s.b<0
   .rw[if_pos hc];exact h.cross hv hno hc
   .rw[if_neg hc];exact h.else_ hv hno hc
  |[z],_,hm=>
   simp only[List.length_singleton];have hz:=(hm z).1 (by simp);refine h.touch hv ?_ ⟨z,hz⟩;intro p q hp hq h1 h2;have e1:=(hm p).2 ⟨hp,h1⟩;have e2:=(hm q).2 ⟨hq,h2⟩;grind
  |z::y::r,hp,hm=>
   simp only[gu];have hz:=(hm z).1 (by simp);have hy:=(hm y).1 (by simp);refine h.over z y hz.1 hy.1 ?_ hz.2 hy.2;intro e;rw[gh]at hp;have:=hp.1 y (by simp);rw[e,wT]at this;cases this
end Geo
namespace Geo
abbrev aE:=List V
def nth(r:aE)(i:Nat):V:=r.getD i default
def nxt(r:aE)(i:Nat):V:=nth r ((i+1) % r.length)
def prv(r:aE)(i:Nat):V:=nth r ((i+r.length-1) % r.length)
def bO(r:aE)(i:Nat):S:=⟨nth r i,nxt r i⟩
def aH(r:aE):List S:=if r.length<2 then []else(bV r.length).map (bO r)
def area(r:aE):Int:=((bV r.length).map λi=>cross (nth r i) (nxt r i)).sum
def near(r:aE):Bool:=r.all λv=>ao v 2000
def cV(r:aE):Bool:=
 decide (3<=r.length)&&decide (r.length<=40)&&near r&&decide (0<area r)&&
 ((bV r.length).all λi=>turn (prv r i) (nth r i) (nxt r i) !=0)&&
 ((bV r.length).all λi=>(bV r.length).all λk=>decide (k<=i)||k==i+1||(i==0&&k==r.length-1)||cC (bO r i) (bO r k)==0)
def dq(r:aE):Bool:=
 decide (3<=r.length)&&decide (r.length<=40)&&near r&&
 ((bV r.length).all λi=>turn (nth r i) (nth r ((i+1) % r.length)) (nth r ((i+2) % r.length)) !=0)&&
 ((bV r.length).all λi=>(bV r.length).all λk=>decide (k<=i)||
   (if k=i+1\/(i=0/\k=r.length-1)then cZ (bO r i) (bO r k)==1 else cZ (bO r i) (bO r k)==0))&&
 decide (0<area r)
def AJ(a b c:V):turn a b c=turn b c a:=by unfold turn;simp only[cross,sub];grind
def Kf(a b c:V):cross (sub b a) (sub c a)= -cross (sub a b) (sub c b):=by simp only[cross,sub];grind
def Mk(s t:S)(hs:bG s=true)(ht:bG t=true)(he:s.b=t.a)(hn:turn s.a s.b t.b≠0):cC s t=1:=by
 have h:=oC s t;have hb:cB s t s.b:=⟨jI hs,by rw[he];exact fP ht⟩;refine h.touch (by grind) ?_ (by grind);have key:∀p,p∈[s.a,s.b,t.a,t.b]->cB s t p->p=s.b:=by
  intro p hp ho;simp only[aj,cG,or_false]at hp;rcases hp with rfl|rfl|rfl|rfl
  .exfalso;apply hn;have:=((gT ht).1 ho.2).2;rw[AJ];unfold turn;rw[mq,he];exact this
  .rfl
  .exact he.symm
  .exfalso;apply hn;have:=((gT hs).1 ho.1).2;unfold turn;rw[mq];exact this
 grind
def l6(s t:S):cC s t=cC t s:=by
 have h1:=oC s t;have h2:=oC t s;have hmem:∀p,p∈[s.a,s.b,t.a,t.b] ↔p∈[t.a,t.b,s.a,s.b] :=by intro p;simp only[aj,cG,or_false];grind
 have hob:∀p,cB s t p↔cB t s p:=λp=>And.comm;cases hv:(bG s&&bG t)with
 |false=>rw[h1.none hv,h2.none (by grind)]
 |true=>
  have hv':(bG t&&bG s)=true:=by rw[Bool.and_comm];exact hv
  by_cases hx:∃p,p∈[s.a,s.b,t.a,t.b]/\cB s t p
  .by_cases hu:∀p q,p∈[s.a,s.b,t.a,t.b]->q∈[s.a,s.b,t.a,t.b]->cB s t p->cB s t q->p=q
   .rw[h1.touch hv hu hx,h2.touch hv' (by grind)];grind
   .have:∃p q,p∈[s.a,s.b,t.a,t.b]/\q∈[s.a,s.b,t.a,t.b]/\p≠q/\cB s t p/\cB s t q:=by apply cu;intro hno;apply hu;intro p q hp hq a b;apply cu;intro hne;grind
    obtain⟨p,q,hp,hq,hne,a,b⟩:=this;rw[h1.over p q hp hq hne a b,h2.over p q ((hmem p).1 hp) ((hmem q).1 hq) hne ((hob p).1 a) ((hob q).1 b)]
  .have hno:∀p,p∈[s.a,s.b,t.a,t.b]->¬cB s t p:=by grind
   have hno':∀p,p∈[t.a,t.b,s.a,s.b]->¬cB t s p:=by grind
   by_cases hc:turn s.a s.b t.a*turn s.a s.b t.b<0/\turn t.a t.b s.a*turn t.a t.b s.b<0
   .rw[h1.cross hv hno hc,h2.cross hv' hno' ⟨hc.2,hc.1⟩]
   .rw[h1.else_ hv hno hc,h2.else_ hv' hno' (by grind)]
def jr{v:V}{m n:Int}(h:ao v m=true)(hmn:m<=n):ao v n=true:=by unfold ao at*;simp only[bn,decide_eq_true_eq]at*;omega
def uU{r:aE}(h:near r=true)(i:Nat)(hi:i<r.length):ao (nth r i) 2000=true:=by unfold near at h;unfold nth;grind
def jX{r:aE}(h:near r=true)(i:Nat)(hi:i<r.length):bG (bO r i)=true:=by unfold bG bO nxt;have h2:(i+1) % r.length<r.length:=bw _ (by omega);simp only[bn];exact⟨jr (uU h i hi) (by omega),jr (uU h _ h2) (by omega)⟩
def jD{i n:Nat}(h:i<n):i % n=i:=dp h
def pS{i n:Nat}(h1:n<=i)(h2:i<2*n):i % n=i-n:=by rw[Nat.mod_eq_sub_mod h1,dp (by omega)]
def D2(r:aE)(hn:3<=r.length):
  ((bV r.length).all λi=>turn (prv r i) (nth r i) (nxt r i) !=0)=((bV r.length).all λi=>turn (nth r i) (nth r ((i+1) % r.length)) (nth r ((i+2) % r.length)) !=0):=by
 rw[fg,bf,bf];constructor
 .intro h i hi;have hi:=cF.1 hi;have:=h ((i+1) % r.length) (cF.2 (bw _ (by omega)));unfold prv nxt at this;by_cases h1:i+1<r.length
  .rw[jD h1]at this|-;have e1:(i+1+r.length-1) % r.length=i:=by rw[show i+1+r.length-1=i+r.length from by omega,pS (by omega) (by omega)];omega
   grind
  .have e0:i+1=r.length:=by omega
   rw[e0,kV]at this|-;have e1:(0+r.length-1) % r.length=i:=by rw[jD (by omega)];omega
   have e2:(i+2) % r.length=(0+1) % r.length:=by rw[pS (by omega) (by omega),jD (by omega)];omega
   grind
 .intro h i hi;have hi:=cF.1 hi;have:=h ((i+r.length-1) % r.length) (cF.2 (bw _ (by omega)));unfold prv nxt;by_cases h1:i=0
  .subst h1;have e1:(0+r.length-1) % r.length=r.length-1:=by rw[jD (by omega)];omega
   have e2:(r.length-1+1) % r.length=0:=by rw[show r.length-1+1=r.length from by omega,kV]
   have e3:(r.length-1+2) % r.length=(0+1) % r.length:=by rw[pS (by omega) (by omega),jD (by omega)];omega
   grind
  .have e1:(i+r.length-1) % r.length=i-1:=by rw[pS (by omega) (by omega)];omega
   have e2:(i-1+1) % r.length=i:=by rw[show i-1+1=i from by omega];exact jD hi
   have e3:i-1+2=i+1:=by omega
   grind
def uM(r:aE):cV r=dq r:=by
 unfold cV dq;by_cases h3:3<=r.length
 case neg=>simp[h3]
 by_cases hn:near r=true
 case neg=>simp[hn]
 rw[D2 r h3];cases ht:((bV r.length).all λi=>turn (nth r i) (nth r ((i+1) % r.length)) (nth r ((i+2) % r.length)) !=0)with
 |false=>simp
 |true=>
  have hpairs:((bV r.length).all λi=>(bV r.length).all λk=>decide (k<=i)||k==i+1||(i==0&&k==r.length-1)||cC (bO r i) (bO r k)==0)=
    ((bV r.length).all λi=>(bV r.length).all λk=>decide (k<=i)||
      (if k=i+1\/(i=0/\k=r.length-1)then cZ (bO r i) (bO r k)==1 else cZ (bO r i) (bO r k)==0)):=by
   have hturn:∀i,i<r.length->turn (nth r i) (nth r ((i+1) % r.length)) (nth r ((i+2) % r.length))≠0:=by intro i hi;rw[bf]at ht;have:=ht i (cF.2 hi);simpa using this
   have hpt:∀i k,i<r.length->k<r.length->(decide (k<=i)||k==i+1||(i==0&&k==r.length-1)||cC (bO r i) (bO r k)==0)=(decide (k<=i)||
     (if k=i+1\/(i=0/\k=r.length-1)then cZ (bO r i) (bO r k)==1 else cZ (bO r i) (bO r k)==0)):=by
    intro i k hi hk;rw[<-pV];by_cases hki:k<=i
    .simp[hki]
    .by_cases h1:k=i+1
     .subst h1;have:=Mk (bO r i) (bO r (i+1)) (jX hn i hi) (jX hn _ hk) (by unfold bO nxt;simp[jD hk]) (by have:=hturn i hi;exact this)
      simp[this]
     .by_cases h2:i=0/\k=r.length-1
      .obtain⟨rfl,rfl⟩:=h2;have e1:(r.length-1+1) % r.length=0:=by rw[show r.length-1+1=r.length from by omega,kV]
       have:=Mk (bO r (r.length-1)) (bO r 0) (jX hn _ hk) (jX hn _ hi) (by unfold bO nxt;grind) (by
        have:=hturn (r.length-1) hk;have e3:(r.length-1+2) % r.length=(0+1) % r.length:=by rw[pS (by omega) (by omega),jD (by omega)];omega
        unfold bO nxt;grind)
       rw[l6]at this;simp[this]
      .have h3:(i==0&&k==r.length-1)=false:=by rw[<-Bool.not_eq_true,bn,beq_iff_eq,beq_iff_eq];exact h2
       have h4:(k==i+1)=false:=by rw[beq_eq_false_iff_ne];exact h1
       rw[if_neg (by omega),h3,h4];simp
   rw[fg];simp only[bf,cF];constructor
   .grind
   .grind
  grind
structure Pt where
 x:Int
 y:Int
 den:Int
deriving DecidableEq,Inhabited
def toV(p:Pt)(v:V):V:=⟨p.x-v.x*p.den,p.y-v.y*p.den⟩
def fK(s:S)(p:Pt):Int:=cross (sub s.b s.a) (toV p s.a)
def onP(s:S)(p:Pt):Bool:=
 fK s p==0&&(decide (min (toV p s.a).x (toV p s.b).x<=0)&&decide (0<=max (toV p s.a).x (toV p s.b).x))&&(decide (min (toV p s.a).y (toV p s.b).y<=0)&&decide (0<=max (toV p s.a).y (toV p s.b).y))
def dh(s:S)(p:Pt):Bool:=
 (decide (0<=(toV p s.a).y) !=decide (0<=(toV p s.b).y))&&(decide (0<=(toV p s.a).y)==decide (0<fK s p))
def onR(s:S)(p:Pt):Bool:=
 (decide (min s.a.x s.b.x*p.den<=p.x)&&decide (p.x<=max s.a.x s.b.x*p.den)&&decide (min s.a.y s.b.y*p.den<=p.y)&&decide (p.y<=max s.a.y s.b.y*p.den))&&sgn (fK s p)==0
def jg(s:S)(p:Pt):Bool:=
 ((decide (s.a.y*p.den<=p.y)&&decide (p.y<s.b.y*p.den))&&decide (0<sgn (fK s p)))||((decide (s.b.y*p.den<=p.y)&&decide (p.y<s.a.y*p.den))&&decide (sgn (fK s p)<0))
def OS(a b d:Int)(h:0<=d):min a b*d=min (a*d) (b*d):=by
 rcases vm a b with h1|h1
 .rw[Int.min_eq_left h1,Int.min_eq_left (lg h1 h)]
 .rw[Int.min_eq_right h1,Int.min_eq_right (lg h1 h)]
def OW(a b d:Int)(h:0<=d):max a b*d=max (a*d) (b*d):=by
 rcases vm a b with h1|h1
 .rw[Int.max_eq_right h1,Int.max_eq_right (lg h1 h)]
 .rw[Int.max_eq_left h1,Int.max_eq_left (lg h1 h)]
def HW(s:S)(p:Pt)(h:0<p.den):onP s p=onR s p:=by unfold onP onR toV;rw[OS _ _ _ (by omega),OW _ _ _ (by omega),OS _ _ _ (by omega),OW _ _ _ (by omega),fg];simp only[bn,decide_eq_true_eq,beq_iff_eq,mq];omega
def Uq(s:S)(p:Pt)(h0:fK s p=0)(ha:(toV p s.a).y<0)(hb:0<=(toV p s.b).y)(_hd:0<p.den):onP s p=true:=by
 have e:fK s p*p.den=(toV p s.a).x*(toV p s.b).y-(toV p s.a).y*(toV p s.b).x:=by unfold fK toV cross sub;grind
 rw[h0,tU]at e;unfold onP;rw[h0];generalize (toV p s.a).x=ax at*;generalize (toV p s.b).x=bx at*;simp only[BEq.rfl,kC,bn,decide_eq_true_eq];have hx:(min ax bx<=0/\0<=max ax bx):=by
  rcases bl 0 ax with h1|h1
  .have h2:bx<=0:=by
    rcases bl 0 bx with h2|h2
    .have p1:=lZ ha h2;have p2:=bm (show 0<=ax by omega) hb;omega
    .exact h2
   omega
  .rcases bl ax 0 with h1|h1
   .have h2:0<=bx:=by
     rcases bl bx 0 with h2|h2
     .have p1:=vj ha h2;have p2:=bm (show 0<= -ax by omega) hb;grind
     .exact h2
    omega
   .omega
 omega
def aAR(s:S)(p:Pt)(h:0<p.den)(ho:onP s p=false):dh s p=jg s p:=by
 have key:(toV p s.a).y<0->0<=(toV p s.b).y->fK s p≠0:=by intro h1 h2 h3;rw[Uq s p h3 h1 h2 h]at ho;cases ho
 unfold dh jg;rw[fg];simp only[bn,jl,decide_eq_true_eq,bne_iff_ne,ne_eq,beq_iff_eq,ud,Y6,decide_eq_decide];have ey1:(toV p s.a).y=p.y-s.a.y*p.den:=rfl;have ey2:(toV p s.b).y=p.y-s.b.y*p.den:=rfl;omega
def iX(p:Pt)(m:Int):Bool:=decide (1<=p.den)&&decide (p.den<=134217728)&&ao ⟨p.x,p.y⟩ (m*p.den)
def c6(p:Pt):Bool:=iX p 4000&&(cD (cD p.x.natAbs p.y.natAbs) p.den.natAbs==1)
def dZ(p:Pt):List S->Bool->Int
 |[],ins=>if ins then 2 else 0
 |s::l,ins=>if onP s p then 1 else dZ p l (ins !=dh s p)
def mF(p:Pt):List S->Bool->Int
 |[],ins=>if ins then 2 else 0
 |s::l,ins=>if onR s p then 1 else mF p l (ins !=jg s p)
def Y7(p:Pt)(h:0<p.den)(l:List S)(ins:Bool):dZ p l ins=mF p l ins:=by
 induction l generalizing ins with
 |nil=>rfl
 |cons s l ih=>
  unfold dZ mF;rw[<-HW s p h];cases ho:onP s p with
  |true=>rfl
  |false=>rw[ih,aAR s p h ho]
def bP(r:aE)(p:Pt):Int:=if !(cV r)|| !(c6 p)then 0 else dZ p (aH r) false
def dd(r:aE)(p:Pt):Int:=if !(dq r)|| !(c6 p)then 0 else mF p (aH r) false
def AI(r:aE)(p:Pt):bP r p=dd r p:=by
 unfold bP dd;rw[uM];cases hp:c6 p with
 |false=>simp
 |true=>
  have:0<p.den:=by unfold c6 iX at hp;simp only[bn,decide_eq_true_eq]at hp;omega
  rw[Y7 p this]
def fD(v:V):Pt:=⟨v.x,v.y,1⟩
def dL(r:aE)(v:V):Int:=if !(ao v 4000)then 0 else bP r (fD v)
def kf(r:aE)(v:V):Int:=if !(ao v 8000)then 0 else dd r (fD v)
def DF(v:V):c6 (fD v)=ao v 4000:=by unfold c6 iX fD ao;simp
def ze(r:aE)(v:V):dL r v=kf r v:=by
 unfold dL kf;rw[AI];cases h:ao v 4000 with
 |true=>rw[jr h (by omega)]
 |false=>
  unfold dd;rw[DF,h];simp
end Geo
namespace Geo
structure Shape where
 outer:aE
 holes:List aE
deriving DecidableEq,Inhabited
def aD(s:Shape):List aE:=s.outer::s.holes
def aA(l:List aE)(i:Nat):aE:=l.getD i []
def dr(a b:aE):Bool:=(aH a).all λx=>(aH b).all λy=>cC x y==0
def bK(r q:aE)(place:Int):Bool:=r.all λv=>dL q v==place
def gH(s:Shape):Nat:=((aD s).map List.length).sum
def bM(s:Shape):Bool:=
 decide (s.holes.length<=6)&&(aD s).all cV&&decide (gH s<=80)&&
 ((bV s.holes.length).all λi=>bK (aA s.holes i) s.outer 2&&dr (aA s.holes i) s.outer&&
   ((bV i).all λk=>dr (aA s.holes i) (aA s.holes k)&&bK (aA s.holes i) (aA s.holes k) 0&&bK (aA s.holes k) (aA s.holes i) 0))
def iO(a b:aE):Bool:=(aH a).any λx=>(aH b).any λy=>cZ x y !=0
def pI(a b:aE):Bool:=a.all λv=>kf b v==2
def kz(a b:aE):Bool:=a.any λv=>kf b v==2
def bI(s:Shape):Bool:=
 decide (s.holes.length<=6)&&dq s.outer&&
 ((bV s.holes.length).all λi=>dq (aA s.holes i)&& !iO (aA s.holes i) s.outer&&pI (aA s.holes i) s.outer&&
   ((bV i).all λk=> !iO (aA s.holes i) (aA s.holes k)&& !kz (aA s.holes i) (aA s.holes k)&& !kz (aA s.holes k) (aA s.holes i)))&&
 decide (gH s<=80)
def UT(a b:aE):dr a b= !iO a b:=by
 unfold dr iO;rw[SU]
 congr 1;funext x
 rw[SU]
 congr 1;funext y
 rw[pV];grind
def zL{s t:S}{p:V}(hp:p∈[s.a,s.b,t.a,t.b])(ho:cB s t p):cC s t≠0:=by
 have h:=oC s t;have hv:(bG s&&bG t)=true:=by obtain⟨h1,h2⟩:=ho;unfold onS at h1 h2;simp only[bn]at h1 h2|-;grind
 by_cases hu:∀p q,p∈[s.a,s.b,t.a,t.b]->q∈[s.a,s.b,t.a,t.b]->cB s t p->cB s t q->p=q
 .rw[h.touch hv hu ⟨p,hp,ho⟩];decide
 .have:∃p q,p∈[s.a,s.b,t.a,t.b]/\q∈[s.a,s.b,t.a,t.b]/\p≠q/\cB s t p/\cB s t q:=by apply cu;intro hno;apply hu;intro p q hp hq a b;apply cu;intro hne;grind
  obtain⟨p,q,hp,hq,hne,a,b⟩:=this;rw[h.over p q hp hq hne a b];decide
def mem_edges{r:aE}{s:S}:s∈aH r↔2<=r.length/\∃i,i<r.length/\s=bO r i:=by unfold aH;grind
def fN{r:aE}{v:V}:v∈r↔∃i,i<r.length/\v=nth r i:=by
 unfold nth;constructor
 .intro h;obtain⟨i,hi,e⟩:=jm h;exact⟨i,hi,by grind⟩
 grind
structure VR(r:aE):Prop where
 three:3<=r.length
 most:r.length<=40
 near:near r=true
 area:0<area r
 turn:∀i,i<r.length->turn (prv r i) (nth r i) (nxt r i)≠0
 turn':∀i,i<r.length->Geo.turn (nth r i) (nth r ((i+1) % r.length)) (nth r ((i+2) % r.length))≠0
 apart:∀i k,i<k->k<r.length->k≠i+1->¬(i=0/\k=r.length-1)->cC (bO r i) (bO r k)=0
def iB(r:aE):cV r=true↔VR r:=by
 constructor
 .intro h;unfold cV at h;simp only[bn,decide_eq_true_eq,bf,cF]at h;obtain⟨⟨⟨⟨⟨h1,h2⟩,h3⟩,h4⟩,h5⟩,h6⟩:=h;refine⟨h1,h2,h3,h4,by grind,λi hi=> ?_,λi k hik hk h7 h8=> ?_⟩
  .have:=D2 r h1;grind
  grind
 .rintro⟨h1,h2,h3,h4,h5,_,h6⟩;unfold cV;simp only[bn,decide_eq_true_eq,bf,cF];grind
def Xj{p:Pt}{l:List S}{ins:Bool}(h:dZ p l ins=1):∃s∈l,onP s p=true:=by
 induction l generalizing ins with
 |nil=>unfold dZ at h;omega
 |cons s l ih=>
  unfold dZ at h;grind
def J1(p:Pt)(l:List S)(ins:Bool):dZ p l ins=0\/dZ p l ins=1\/dZ p l ins=2:=by
 induction l generalizing ins with
 |nil=>unfold dZ;omega
 |cons s l ih=>unfold dZ;grind
def TG(r:aE)(v:V):dL r v=0\/dL r v=1\/dL r v=2:=by
 unfold dL bP;split
 .simp
 .split
  .simp
  .exact J1 _ _ _
def Md(s:S)(v:V):onP s (fD v)=true↔(fW s v=true/\cross (sub s.b s.a) (sub v s.a)=0):=by unfold onP fK toV fD fW;simp only[ym,bn,beq_iff_eq,decide_eq_true_eq];rw[show(⟨v.x-s.a.x,v.y-s.a.y⟩:V)=sub v s.a from rfl];omega
def To{r:aE}{v:V}(h:dL r v=1):∃s∈aH r,onS s v=true:=by
 unfold dL bP at h;split at h
 .omega
 .split at h
  .omega
  .rename_i h2;obtain⟨s,hs,ho⟩:=Xj h;refine⟨s,hs,?_⟩;have hv:VR r:=by rw[<-iB];simp at h2;exact h2.1
   obtain⟨_,i,hi,rfl⟩:=mem_edges.1 hs;rw[gT (jX hv.near i hi)];exact(Md _ _).1 ho
def wR{a b:aE}(ha:VR a)(h:dr a b=true){v:V}(hv:v∈a){s:S}(hs:s∈aH b)(ho:onS s v=true):False:=by obtain⟨i,hi,rfl⟩:=fN.1 hv;have hm:bO a i∈aH a:=mem_edges.2 ⟨by have:=ha.three;omega,i,hi,rfl⟩;unfold dr at h;rw[bf]at h;have h1:=h _ hm;rw[bf]at h1;refine zL (s:=bO a i) (t:=s) (p:=nth a i) (by simp[bO]) ⟨?_,ho⟩ (by grind);exact fP (s:=bO a i) (jX ha.near i hi)
def rj(a b:aE):dr a b=dr b a:=by
 unfold dr;rw[fg];simp only[bf,beq_iff_eq];constructor
 .intro h y hy x hx;rw[l6];grind
 .intro h x hx y hy;rw[l6];grind
def m5{a b:aE}(ha:VR a)(h:dr a b=true):bK a b 0= !kz a b:=by
 unfold bK kz;rw[SU,fg];simp only[bf];constructor
 .intro h1 v hv;rw[<-ze];grind
 .intro h1 v hv;have:=h1 v hv;rw[<-ze]at this;rcases TG b v with e|e|e
  .rw[e];rfl
  .exfalso;obtain⟨s,hs,ho⟩:=To e;exact wR ha h hv hs ho
  grind
def iD{l:List aE}{i:Nat}(h:i<l.length):aA l i∈l:=by unfold aA;grind
def qi{l:List aE}{r:aE}(h:r∈l):∃i,i<l.length/\r=aA l i:=by obtain⟨i,hi,e⟩:=jm h;exact⟨i,hi,by unfold aA;grind⟩
structure VS(s:Shape):Prop where
 few:s.holes.length<=6
 outer:VR s.outer
 hole:∀i,i<s.holes.length->VR (aA s.holes i)
 corners:gH s<=80
 ins:∀i,i<s.holes.length->bK (aA s.holes i) s.outer 2=true
 apo:∀i,i<s.holes.length->dr (aA s.holes i) s.outer=true
 aph:∀i k,k<i->i<s.holes.length->dr (aA s.holes i) (aA s.holes k)=true
 out1:∀i k,k<i->i<s.holes.length->bK (aA s.holes i) (aA s.holes k) 0=true
 out2:∀i k,k<i->i<s.holes.length->bK (aA s.holes k) (aA s.holes i) 0=true
def lz(s:Shape):bM s=true↔VS s:=by
 unfold bM;simp only[bn,decide_eq_true_eq,bf,cF];constructor
 .rintro⟨⟨⟨h1,h2⟩,h3⟩,h4⟩;exact⟨h1,(iB _).1 (h2 _ (by simp[aD])),λi hi=>(iB _).1 (h2 _ (by simp[aD];exact .inr (iD hi))),h3,by grind,by grind,by grind,by grind,by grind⟩
 .rintro⟨h1,h2,h3,h4,h5,h6,h7,h8,h9⟩;refine⟨⟨⟨h1,?_⟩,h4⟩,by grind⟩;intro r hr;rcases aj.1 hr with rfl|hr
  .exact(iB _).2 h2
  .obtain⟨i,hi,rfl⟩:=qi hr;exact(iB _).2 (h3 i hi)
def jW(s:Shape):bM s=bI s:=by
 rw[fg,lz];unfold bI;simp only[bn,decide_eq_true_eq,bf,cF,<-UT];constructor
 .rintro⟨h1,h2,h3,h4,h5,h6,h7,h8,h9⟩;refine⟨⟨⟨h1,by rw[<-uM];exact(iB _).2 h2⟩,λi hi=>⟨⟨⟨by rw[<-uM];exact(iB _).2 (h3 i hi),h6 i hi⟩,?_⟩,λk hk=>⟨⟨h7 i k hk hi,?_⟩,?_⟩⟩⟩,h4⟩
  .have:=h5 i hi;unfold bK at this;unfold pI;rw[bf]at this|-;intro v hv;rw[<-ze];grind
  .rw[<-m5 (h3 i hi) (h7 i k hk hi)];grind
  .rw[<-m5 (h3 k (by omega)) (by rw[rj];grind)];grind
 .rintro⟨⟨⟨h1,h2⟩,h3⟩,h4⟩;have hr:∀i,i<s.holes.length->VR (aA s.holes i):=λi hi=>by have:=(h3 i hi).1.1.1;rw[<-uM]at this;exact(iB _).1 this
  refine⟨h1,by rw[<-uM]at h2;exact(iB _).1 h2,hr,h4,λi hi=> ?_,by grind,by grind,λi k hk hi=> ?_,λi k hk hi=> ?_⟩
  .have:=(h3 i hi).1.2;unfold pI at this;unfold bK;rw[bf]at this|-;intro v hv;rw[ze];grind
  .rw[m5 (hr i hi) (by grind)];grind
  .rw[m5 (hr k (by omega)) (by rw[rj];grind)];grind
end Geo
namespace Geo
def eO(r:aE):Nat->Nat
 |0=>0
 |n+1=>if bg (nth r n) (nth r (eO r n))then n else eO r n
def dM(r:aE):Nat:=eO r r.length
def c7(r:aE):aE:=r.drop (dM r)++r.take (dM r)
def Di(r:aE)(n:Nat)(h:0<n):eO r n<n:=by
 induction n with
 |zero=>omega
 |succ n ih=>
  unfold eO;split
  .omega
  .rcases Nat.eq_zero_or_pos n with rfl|h0
   .simp[eO]
   omega
def uB(r:aE)(n i:Nat)(hi:i<n):leV (nth r (eO r n)) (nth r i):=by
 induction n with
 |zero=>omega
 |succ n ih=>
  unfold eO;split
  .rename_i h;have h:=(l7 _ _).1 h;have h':leV (nth r n) (nth r (eO r n)):=(xL _ _).elim id (by grind);by_cases e:i=n
   .subst e;exact sI _
   .exact qg h' (ih (by omega))
  .rename_i h;have h:=(qW _ _).1 (by simpa using h);grind
def DD(r:aE)(n i:Nat)(hi:i<eO r n):bg (nth r (eO r n)) (nth r i)=true:=by
 induction n with
 |zero=>simp[eO]at hi
 |succ n ih=>
  unfold eO at hi|-;split
  .rename_i h;rw[if_pos h]at hi;rw[l7];have h1:=(l7 _ _).1 h;intro h2;exact h1 (qg (uB r n i hi) h2)
  grind
def qY{r:aE}(h:0<r.length):dM r<r.length:=Di r _ h
def TC{r:aE}{k:Nat}(hk:k<r.length)(h1:∀i,i<r.length->leV (nth r k) (nth r i))(h2:∀i,i<k->nth r i≠nth r k):k=dM r:=by
 have a:=qY (r:=r) (by omega);have b:=uB r r.length k hk;have e:nth r k=nth r (dM r):=xT (h1 _ a) b;rcases yn k (dM r)with h|h|h
 .have:=DD r r.length k h;rw[show eO r r.length=dM r from rfl,<-e,wT]at this;cases this
 .exact h
 grind
def uF(r:aE):(c7 r).Perm r:=by refine vn.trans ?_;simp_all
def lv(r:aE):(c7 r).length=r.length:=(uF r).length_eq
def zw{r:aE}{i:Nat}(hi:i<r.length):nth (c7 r) i=nth r ((i+dM r) % r.length):=by
 have hk:=qY (r:=r) (by omega);unfold c7 nth;rw[dw,dw];by_cases h:i<r.length-dM r
 .rw[mW (by simp;omega),vo,jD (by omega)];grind
 .rw[kW (by simp;omega),List.getElem?_take_of_lt (by simp;omega),pS (by omega) (by omega)];grind
def rZ(r:aE)(s:S):s∈aH (c7 r)↔s∈aH r:=by
 rw[mem_edges,mem_edges,lv];constructor
 .rintro⟨h2,i,hi,rfl⟩;refine⟨h2,(i+dM r) % r.length,bw _ (by omega),?_⟩;unfold bO nxt;rw[lv,zw hi,zw (bw _ (by omega)),kX,kX];grind
 .rintro⟨h2,i,hi,rfl⟩;have hk:=qY (r:=r) (by omega);refine⟨h2,(i+(r.length-dM r)) % r.length,bw _ (by omega),?_⟩;unfold bO nxt;rw[lv,zw (bw _ (by omega)),zw (bw _ (by omega)),kX,kX];have e1:(i+(r.length-dM r)+dM r) % r.length=i:=by rw[show i+(r.length-dM r)+dM r=i+r.length from by omega,oj,jD hi]
  have e2:(i+(r.length-dM r)+1+dM r) % r.length=(i+1) % r.length:=by rw[show i+(r.length-dM r)+1+dM r=i+1+r.length from by omega,oj]
  rw[e1,rP _ 1 (dM r),kX,<-rP _ 1 (dM r),e2]
def VR.touch{r:aE}(h:VR r){i k:Nat}(hi:i<r.length)(hk:k<r.length)(ho:onS (bO r k) (nth r i)=true):i=k\/i=(k+1) % r.length:=by
 have h3:=h.three;have hb:onS (bO r i) (nth r i)=true:=fP (s:=bO r i) (jX h.near i hi);have hj:(i+r.length-1) % r.length<r.length:=bw _ (by omega);have hje:((i+r.length-1) % r.length+1) % r.length=i:=by rw[kX,show i+r.length-1+1=i+r.length from by omega,oj,jD hi]
 have hb2:onS (bO r ((i+r.length-1) % r.length)) (nth r i)=true:=by have:=jI (s:=bO r ((i+r.length-1) % r.length)) (jX h.near _ hj);unfold bO nxt at this;simp only[hje]at this;unfold bO nxt;rw[hje];exact this
 have meetsE:∀j,j<r.length->onS (bO r j) (nth r i)=true->(nth r i=nth r j\/nth r i=nxt r j)->j=k\/(j+1) % r.length=k\/(k+1) % r.length=j:=by
  intro j hj hoj hend;rcases yn j k with hlt|he|hgt
  .by_cases h1:k=j+1
   .right;left;rw[jD (by omega)];exact h1.symm
   .by_cases h2:j=0/\k=r.length-1
    .right;right;rw[h2.2,h2.1,show r.length-1+1=r.length from by omega,kV]
    .exfalso;have:=h.apart j k hlt hk h1 h2;exact zL (s:=bO r j) (t:=bO r k) (p:=nth r i) (by rcases hend with e|e<;>simp[bO,e]) ⟨hoj,ho⟩ this
  .exact .inl he
  .by_cases h1:j=k+1
   .right;right;rw[jD (by omega)];exact h1.symm
   .by_cases h2:k=0/\j=r.length-1
    .right;left;rw[h2.2,h2.1,show r.length-1+1=r.length from by omega,kV]
    .exfalso;have:=h.apart k j hgt hj h1 h2;exact zL (s:=bO r k) (t:=bO r j) (p:=nth r i) (by rcases hend with e|e<;>simp[bO,e]) ⟨ho,hoj⟩ this
 have c1:=meetsE i hi hb (.inl rfl);rcases c1 with e|e|e
 .exact .inl e
 ·
  have c2:=meetsE _ hj hb2 (.inr (by unfold nxt;rw[hje]));rcases c2 with e2|e2|e2
  .grind
  .omega
  ·
   exfalso;have hk1:(k+1) % r.length=(i+2) % r.length:=by rw[<-e,kX]
   apply h.turn' i hi;have:=((gT (jX h.near k hk)).1 ho).2;rw[AJ];unfold Geo.turn;rw[mq];unfold bO nxt at this;grind
 omega
def VR.inj{r:aE}(h:VR r){i k:Nat}(hi:i<r.length)(hk:k<r.length)(he:nth r i=nth r k):i=k:=by
 have ho:onS (bO r k) (nth r i)=true:=by rw[he];exact fP (s:=bO r k) (jX h.near k hk)
 rcases h.touch hi hk ho with e|e
 .exact e
 ·
  exfalso;have ht:=h.turn' k hk;apply ht;rw[<-e,he];unfold Geo.turn;rw[mq];simp[cross,sub]
def VR.nodup{r:aE}(h:VR r):r.Nodup:=by rw[ol,om];intro i j hi hj hij e;have:=h.inj hi hj (by unfold nth;grind);omega
def VR.Kh{r:aE}(h:VR r){v:V}(hv:v∈r){s:S}(hs:s∈aH r)(ho:onS s v=true):v=s.a\/v=s.b:=by
 obtain⟨i,hi,rfl⟩:=fN.1 hv;obtain⟨_,k,hk,rfl⟩:=mem_edges.1 hs;rcases h.touch hi hk ho with e|e
 .left;rw[e];rfl
 .right;rw[e];rfl
def bz(s:Shape):List V:=(aD s).flatten
def bQ(s:Shape):List S:=(aD s).flatMap aH
def VS.ring{s:Shape}(h:VS s){r:aE}(hr:r∈aD s):VR r:=by
 rcases aj.1 hr with rfl|hr
 .exact h.outer
 .obtain⟨i,hi,rfl⟩:=qi hr;exact h.hole i hi
def VS.pair{s:Shape}(h:VS s):(aD s).Pairwise (λa b=>dr a b=true):=by
 unfold aD;rw[gh];refine⟨λr hr=> ?_,?_⟩
 .obtain⟨i,hi,rfl⟩:=qi hr;rw[rj];exact h.apo i hi
 .rw[om];intro i k hi hk hik;have:=h.aph k i hik hk;unfold aA at this;rw[dw,dw,fA hi,fA hk]at this;rw[rj];exact this
def J8:∀(l:List aE),(∀r∈l,VR r)->l.Pairwise (λa b=>dr a b=true)->∀v∈l.flatten,∀e∈l.flatMap aH,onS e v=true->v=e.a\/v=e.b
 |[],_,_,v,hv,_,_,_=>by simp at hv
 |r::l,hr,hp,v,hv,e,he,ho=>by
  rw[gh]at hp;rw[mX,bi]at hv;rw[fG,bi]at he;rcases hv with hv|hv<;>rcases he with he|he
  .exact(hr r (by simp)).Kh hv he ho
  .rw[cQ]at he;obtain⟨q,hq,he⟩:=he;exact(wR (hr r (by simp)) (hp.1 q hq) hv he ho).elim
  .rw[kY]at hv;obtain⟨q,hq,hv⟩:=hv;exact(wR (by grind) (by rw[rj];grind) hv he ho).elim
  .exact J8 l (by grind) hp.2 v hv e he ho
def J9:∀(l:List aE),(∀r∈l,VR r)->l.Pairwise (λa b=>dr a b=true)->l.flatten.Nodup
 |[],_,_=>by simp
 |r::l,hr,hp=>by
  rw[gh]at hp;rw[mX,nR];refine⟨(hr r (by simp)).nodup,J9 l (by grind) hp.2,?_⟩;rintro a ha b hb rfl;rw[kY]at hb;obtain⟨q,hq,hb⟩:=hb;have hvq:=hr q (by simp[hq]);obtain⟨i,hi,rfl⟩:=fN.1 hb;exact wR (hr r (by simp)) (hp.1 q hq) ha (mem_edges.2 ⟨by have:=hvq.three;omega,i,hi,rfl⟩) (fP (s:=bO q i) (jX hvq.near i hi))
def VS.touch{s:Shape}(h:VS s){v:V}(hv:v∈bz s){e:S}(he:e∈bQ s)(ho:onS e v=true):v=e.a\/v=e.b:=
 J8 _ (λ_ hr=>h.ring hr) h.pair v hv e he ho
def VS.nodup{s:Shape}(h:VS s):(bz s).Nodup:=J9 _ (λ_ hr=>h.ring hr) h.pair
end Geo
namespace Geo
def qK:List aE->aE->List aE
 |[],h=>[h]
 |q::l,h=>if bg (nth q 0) (nth h 0)then q::qK l h else h::q::l
def q9(l:List aE):List aE:=l.foldl qK []
def eP(s:Shape):Shape:=⟨c7 s.outer,q9 (s.holes.map c7)⟩
def LN(l:List aE)(h:aE):(qK l h).Perm (h::l):=by
 induction l with
 |nil=>exact CZ _
 |cons q l ih=>
  unfold qK;grind
def Sy(l acc:List aE):(l.foldl qK acc).Perm (acc++l):=by
 induction l generalizing acc with
 |nil=>simp
 |cons q l ih=>
  refine(ih _).trans ?_;refine((LN acc q).append_right l).trans ?_;grind
def l0(l:List aE):(q9 l).Perm l:=by unfold q9;have:=Sy l [];grind
def leH(a b:aE):Prop:=leV (nth a 0) (nth b 0)
def UF(l:List aE)(h:aE)(hl:l.Pairwise leH):(qK l h).Pairwise leH:=by
 induction l with
 |nil=>simp[qK]
 |cons q l ih=>
  rw[gh]at hl;unfold qK;split
  .rename_i hq;rw[gh];refine⟨λx hx=> ?_,ih hl.2⟩;have hx:=(LN l h).subset hx;rcases aj.1 hx with rfl|hx
   .exact(xL _ _).elim id (λe=>absurd e ((l7 _ _).1 hq))
   grind
  .rename_i hq;have hq:=(qW _ _).1 (by simpa using hq);rw[gh,gh];refine⟨λx hx=> ?_,hl⟩;rcases aj.1 hx with rfl|hx
   .exact hq
   .exact qg hq (hl.1 x hx)
def Ss(l acc:List aE)(h:acc.Pairwise leH):(l.foldl qK acc).Pairwise leH:=by
 induction l generalizing acc with
 |nil=>exact h
 |cons q l ih=>exact ih _ (UF acc q h)
def TZ(l:List aE):(q9 l).Pairwise leH:=Ss l [] tT
def zH:∀(l:List aE),l.flatten.Nodup->∀a∈l,∀b∈l,∀x,x∈a->x∈b->a=b
 |[],_,a,ha,_,_,_,_,_=>by cases ha
 |r::l,h,a,ha,b,hb,x,hxa,hxb=>by
  rw[mX,nR]at h;obtain⟨h1,h2,h3⟩:=h;rcases aj.1 ha with ea|ha'<;>rcases aj.1 hb with eb|hb'
  .rw[ea,eb]
  .rw[ea]at hxa;exact(h3 x hxa x (kY.2 ⟨_,hb',hxb⟩) rfl).elim
  .rw[eb]at hxb;exact(h3 x hxb x (kY.2 ⟨_,ha',hxa⟩) rfl).elim
  .exact zH l h2 a ha' b hb' x hxa hxb
def I5(l:List aE):((l.map c7).flatten).Perm l.flatten:=by
 induction l with
 |nil=>grind
 |cons r l ih=>
  exact(uF r).append ih
def ri(s:Shape):(bz (eP s)).Perm (bz s):=by unfold bz aD eP;refine(uF _).append ?_;exact((l0 _).flatten).trans (I5 _)
def zG(s:Shape)(e:S):e∈bQ (eP s)↔e∈bQ s:=by
 unfold bQ aD eP;simp only[fG,bi,cQ,rZ];constructor
 .rintro(h|⟨r,hr,he⟩)
  .exact .inl h
  .have hr:=(l0 _).subset hr;obtain⟨q,hq,rfl⟩:=bR.1 hr;exact .inr ⟨q,hq,(rZ q e).1 he⟩
 .rintro(h|⟨r,hr,he⟩)
  .exact .inl h
  .refine .inr ⟨c7 r,(l0 _).symm.subset (by grind),(rZ r e).2 he⟩
def fV(p:Pt):List aE->Int->Int
 |[],w=>w
 |h::l,w=>if bP h p=2 then 0 else if bP h p=1 then 1 else fV p l w
def eI(s:Shape)(p:Pt):Int:=
 if !(bM s)then 0 else if bP s.outer p≠2 then bP s.outer p else fV p s.holes 2
def lK(p:Pt):List aE->Int->Int
 |[],w=>w
 |h::l,w=>if dd h p=2 then 0 else if dd h p=1 then 1 else lK p l w
def eL(s:Shape)(p:Pt):Int:=if !(bI s)then 0 else lK p s.holes (dd s.outer p)
def Mt(p:Pt)(l:List aE)(w:Int):fV p l w=lK p l w:=by
 induction l with
 |nil=>rfl
 |cons h l ih=>unfold fV lK;rw[AI,ih]
def U6(p:Pt)(l:List aE)(w:Int):lK p l w=2->w=2:=by
 induction l with
 |nil=>exact id
 |cons h l ih=>unfold lK;omega
def Jq(s:Shape)(p:Pt):(eI s p==2)=(eL s p==2):=by
 unfold eI eL;rw[jW,AI];cases bI s with
 |false=>rfl
 |true=>
  simp only[mU,lc,if_false];by_cases h:dd s.outer p=2
  .rw[if_neg (by omega),h,Mt]
  .rw[if_pos h,fg,beq_iff_eq,beq_iff_eq];exact⟨by grind,λe=>absurd (U6 _ _ _ e) h⟩
def gD(c:S):Pt:=
 if(c.a.x+c.b.x).tmod 2=0/\(c.a.y+c.b.y).tmod 2=0 then⟨(c.a.x+c.b.x).tdiv 2,(c.a.y+c.b.y).tdiv 2,1⟩else⟨c.a.x+c.b.x,c.a.y+c.b.y,2⟩
def Hq(l:List V):Int:=(l.map V.x).sum
def Hp(l:List V):Int:=(l.map V.y).sum
def F4(l:List V):Pt:=
 let g:Int:=cD (cD (Hq l).natAbs (Hp l).natAbs) l.length
 ⟨(Hq l).tdiv g,(Hp l).tdiv g,(l.length:Int).tdiv g⟩
def AN(x:Int)(k:Nat):x.tmod k=0↔k∣x.natAbs:=by rw[<-SX,Int.ofNat_dvd_left]
def Ut(a b:V):F4 [a,b] =gD ⟨a,b⟩:=by
 unfold F4 gD Hq Hp;simp only[cv,List.map_nil,Ca,List.sum_nil,nT,gu,mV];generalize a.x+b.x=x;generalize a.y+b.y=y;have hd:cD (cD x.natAbs y.natAbs) 2∣2:=IL _ _;have hle:=Nat.le_of_dvd (by omega) hd;have hpos:0<cD (cD x.natAbs y.natAbs) 2:=by grind
 by_cases h:x.tmod 2=0/\y.tmod 2=0
 .have e:cD (cD x.natAbs y.natAbs) 2=2:=Nat.gcd_eq_right (Nat.dvd_gcd (by grind) (by grind));grind
 .have e:cD (cD x.natAbs y.natAbs) 2=1:=by
   rcases nU (cD (cD x.natAbs y.natAbs) 2) 2 with h1|h1
   .omega
   .exfalso;have e2:cD (cD x.natAbs y.natAbs) 2=2:=by omega
    have d1:2∣cD x.natAbs y.natAbs:=by have:=IM (cD x.natAbs y.natAbs) 2;rwa[e2]at this
    exact h ⟨(AN x 2).2 (IN d1 (IM _ _)),(AN y 2).2 (IN d1 (IL _ _))⟩
  simp_all
def pY(a b c:V):Pt:=
 if(a.x+b.x+c.x).tmod 3=0/\(a.y+b.y+c.y).tmod 3=0 then⟨(a.x+b.x+c.x).tdiv 3,(a.y+b.y+c.y).tdiv 3,1⟩else⟨a.x+b.x+c.x,a.y+b.y+c.y,3⟩
end Geo
namespace Geo
def um(s t:S):Bool:=s.a==t.a||s.a==t.b||s.b==t.a||s.b==t.b
def cP(s t:S):Bool:=cC s t==0||(cC s t==1&&um s t)
def gJ(s:Shape)(c:S):Bool:=(bQ s).all (λe=>cP e c)&&eI s (gD c)==2
def Bb(d e:S):Bool:=
 if cZ d e=2\/cZ d e=3 then false
 else if cZ d e=1 then(nth (ju d e) 0==d.a||nth (ju d e) 0==d.b)else true
def pk(s:Shape)(c:S):Bool:=(bQ s).all (λe=>Bb c e)&&(c.a !=c.b&&eL s (F4 [c.a,c.b])==2)
def Jd(s t:S):cC s t=0\/cC s t=1\/cC s t=2\/cC s t=3:=by unfold cC oK;grind
def D3{s t:S}(h:cC s t=1):(bG s=true/\bG t=true)/\∃z,z∈ends s t/\cB s t z/\(∀p,p∈ends s t->cB s t p->p=z)/\ju s t=[z] :=by
 rw[pV]at h;have hm:=DT s t;unfold cZ at h;split at h
 .omega
 .split at h
  .omega
  .split at h
   .rename_i h1;match hc:ju s t,h1 with
    |[z],_=>
     grind
   omega
def Xw{s t:S}(h:cC s t=3):∃p q,p≠q/\p∈ends s t/\q∈ends s t/\cB s t p/\cB s t q:=by
 rw[pV]at h;have hm:=DT s t;have hs:=I8 ((ends s t).filter (λp=>onS s p&&onS t p));rw[show lD ((ends s t).filter (λp=>onS s p&&onS t p))=ju s t from rfl]at hs;unfold cZ at h;split at h
 .omega
 .split at h
  .rename_i h1;match hc:ju s t,h1 with
   |z::y::r,_=>
    rw[hc]at hm hs;have hz:=(hm z).1 (by simp);have hy:=(hm y).1 (by simp);refine⟨z,y,?_,hz.1,hy.1,hz.2,hy.2⟩;rintro rfl;rw[gh]at hs;have:=hs.1 z (by simp);rw[wT]at this;cases this
  omega
def kF(s t:S)(p:V):p∈ends s t↔p=s.a\/p=s.b\/p=t.a\/p=t.b:=by unfold ends;simp
def zX(s t:S):um s t=true↔(s.a=t.a\/s.a=t.b\/s.b=t.a\/s.b=t.b):=by unfold um;grind
def Li{s:Shape}(h:VS s){c e:S}(ha:c.a∈bz s)(hb:c.b∈bz s)(he:e∈bQ s):cP e c=Bb c e:=by
 unfold cP Bb;rw[l6 e c,<-pV];rcases Jd c e with hk|hk|hk|hk
 .rw[hk];simp
 .rw[if_neg (by omega),if_pos hk,hk];obtain⟨⟨vc,ve⟩,z,hz,ho,hu,hcom⟩:=D3 hk;rw[hcom];rw[fg];simp only[jl,beq_iff_eq,bn,zX];constructor
  .rintro(h1|⟨_,h1⟩)
   .omega
   .rcases h1 with h1|h1|h1|h1
    .left;exact(hu c.a (by rw[kF];simp) ⟨fP vc,by rw[<-h1];exact fP ve⟩).symm
    .right;exact(hu c.b (by rw[kF];simp) ⟨jI vc,by rw[<-h1];exact fP ve⟩).symm
    .left;exact(hu c.a (by rw[kF];simp) ⟨fP vc,by rw[<-h1];exact jI ve⟩).symm
    .right;exact(hu c.b (by rw[kF];simp) ⟨jI vc,by rw[<-h1];exact jI ve⟩).symm
  .rintro(h1|h1)
   .right;have:=h.touch ha he (by rw[<-h1];exact ho.2);grind
   .right;have:=h.touch hb he (by rw[<-h1];exact ho.2);grind
 .rw[hk];simp
 grind
def FR{s:Shape}(h:VS s){c:S}(ha:c.a∈bz s)(hb:c.b∈bz s)(hne:c.a≠c.b):gJ s c=pk s c:=by
 unfold gJ pk;rw[Ut,Jq];have e1:((bQ s).all λe=>cP e c)=((bQ s).all λe=>Bb c e):=by
  rw[fg,bf,bf];constructor
  .intro h1 e he;rw[<-Li h ha hb he];exact h1 e he
  .intro h1 e he;rw[Li h ha hb he];exact h1 e he
 rw[e1];have e2:(c.a !=c.b)=true:=by simpa using hne
 rw[e2,kC]
def Da{s:Shape}(h:VS s){c:S}(hc:gJ s c=true){p:V}(hp:p∈bz s)(ho:onS c p=true):p=c.a\/p=c.b:=by
 unfold bz at hp;rw[kY]at hp;obtain⟨r,hr,hpr⟩:=hp;have hvr:=h.ring hr;obtain⟨i,hi,rfl⟩:=fN.1 hpr;have he:bO r i∈bQ s:=cQ.2 ⟨r,hr,mem_edges.2 ⟨by have:=hvr.three;omega,i,hi,rfl⟩⟩;have ve:=jX hvr.near i hi;unfold gJ at hc;rw[bn,bf]at hc;have ht:=hc.1 _ he;have hob:cB (bO r i) c (nth r i):=⟨fP (s:=bO r i) ve,ho⟩;have hnz:=zL (s:=bO r i) (t:=c) (p:=nth r i) (by simp[bO]) hob;unfold cP at ht;simp only[jl,beq_iff_eq,bn,zX]at ht;rcases ht with ht|⟨ht,hsh⟩
 .omega
 .obtain⟨⟨_,vc⟩,z,_,_,hu,_⟩:=D3 ht;have e1:=hu (nth r i) (by rw[kF];simp[bO]) hob;rw[e1];rcases hsh with h1|h1|h1|h1
  .left;exact(hu c.a (by rw[kF];simp) ⟨by rw[<-h1];exact fP ve,fP vc⟩).symm
  .right;exact(hu c.b (by rw[kF];simp) ⟨by rw[<-h1];exact fP ve,jI vc⟩).symm
  .left;exact(hu c.a (by rw[kF];simp) ⟨by rw[<-h1];exact jI ve,fP vc⟩).symm
  .right;exact(hu c.b (by rw[kF];simp) ⟨by rw[<-h1];exact jI ve,jI vc⟩).symm
def UQ{s:Shape}(h:VS s){c d:S}(hc:gJ s c=true)(hd:gJ s d=true)(c1:c.a∈bz s)(c2:c.b∈bz s)(d1:d.a∈bz s)(d2:d.b∈bz s)
  (hne:¬((c.a=d.a/\c.b=d.b)\/(c.a=d.b/\c.b=d.a))):cP c d=(cZ d c !=2):=by
 rw[<-pV,l6 d c];unfold cP;have hends:∀p,p∈ends c d->cB c d p->(p=c.a\/p=c.b)/\(p=d.a\/p=d.b):=by
  intro p hp ho;have hpv:p∈bz s:=by rcases(kF _ _ _).1 hp with rfl|rfl|rfl|rfl<;>assumption
  exact⟨Da h hc hpv ho.1,Da h hd hpv ho.2⟩
 rcases Jd c d with hk|hk|hk|hk
 .rw[hk];rfl
 .have:um c d=true:=by obtain⟨_,z,hz,ho,_,_⟩:=D3 hk;obtain⟨h1,h2⟩:=hends z hz ho;rw[zX];grind
  grind
 .rw[hk];rfl
 .obtain⟨p,q,hpq,hp,hq,op,oq⟩:=Xw hk;grind
end Geo
namespace Geo
def dD(v:List V)(p:Nat×Nat):S:=⟨nth v p.1,nth v p.2⟩
def pq(s:Shape)(v:List V)(acc:List (Nat×Nat))(i k:Nat):List (Nat×Nat):=
 if !(acc.any λd=> !(cP ⟨nth v i,nth v k⟩ (dD v d)))&&gJ s ⟨nth v i,nth v k⟩then acc++[(i,k)]else acc
def rowP(s:Shape)(v:List V)(acc:List (Nat×Nat))(i:Nat):Nat->List (Nat×Nat)
 |0=>acc
 |m+1=>pq s v (rowP s v acc i m) i (i+1+m)
def eM(s:Shape)(v:List V):Nat->List (Nat×Nat)
 |0=>[]
 |i+1=>rowP s v (eM s v i) i (v.length-(i+1))
def dN(s:Shape)(v:List V):List (Nat×Nat):=eM s v v.length
def vA(s:Shape)(v:List V)(acc:List S)(i k:Nat):List S:=
 if pk s ⟨nth v i,nth v k⟩&&(acc.all λd=>cZ d ⟨nth v i,nth v k⟩ !=2)then acc++[⟨nth v i,nth v k⟩]else acc
def qH(s:Shape)(v:List V)(acc:List S)(i:Nat):Nat->List S
 |0=>acc
 |m+1=>vA s v (qH s v acc i m) i (i+1+m)
def oM(s:Shape)(v:List V):Nat->List S
 |0=>[]
 |i+1=>qH s v (oM s v i) i (v.length-(i+1))
def nL(s:Shape)(v:List V):List S:=oM s v v.length
def eC{v:List V}{i:Nat}(h:i<v.length):nth v i∈v:=fN.2 ⟨i,h,rfl⟩
def mA{v:List V}(hn:v.Nodup){i k:Nat}(hi:i<v.length)(hk:k<v.length)(e:nth v i=nth v k):i=k:=by unfold nth at e;rw[dw,dw,fA hi,fA hk]at e;rw[ol,om]at hn;grind
structure Found(s:Shape)(v:List V)(acc:List (Nat×Nat))(i k:Nat):Prop where
 lt:∀p∈acc,p.1<p.2/\p.2<v.length
 ahead:∀p∈acc,p.1<i\/(p.1=i/\p.2<k)
 chord:∀p∈acc,gJ s (dD v p)=true
 apart:acc.Pairwise λp q=>cZ (dD v p) (dD v q)≠2
def VN{s:Shape}(h:VS s){v:List V}(hv:∀x∈v,x∈bz s)(hn:v.Nodup){acc:List (Nat×Nat)}{i k:Nat}(hF:Found s v acc i k)(hik:i<k)(hk:k<v.length)(hc:gJ s ⟨nth v i,nth v k⟩=true):
  (!(acc.any λd=> !(cP ⟨nth v i,nth v k⟩ (dD v d))))=((acc.map (dD v)).all λd=>cZ d ⟨nth v i,nth v k⟩ !=2):=by
 have key:∀d∈acc,cP ⟨nth v i,nth v k⟩ (dD v d)=(cZ (dD v d) ⟨nth v i,nth v k⟩ !=2):=by
  intro d hd;obtain⟨h1,h2⟩:=hF.lt d hd;refine UQ h hc (hF.chord d hd) (hv _ (eC (by omega))) (hv _ (eC hk)) (hv _ (eC (by omega))) (hv _ (eC (by omega))) ?_;rintro(⟨e1,e2⟩|⟨e1,e2⟩)
  .have a1:=mA hn (by omega) (by omega) e1;have a2:=mA hn (by omega) (by omega) e2;rcases hF.ahead d hd with h3|h3<;>omega
  .have a1:=mA hn (by omega) (by omega) e1;have a2:=mA hn (by omega) (by omega) e2;omega
 grind
def Yv{s:Shape}(h:VS s){v:List V}(hv:∀x∈v,x∈bz s)(hn:v.Nodup){acc:List (Nat×Nat)}{i k:Nat}(hF:Found s v acc i k)(hik:i<k)(hk:k<v.length):
  (pq s v acc i k).map (dD v)=vA s v (acc.map (dD v)) i k/\Found s v (pq s v acc i k) i (k+1):=by
 have hne:nth v i≠nth v k:=λe=>by have:=mA hn (by omega) hk e;omega
 have hce:=FR h (c:=⟨nth v i,nth v k⟩) (hv _ (eC (by omega))) (hv _ (eC hk)) hne;unfold pq vA;cases hc:gJ s ⟨nth v i,nth v k⟩with
 |false=>
  rw[hc]at hce;rw[<-hce];simp only[Bool.and_false,qO,lc,if_false];exact⟨by trivial,hF.lt,λp hp=>by have:=hF.ahead p hp;omega,hF.chord,hF.apart⟩
 |true=>
  rw[hc]at hce;rw[<-hce,VN h hv hn hF hik hk hc,IP,kC];by_cases hx:((acc.map (dD v)).all λd=>cZ d ⟨nth v i,nth v k⟩ !=2)=true
  .rw[if_pos hx,if_pos hx];refine⟨by rw[dR];rfl,?_,?_,?_,?_⟩
   .intro p hp;rcases bi.1 hp with hp|hp
    .exact hF.lt p hp
    grind
   .intro p hp;rcases bi.1 hp with hp|hp
    .have:=hF.ahead p hp;omega
    grind
   .intro p hp;rcases bi.1 hp with hp|hp
    .exact hF.chord p hp
    .obtain rfl:=bZ.1 hp;exact hc
   .rw[SY];refine⟨hF.apart,by grind,?_⟩;intro p hp q hq;obtain rfl:=bZ.1 hq;rw[List.all_map,bf]at hx;have:=hx p hp;simp only[Cb,bne_iff_ne]at this;exact this
  .rw[if_neg hx,if_neg hx];exact⟨rfl,hF.lt,λp hp=>by have:=hF.ahead p hp;omega,hF.chord,hF.apart⟩
def aAz{s:Shape}(h:VS s){v:List V}(hv:∀x∈v,x∈bz s)(hn:v.Nodup){acc:List (Nat×Nat)}{i:Nat}(hF:Found s v acc i (i+1))(m:Nat)(hm:i+1+m<=v.length):
  (rowP s v acc i m).map (dD v)=qH s v (acc.map (dD v)) i m/\Found s v (rowP s v acc i m) i (i+1+m):=by
 induction m with
 |zero=>exact⟨rfl,hF⟩
 |succ m ih=>
  obtain⟨h1,h2⟩:=ih (by omega);unfold rowP qH;rw[<-h1];exact Yv h hv hn h2 (by omega) (by omega)
def aA9{s:Shape}(h:VS s){v:List V}(hv:∀x∈v,x∈bz s)(hn:v.Nodup)(i:Nat)(hi:i<=v.length):
  (eM s v i).map (dD v)=oM s v i/\Found s v (eM s v i) i (i+1):=by
 induction i with
 |zero=>exact⟨rfl,⟨by simp[eM],by simp[eM],by simp[eM],by simp[eM]⟩⟩
 |succ i ih=>
  obtain⟨h1,h2⟩:=ih (by omega);unfold eM oM;rw[<-h1];obtain⟨h3,h4⟩:=aAz h hv hn h2 (v.length-(i+1)) (by omega);exact⟨h3,h4.lt,λp hp=>by have:=h4.ahead p hp;omega,h4.chord,h4.apart⟩
def GG{s:Shape}(h:VS s){v:List V}(hv:∀x∈v,x∈bz s)(hn:v.Nodup):(dN s v).map (dD v)=nL s v/\Found s v (dN s v) v.length (v.length+1):=
 aA9 h hv hn _ (Nat.le_refl _)
end Geo
namespace Geo
abbrev Tab:=Nat->Nat->Bool
end Geo
namespace Geo
def dA:aE->aE->Int
 |[],[] =>0
 |[],_::_=> -1
 |_::_,[] =>1
 |a::l,b::m=>if cE a b≠0 then cE a b else dA l m
def Lk(x y:Int):fE x y= -fE y x:=by unfold fE;grind
def Wt(p q:V):cE p q= -cE q p:=by unfold cE;rw[Lk p.y,Lk p.x];grind
def qV:∀(l m:aE),dA l m= -dA m l
 |[],[] =>rfl
 |[],_::_=>rfl
 |_::_,[] =>rfl
 |a::l,b::m=>by
  unfold dA;have:=Wt a b;by_cases h:cE a b=0
  .rw[if_neg (by omega),if_neg (by omega)];exact qV l m
  omega
def wX:∀(l m:aE),dA l m=0->l=m
 |[],[],_=>rfl
 |[],_::_,h=>by unfold dA at h;omega
 |_::_,[],h=>by unfold dA at h;omega
 |a::l,b::m,h=>by
  unfold dA at h;by_cases h0:cE a b=0
  .rw[if_neg (by omega)]at h;rw[(xO a b).1 h0,wX l m h]
  omega
def JQ(l:aE):dA l l=0:=by have:=qV l l;omega
def VO{p q r:V}(h1:cE p q<0)(h2:cE q r<0):cE p r<0:=by rw[xt]at*;exact tu h1 h2
def DE:∀(l m n:aE),dA l m<0->dA m n<0->dA l n<0
 |[],[],_,h,_=>by omega
 |[],_::_,[],_,h=>by unfold dA at h;omega
 |[],_::_,_::_,_,_=>by unfold dA;omega
 |_::_,[],_,h,_=>by unfold dA at h;omega
 |_::_,_::_,[],_,h=>by unfold dA at h;omega
 |a::l,b::m,c::n,h1,h2=>by
  unfold dA at*;by_cases e1:cE a b=0
  .rw[if_neg (by omega)]at h1;have:=(xO a b).1 e1;subst this;by_cases e2:cE a c=0
   .rw[if_neg (by omega)]at h2|-;exact DE l m n h1 h2
   omega
  .rw[if_pos e1]at h1;by_cases e2:cE b c=0
   .have:=(xO b c).1 e2;grind
   .rw[if_pos e2]at h2;have:=VO h1 h2;omega
def ia(a b:aE):Prop:=dA a b<=0
def UA{a b:aE}(h1:ia a b)(h2:ia b a):a=b:=by unfold ia at*;apply wX;have:=qV a b;omega
def JK{a b c:aE}(h1:ia a b)(h2:ia b c):ia a c:=by
 unfold ia at*;by_cases e1:dA a b=0
 .rw[wX _ _ e1];exact h2
 .by_cases e2:dA b c=0
  .rw[<-wX _ _ e2];exact h1
  .have:=DE a b c (by omega) (by omega);omega
def mR:List aE->aE->List aE
 |[],r=>[r]
 |q::l,r=>if dA q r<0 then q::mR l r else r::q::l
def LM(l:List aE)(r:aE):(mR l r).Perm (r::l):=by
 induction l with
 |nil=>exact CZ _
 |cons q l ih=>
  unfold mR;grind
def UE(l:List aE)(r:aE)(hl:l.Pairwise ia):(mR l r).Pairwise ia:=by
 induction l with
 |nil=>simp[mR]
 |cons q l ih=>
  rw[gh]at hl;unfold mR;split
  .rw[gh];refine⟨λx hx=> ?_,ih hl.2⟩;have hx:=(LM l r).subset hx;rcases aj.1 hx with rfl|hx
   .unfold ia;omega
   grind
  .have hq':ia r q:=by unfold ia;have:=qV r q;omega
   rw[gh,gh];refine⟨λx hx=> ?_,hl⟩;rcases aj.1 hx with rfl|hx
   .exact hq'
   .exact JK hq' (hl.1 x hx)
def Sx(l acc:List aE):(l.foldl mR acc).Perm (acc++l):=by
 induction l generalizing acc with
 |nil=>simp
 |cons q l ih=>
  refine(ih _).trans ?_;refine((LM acc q).append_right l).trans ?_;grind
def I4(l acc:List aE)(h:acc.Pairwise ia):(l.foldl mR acc).Pairwise ia:=by
 induction l generalizing acc with
 |nil=>exact h
 |cons q l ih=>exact ih _ (UE acc q h)
def sr(l:List aE):List aE:=l.foldl mR []
def zW(l:List aE):(sr l).Perm l:=by unfold sr;have:=Sx l [];grind
def TX{l m:List aE}(hp:m.Perm l)(hs:m.Pairwise ia):m=sr l:=
 List.Perm.eq_of_pairwise (λ_ _ _ _ h1 h2=>UA h1 h2) hs (I4 l [] tT) (hp.trans (zW l).symm)
def de(r:aE):aE:=if cV r then c7 r else []
def QT(a b c:V):aE:=if turn a b c<0 then de [a,c,b]else de [a,b,c]
def Pb(s:Shape)(v:List V)(i j k:Nat):Bool:=
 turn (nth v i) (nth v j) (nth v k) !=0&&
 ((bV v.length).all λn=> !(n !=i&&n !=j&&n !=k&&dL (QT (nth v i) (nth v j) (nth v k)) (nth v n) !=0))&&
 eI s (pY (nth v i) (nth v j) (nth v k))==2
def aBg{a b c:V}(ha:ao a 2000=true)(hb:ao b 2000=true)(hc:ao c 2000=true):near [a,b,c] =true:=by unfold near;grind
def QN(a b c:V):area [a,b,c] =cross (sub b a) (sub c a):=by
 have e:area [a,b,c] =cross a b+(cross b c+(cross c a+0)):=by unfold area;simp[rQ,nth,nxt]
 rw[e];simp only[cross,sub];grind
def aAh{a b c:V}(hn:near [a,b,c] =true):cV [a,b,c] =true↔0<turn a b c:=by
 rw[iB];constructor
 .intro h;have:=h.area;rw[QN]at this;unfold turn;rw[ud];exact this
 .intro h;have hp:0<cross (sub b a) (sub c a):=by unfold turn at h;rwa[ud]at h
  have t1:turn b c a≠0:=by rw[<-AJ];omega
  have t2:turn c a b≠0:=by rw[AJ];omega
  refine⟨by simp,by simp,hn,by rw[QN];exact hp,?_,?_,?_⟩
  .intro i hi;match i,hi with
   |0,_=>simpa[prv,nth,nxt]using t2
   |1,_=>
    have:turn a b c≠0:=by omega
    simpa[prv,nth,nxt]using this
   |2,_=>simpa[prv,nth,nxt]using t1
  .intro i hi;match i,hi with
   |0,_=>
    have:turn a b c≠0:=by omega
    simpa[prv,nth,nxt]using this
   |1,_=>simpa[prv,nth,nxt]using t1
   |2,_=>simpa[prv,nth,nxt]using t2
  grind
end Geo
namespace Geo
structure P3 where
 x:Int
 y:Int
 d:Int
def ev(h p:P3):Int:=h.x*p.x+h.y*p.y+h.d*p.d
def cmb(m:Int)(p:P3)(n:Int)(q:P3):P3:=⟨m*p.x+n*q.x,m*p.y+n*q.y,m*p.d+n*q.d⟩
def aX(h p q:P3)(m n:Int):ev h (cmb m p n q)=m*ev h p+n*ev h q:=by unfold ev cmb;grind
def Sat(L:List P3):Prop:=∃p:P3,0<p.d/\∀h∈L,0<ev h p
def Hy(u v:Int):∃a b:Int,(a≠0\/b≠0)/\a*u+b*v=0:=by
 by_cases h:u=0
 .exact⟨1,0,.inl (by omega),by omega⟩
 .exact⟨v,-u,.inr (by omega),by grind⟩
def aBM(x1 y1 x2 y2 x3 y3:Int):∃a b c:Int,(a≠0\/b≠0\/c≠0)/\a*x1+b*x2+c*x3=0/\a*y1+b*y2+c*y3=0:=by
 by_cases h3:x3=0
 .by_cases h2:x2=0
  .obtain⟨b,c,hne,hy⟩:=Hy y2 y3;exact⟨0,b,c,by omega,by grind,by omega⟩
  .obtain⟨a,c,hne,hy⟩:=Hy (x2*y1-x1*y2) (x2*y3-x3*y2);refine⟨a*x2,-(a*x1+c*x3),c*x2,?_,by grind,by grind⟩;rcases hne with h|h
   .simp_all
   simp_all
 .obtain⟨a,b,hne,hy⟩:=Hy (x3*y1-x1*y3) (x3*y2-x2*y3);refine⟨a*x3,b*x3,-(a*x1+b*x2),?_,by grind,by grind⟩;rcases hne with h|h
  .simp_all
  simp_all
def aBL(p q r s:P3)(hs:0<s.d):∃a b c e:Int,(a≠0\/b≠0\/c≠0\/e≠0)/\a*p.x+b*q.x+c*r.x+e*s.x=0/\a*p.y+b*q.y+c*r.y+e*s.y=0/\a*p.d+b*q.d+c*r.d+e*s.d=0:=by
 obtain⟨a,b,c,hne,hx,hy⟩:=aBM (s.d*p.x-p.d*s.x) (s.d*p.y-p.d*s.y) (s.d*q.x-q.d*s.x) (s.d*q.y-q.d*s.y) (s.d*r.x-r.d*s.x) (s.d*r.y-r.d*s.y);have hd:s.d≠0:=by omega
 refine⟨a*s.d,b*s.d,c*s.d,-(a*p.d+b*q.d+c*r.d),?_,by grind,by grind,by grind⟩;rcases hne with h|h|h
 .simp_all
 .simp_all
 simp_all
def pos(n:Int):Int:=if 0<n then n else 0
def mix(a b c e:Int)(p q r s:P3):P3:=⟨a*p.x+b*q.x+c*r.x+e*s.x,a*p.y+b*q.y+c*r.y+e*s.y,a*p.d+b*q.d+c*r.d+e*s.d⟩
def m7(h p q r s:P3)(a b c e:Int):ev h (mix a b c e p q r s)=a*ev h p+b*ev h q+c*ev h r+e*ev h s:=by unfold ev mix;grind
def vK(p q r s:P3)(a b c e:Int):(mix a b c e p q r s).d=a*p.d+b*q.d+c*r.d+e*s.d:=rfl
def l9{a b c e u v x y:Int}(ha:0<=a)(hb:0<=b)(hc:0<=c)(he:0<=e)(hne:a≠0\/b≠0\/c≠0\/e≠0)(h1:a≠0->0<u)(h2:b≠0->0<v)(h3:c≠0->0<x)(h4:e≠0->0<y):0<a*u+b*v+c*x+e*y:=by
 have t:∀{m z:Int},0<=m->(m≠0->0<z)->0<=m*z/\(m≠0->0<m*z):=by
  intro m z hm hz;by_cases h:m=0
  .grind
  .have:=aa (show 0<m by omega) (hz h);omega
 have:=t ha h1;have:=t hb h2;have:=t hc h3;have:=t he h4;omega
def aBc{h1 h2 h3 h4:P3}{R:List P3}(s1:Sat (h2::h3::h4::R))(s2:Sat (h1::h3::h4::R))(s3:Sat (h1::h2::h4::R))(s4:Sat (h1::h2::h3::R)):Sat (h1::h2::h3::h4::R):=by
 obtain⟨p,hp,fp⟩:=s1;obtain⟨q,hq,fq⟩:=s2;obtain⟨r,hr,fr⟩:=s3;obtain⟨s,hs,fs⟩:=s4;obtain⟨a,b,c,e,hne,hx,hy,hd⟩:=aBL p q r s hs;simp only[aj,forall_eq_or_imp]at fp fq fr fs;obtain⟨p2,p3,p4,pR⟩:=fp;obtain⟨q1,q3,q4,qR⟩:=fq;obtain⟨r1,r2,r4,rR⟩:=fr;obtain⟨s1,s2,s3,sR⟩:=fs;have pn:∀n:Int,pos n-pos (-n)=n:=by intro n;unfold pos;split<;>split<;>omega
 have p0:∀n:Int,0<=pos n:=by intro n;unfold pos;split<;>omega
 have pz:∀n:Int,pos n≠0->pos (-n)=0:=by intro n;unfold pos;split<;>split<;>omega
 have key:∀h:P3,ev h (mix (pos a) (pos b) (pos c) (pos e) p q r s)=ev h (mix (pos (-a)) (pos (-b)) (pos (-c)) (pos (-e)) p q r s):=by
  intro h;have hz:a*ev h p+b*ev h q+c*ev h r+e*ev h s=0:=by unfold ev;grind
  rw[m7,m7];have ea:=pn a;have eb:=pn b;have ec:=pn c;have ee:=pn e;grind
 have kd:(mix (pos a) (pos b) (pos c) (pos e) p q r s).d=(mix (pos (-a)) (pos (-b)) (pos (-c)) (pos (-e)) p q r s).d:=by rw[vK,vK];have ea:=pn a;have eb:=pn b;have ec:=pn c;have ee:=pn e;grind
 have dne:pos a≠0\/pos b≠0\/pos c≠0\/pos e≠0:=by
  apply cu;intro hno;simp only[not_or,Sa]at hno;obtain⟨z1,z2,z3,z4⟩:=hno;have:0<pos (-a)*p.d+pos (-b)*q.d+pos (-c)*r.d+pos (-e)*s.d:=by refine l9 (p0 _) (p0 _) (p0 _) (p0 _) ?_ (λ_=>hp) (λ_=>hq) (λ_=>hr) (λ_=>hs);have ea:=pn a;have eb:=pn b;have ec:=pn c;have ee:=pn e;omega
  rw[vK,vK,z1,z2,z3,z4]at kd;omega
 have dne':pos (-a)≠0\/pos (-b)≠0\/pos (-c)≠0\/pos (-e)≠0:=by apply cu;intro hno;simp only[not_or,Sa]at hno;obtain⟨z1,z2,z3,z4⟩:=hno;have:0<pos a*p.d+pos b*q.d+pos c*r.d+pos e*s.d:=l9 (p0 _) (p0 _) (p0 _) (p0 _) dne (λ_=>hp) (λ_=>hq) (λ_=>hr) (λ_=>hs);rw[vK,vK,z1,z2,z3,z4]at kd;omega
 refine⟨mix (pos a) (pos b) (pos c) (pos e) p q r s,?_,?_⟩
 .exact l9 (p0 _) (p0 _) (p0 _) (p0 _) dne (λ_=>hp) (λ_=>hq) (λ_=>hr) (λ_=>hs)
 .intro h hm;simp only[aj]at hm;rcases hm with rfl|rfl|rfl|rfl|hm
  .by_cases z:pos a=0
   .rw[m7];exact l9 (p0 _) (p0 _) (p0 _) (p0 _) dne (by grind) (λ_=>q1) (λ_=>r1) (λ_=>s1)
   .rw[key,m7];exact l9 (p0 _) (p0 _) (p0 _) (p0 _) dne' (by grind) (λ_=>q1) (λ_=>r1) (λ_=>s1)
  .by_cases z:pos b=0
   .rw[m7];exact l9 (p0 _) (p0 _) (p0 _) (p0 _) dne (λ_=>p2) (by grind) (λ_=>r2) (λ_=>s2)
   .rw[key,m7];exact l9 (p0 _) (p0 _) (p0 _) (p0 _) dne' (λ_=>p2) (by grind) (λ_=>r2) (λ_=>s2)
  .by_cases z:pos c=0
   .rw[m7];exact l9 (p0 _) (p0 _) (p0 _) (p0 _) dne (λ_=>p3) (λ_=>q3) (by grind) (λ_=>s3)
   .rw[key,m7];exact l9 (p0 _) (p0 _) (p0 _) (p0 _) dne' (λ_=>p3) (λ_=>q3) (by grind) (λ_=>s3)
  .by_cases z:pos e=0
   .rw[m7];exact l9 (p0 _) (p0 _) (p0 _) (p0 _) dne (λ_=>p4) (λ_=>q4) (λ_=>r4) (by grind)
   .rw[key,m7];exact l9 (p0 _) (p0 _) (p0 _) (p0 _) dne' (λ_=>p4) (λ_=>q4) (λ_=>r4) (by grind)
  .rw[m7];exact l9 (p0 _) (p0 _) (p0 _) (p0 _) dne (by grind) (by grind) (by grind) (by grind)
def Sat.sub{L M:List P3}(h:Sat L)(hs:∀x∈M,x∈L):Sat M:=by obtain⟨p,hp,f⟩:=h;exact⟨p,hp,by grind⟩
def aBo:∀(n:Nat) (L:List P3),L.length=n->(∀a∈L,∀b∈L,∀c∈L,Sat [a,b,c])->Sat L:=by
 intro n;induction n using Nat.strongRecOn with
 |ind n ih=>
  intro L hn h;match L,hn with
  |[],_=>exact⟨⟨0,0,1⟩,by decide,by grind⟩
  |[a],_=>exact(h a (by simp) a (by simp) a (by simp)).sub (by simp)
  |[a,b],_=>exact(h a (by simp) b (by simp) a (by simp)).sub (by simp)
  |[a,b,c],_=>simp_all
  |a::b::c::e::R,hn=>
   have g:∀M:List P3,(∀x∈M,x∈a::b::c::e::R)->M.length<n->Sat M:=by grind
   simp only[gu]at hn;refine aBc (g _ ?_ ?_) (g _ ?_ ?_) (g _ ?_ ?_) (g _ ?_ ?_);all_goals first
    |(simp only[gu];omega)
    |(intro x hx;simp only[aj]at hx|-;grind)
end Geo
namespace Geo
def lin(u v:V):P3:=⟨-(v.y-u.y),v.x-u.x,(v.y-u.y)*u.x-(v.x-u.x)*u.y⟩
def pt(v:V):P3:=⟨v.x,v.y,1⟩
def dO(u v w:V):ev (lin u v) (pt w)=cross (sub v u) (sub w u):=by unfold ev lin pt cross sub;grind
def bq(u v:V):ev (lin u v) (pt u)=0:=by unfold ev lin pt;grind
def cH(u v:V):ev (lin u v) (pt v)=0:=by unfold ev lin pt;grind
def Dp{n1 d1 n2 d2 n3 d3:Int}(h1:0<d1)(h2:0<d2)(h3:0<d3)(a:n1*d2<=n2*d1)(b:n2*d3<n3*d2):n1*d3<n3*d1:=by
 have e1:=lg a (show 0<=d3 by omega);have e2:=Int.mul_lt_mul_of_pos_right b h1;have:(n1*d3)*d2<(n3*d1)*d2:=by grind
 simp_all
def Do{n1 d1 n2 d2 n3 d3:Int}(h1:0<d1)(h2:0<d2)(h3:0<d3)(a:n1*d2<n2*d1)(b:n2*d3<=n3*d2):n1*d3<n3*d1:=by
 have e1:=Int.mul_lt_mul_of_pos_right a h3;have e2:=lg b (show 0<=d1 by omega);have:(n1*d3)*d2<(n3*d1)*d2:=by grind
 simp_all
def jy:List (Int×Int)->Int->Int->Int->Int->Bool
 |[],ln,ld,hn,hd=>decide (ln*hd<hn*ld)
 |(a,b)::l,ln,ld,hn,hd=>
  if a<=0/\b<=0 then false
  else if a<0 then(if ln*(b-a)< -a*ld then jy l (-a) (b-a) hn hd else jy l ln ld hn hd)
  else if b<0 then(if a*hd<hn*(a-b)then jy l ln ld a (a-b)else jy l ln ld hn hd)
  else jy l ln ld hn hd
def rq:∀(l:List (Int×Int)) (ln ld hn hd:Int),0<=ln->0<ld->0<hd->hn<=hd->
  (jy l ln ld hn hd=true↔∃x y:Int,0<x/\0<y/\(∀p∈l,0<p.1*x+p.2*y)/\ln*(x+y)<y*ld/\y*hd<hn*(x+y))
 |[],ln,ld,hn,hd,h1,h2,h3,h4=>by
  simp only[jy,decide_eq_true_eq,cG,false_imp_iff,implies_true,true_and];constructor
  .intro h;have hn0:0<hn:=by
    rcases bl 0 hn with h5|h5
    .exact h5
    .have:=bm h1 (show 0<=hd by omega);have:=bm (show 0<= -hn by omega) (show 0<=ld by omega);grind
   have hl:ln<ld:=by
    rcases bl ln ld with h5|h5
    .exact h5
    .have e1:=lg h5 (show 0<=hd by omega);have e2:=lg h4 (show 0<=ld by omega);grind
   refine⟨(ld-ln)+(hd-hn),ln+hn,by omega,by omega,?_,?_⟩
   .grind
   grind
  .rintro⟨x,y,hx,hy,a,b⟩;have a':ln*(x+y)<=y*ld:=by omega
   exact Dp (n2:=y) (d2:=x+y) h2 (by omega) h3 a' b
 |(a,b)::l,ln,ld,hn,hd,h1,h2,h3,h4=>by
  have e1:∀x y:Int,(∀p∈(a,b)::l,0<p.1*x+p.2*y)↔(0<a*x+b*y/\∀p∈l,0<p.1*x+p.2*y):=by intro x y;simp
  simp only[e1];unfold jy;by_cases c1:a<=0/\b<=0
  .constructor
   .grind
   .rintro⟨x,y,hx,hy,⟨h5,_⟩,_⟩;have:=bm (show 0<= -a by omega) (show 0<=x by omega);have:=bm (show 0<= -b by omega) (show 0<=y by omega);grind
  .rw[if_neg c1];by_cases c2:a<0
   .have hba:0<b-a:=by omega
    have e2:∀x y:Int,0<a*x+b*y↔ -a*(x+y)<y*(b-a):=by intro x y;constructor<;>intro h<;>grind
    rw[if_pos c2];by_cases c3:ln*(b-a)< -a*ld
    .rw[if_pos c3,rq l (-a) (b-a) hn hd (by omega) hba h3 h4];constructor
     .rintro⟨x,y,hx,hy,h5,h6,h7⟩;exact⟨x,y,hx,hy,by grind,Dp (n2:= -a) (d2:=b-a) h2 hba (by omega) (by omega) h6,h7⟩
     .rintro⟨x,y,hx,hy,⟨h5,h6⟩,h7,h8⟩;exact⟨x,y,hx,hy,h6,(e2 x y).1 h5,h8⟩
    .rw[if_neg c3,rq l ln ld hn hd h1 h2 h3 h4];constructor
     .rintro⟨x,y,hx,hy,h5,h6,h7⟩;exact⟨x,y,hx,hy,⟨(e2 x y).2 (Dp (n2:=ln) (d2:=ld) hba h2 (by omega) (by omega) h6),h5⟩,h6,h7⟩
     .rintro⟨x,y,hx,hy,⟨h5,h6⟩,h7,h8⟩;exact⟨x,y,hx,hy,h6,h7,h8⟩
   .rw[if_neg c2];by_cases c4:b<0
    .have hab:0<a-b:=by omega
     have e2:∀x y:Int,0<a*x+b*y↔y*(a-b)<a*(x+y):=by intro x y;constructor<;>intro h<;>grind
     rw[if_pos c4];by_cases c3:a*hd<hn*(a-b)
     .rw[if_pos c3,rq l ln ld a (a-b) h1 h2 hab (by omega)];constructor
      .rintro⟨x,y,hx,hy,h5,h6,h7⟩;exact⟨x,y,hx,hy,by grind,h6,Do (n2:=a) (d2:=a-b) (by omega) hab h3 h7 (by omega)⟩
      .rintro⟨x,y,hx,hy,⟨h5,h6⟩,h7,h8⟩;exact⟨x,y,hx,hy,h6,h7,(e2 x y).1 h5⟩
     .rw[if_neg c3,rq l ln ld hn hd h1 h2 h3 h4];constructor
      .rintro⟨x,y,hx,hy,h5,h6,h7⟩;exact⟨x,y,hx,hy,⟨(e2 x y).2 (Do (n2:=hn) (d2:=hd) (by omega) h3 hab h7 (by omega)),h5⟩,h6,h7⟩
      .rintro⟨x,y,hx,hy,⟨h5,h6⟩,h7,h8⟩;exact⟨x,y,hx,hy,h6,h7,h8⟩
    .rw[if_neg c4,rq l ln ld hn hd h1 h2 h3 h4];constructor
     .rintro⟨x,y,hx,hy,h5,h6,h7⟩;refine⟨x,y,hx,hy,⟨?_,h5⟩,h6,h7⟩;have g1:=bm (show 0<=a by omega) (show 0<=x by omega);have g2:=bm (show 0<=b by omega) (show 0<=y by omega);rcases bl 0 a with h|h
      .have:=aa h hx;omega
      .have:=aa (show 0<b by omega) hy;omega
     .rintro⟨x,y,hx,hy,⟨h5,h6⟩,h7,h8⟩;exact⟨x,y,hx,hy,h6,h7,h8⟩
structure Poly(F:List P3)(Vs:List V)(Es:List S)(c:P3):Prop where
 nonneg:∀f∈F,∀v∈Vs,0<=ev f (pt v)
 cd:0<c.d
 cin:∀f∈F,0<ev f c
 ends:∀s∈Es,s.a∈Vs/\s.b∈Vs
 side:∀q:P3,0<q.d->(∃f∈F,ev f q=0)->(∀f∈F,0<=ev f q)->∃s∈Es,∃x y k:Int,0<=x/\0<=y/\0<k/\∀h:P3,k*ev h q=x*ev h (pt s.a)+y*ev h (pt s.b)
 hull:∀q:P3,(∀f∈F,0<ev f q)->∀h:P3,(∀v∈Vs,ev h (pt v)<=0)->ev h q<=0
def big(q c:P3):∀(G:List P3),(∀g∈G,0<ev g q)->∃N:Int,1<=N/\∀g∈G,0<N*ev g q+ev g c
 |[],_=>⟨1,by decide,by grind⟩
 |g::G,h=>by
  obtain⟨N,h1,h2⟩:=big q c G (by grind);have hg:=h g bo;refine⟨N+(ev g c).natAbs,by omega,?_⟩;intro f hf;rcases aj.1 hf with rfl|hf
  .have:(N+(ev f c).natAbs)*1<=(N+(ev f c).natAbs)*ev f q:=dG (by omega) (by omega);omega
  .have h3:=h f (bk _ hf);have:=bm (show 0<=((ev g c).natAbs:Int) by omega) (show 0<=ev f q by omega);grind
def uO{F:List P3}{Vs:List V}{Es:List S}{c:P3}(A:Poly F Vs Es c){g:P3}(h:∃v∈Vs,0<ev g (pt v)):Sat (g::F):=by
 obtain⟨v,hv,hg⟩:=h;obtain⟨N,h1,h2⟩:=big (pt v) c [g] (by grind);refine⟨cmb N (pt v) 1 c,?_,?_⟩
 .have:=A.cd;simp only[cmb,pt];omega
 .intro f hf;rw[aX];rcases aj.1 hf with rfl|hf
  .grind
  .have e1:=A.nonneg f hf v hv;have e2:=A.cin f hf;have:=bm (show 0<=N by omega) e1;omega
def Ta{F G:List P3}{Vs Us:List V}{Es Ds:List S}{c e:P3}(A:Poly F Vs Es c)(B:Poly G Us Ds e)
  (h1:∀g∈G,∃v∈Vs,0<ev g (pt v)) (h2:∀f∈F,∃u∈Us,0<ev f (pt u)):Sat (F++G):=by
 have hF:Sat F:=⟨c,A.cd,A.cin⟩;have hG:Sat G:=⟨e,B.cd,B.cin⟩;refine aBo _ _ rfl ?_;intro x hx y hy z hz;simp only[bi]at hx hy hz;rcases hx with hx|hx<;>rcases hy with hy|hy<;>rcases hz with hz|hz
 .exact hF.sub (by grind)
 .exact(uO A (h1 z hz)).sub (by grind)
 .exact(uO A (h1 y hy)).sub (by grind)
 .exact(uO B (h2 x hx)).sub (by grind)
 .exact(uO A (h1 x hx)).sub (by grind)
 .exact(uO B (h2 y hy)).sub (by grind)
 .exact(uO B (h2 z hz)).sub (by grind)
 .exact hG.sub (by grind)
def sk(G:List P3)(s:S):Prop:=∃x y:Int,0<x/\0<y/\∀g∈G,0<ev g (pt s.a)*x+ev g (pt s.b)*y
def JE{F G:List P3}{Vs:List V}{Es:List S}{c:P3}(A:Poly F Vs Es c){s:S}(hs:s∈Es)(h:sk G s):Sat (F++G):=by
 obtain⟨x,y,hx,hy,hg⟩:=h;have hq:∀g∈G,0<ev g (cmb x (pt s.a) y (pt s.b)):=by intro g h;rw[aX];have:=hg g h;grind
 obtain⟨N,h1,h2⟩:=big _ c G hq;refine⟨cmb N (cmb x (pt s.a) y (pt s.b)) 1 c,?_,?_⟩
 .have e1:=A.cd;have e2:=aa (show 0<N by omega) (show 0<x*1+y*1 by omega);simp only[cmb,pt];omega
 .intro f hf;rw[aX];rcases bi.1 hf with hf|hf
  .have e1:=A.nonneg f hf _ (A.ends s hs).1;have e2:=A.nonneg f hf _ (A.ends s hs).2;have e3:=A.cin f hf;have e4:0<=ev f (cmb x (pt s.a) y (pt s.b)):=by rw[aX];have:=bm (show 0<=x by omega) e1;have:=bm (show 0<=y by omega) e2;omega
   have:=bm (show 0<=N by omega) e4;omega
  grind
def Hc(p c:P3)(hp:0<p.d)(hc:0<c.d):∀(G:List P3),(∀g∈G,0<ev g p)->
  ∃m n:Int,0<=m/\0<=n/\0<m+n/\(∀g∈G,0<=ev g (cmb m p n c))/\((∃g∈G,ev g (cmb m p n c)=0)\/(m=0/\∀g∈G,0<ev g c))
 |[],_=>⟨0,1,by omega,by omega,by omega,(by grind),by grind⟩
 |g::G,h=>by
  obtain⟨m,n,hm,hn,hmn,h1,h2⟩:=Hc p c hp hc G (by grind);have hg:=h g bo;rcases o4 (ev g (cmb m p n c)) 0 with h3|h3|h3
  ·
   have hq:=aX g p c m n;refine⟨-(ev g (cmb m p n c))+ev g p*m,ev g p*n,?_,?_,?_,?_,.inl ⟨g,by grind,?_⟩⟩
   .have:=bm (show 0<=ev g p by omega) hm;omega
   .exact bm (by omega) hn
   .have e1:=bm (show 0<=ev g p by omega) hm;have e2:=bm (show 0<=ev g p by omega) hn;omega
   .intro f hf;rcases aj.1 hf with rfl|hf
    .rw[aX];have:(-(ev f (cmb m p n c))+ev f p*m)*ev f p+ev f p*n*ev f c=0:=by rw[hq];grind
     omega
    .have e1:=h1 f hf;have e2:=h f (bk _ hf);have e3:=bm (show 0<=ev g p by omega) e1;have e4:=bm (show 0<= -(ev g (cmb m p n c)) by omega) (show 0<=ev f p by omega);have e5:=aX f p c m n;rw[aX];have:(-(ev g (cmb m p n c))+ev g p*m)*ev f p+ev g p*n*ev f c= -(ev g (cmb m p n c))*ev f p+ev g p*ev f (cmb m p n c):=by rw[e5];grind
     omega
   .rw[aX,hq];grind
  .refine⟨m,n,hm,hn,hmn,?_,by grind⟩;grind
  .refine⟨m,n,hm,hn,hmn,?_,?_⟩
   .grind
   .rcases h2 with⟨f,hf,h4⟩|⟨rfl,h4⟩
    .grind
    .refine .inr ⟨rfl,?_⟩;intro f hf;rcases aj.1 hf with rfl|hf
     .rw[aX]at h3;have hn0:0<n:=by omega
      have:0<n*ev f c:=by omega
      exact Sb this hn0|>λh=>h
     grind
def Su{F:List P3}{s:S}{x y:Int}(hx:0<=x)(hy:0<=y)(h:∀f∈F,0<x*ev f (pt s.a)+y*ev f (pt s.b)):sk F s:=by
 have hq:∀f∈F,0<ev f (cmb x (pt s.a) y (pt s.b)):=by intro f hf;rw[aX];exact h f hf
 obtain⟨N,h1,h2⟩:=big _ (cmb 1 (pt s.a) 1 (pt s.b)) F hq;have e1:=bm (show 0<=N by omega) hx;have e2:=bm (show 0<=N by omega) hy;refine⟨N*x+1,N*y+1,by omega,by omega,?_⟩;intro f hf;have:=h2 f hf;rw[aX,aX]at this;grind
def Sw{F G:List P3}{Vs Us:List V}{Es Ds:List S}{c e:P3}(A:Poly F Vs Es c)(B:Poly G Us Ds e):
  Sat (F++G)↔((∃s∈Es,sk G s)\/(∃s∈Ds,sk F s)\/∀g∈G,0<ev g c):=by
 constructor
 .rintro⟨p,hp,h⟩;obtain⟨m,n,hm,hn,hmn,h1,h2⟩:=Hc p c hp A.cd G (by grind);rcases h2 with h2|⟨_,h2⟩
  .refine .inr (.inl ?_);have hd:0<(cmb m p n c).d:=by
    have:=A.cd;have e1:=bm hm (show 0<=p.d by omega);have e2:=bm hn (show 0<=c.d by omega);show 0<m*p.d+n*c.d;rcases bl 0 m with h3|h3
    .have:=aa h3 hp;omega
    .have:=aa (show 0<n by omega) this;omega
   obtain⟨s,hs,x,y,k,hx,hy,hk,hq⟩:=B.side _ hd h2 h1;refine⟨s,hs,Su hx hy ?_⟩;intro f hf;rw[<-hq f];refine aa hk ?_;rw[aX];have e1:=h f (fT _ hf);have e2:=A.cin f hf;have e3:=bm hm (show 0<=ev f p by omega);have e4:=bm hn (show 0<=ev f c by omega);rcases bl 0 m with h3|h3
   .have:=aa h3 e1;omega
   .have:=aa (show 0<n by omega) e2;omega
  grind
 .rintro(⟨s,hs,h⟩|⟨s,hs,h⟩|h)
  .exact JE A hs h
  .exact(JE B hs h).sub (by grind)
  .refine⟨c,A.cd,?_⟩;intro f hf;rcases bi.1 hf with hf|hf
   .exact A.cin f hf
   grind
def TK{F G:List P3}{Vs Us:List V}{Es Ds:List S}{c e:P3}(A:Poly F Vs Es c)(B:Poly G Us Ds e):
  Sat (F++G)↔((∀g∈G,∃v∈Vs,0<ev g (pt v))/\(∀f∈F,∃u∈Us,0<ev f (pt u))):=by
 constructor
 .rintro⟨p,hp,h⟩;constructor
  .intro g hg;apply cu;intro hno;have:=A.hull p (by grind) g (by grind);grind
  .intro f hf;apply cu;intro hno;have:=B.hull p (by grind) f (by grind);grind
 .rintro⟨h1,h2⟩;exact Ta A B h1 h2
end Geo
section
set_option linter.unusedSimpArgs false
namespace Geo
def iP(a b:Int):(0<a->0<b->0<a*b)/\(a<0->b<0->0<a*b)/\(0<a->b<0->a*b<0)/\(a<0->0<b->a*b<0)/\(a=0->a*b=0)/\(b=0->a*b=0):=
 ⟨aa,vj,fk,lZ,λh=>by grind,λh=>by grind⟩
def onC(x1 y1 x2 y2 c:Int):Bool:=c==0&&(decide (min x1 x2<=0)&&decide (0<=max x1 x2))&&(decide (min y1 y2<=0)&&decide (0<=max y1 y2))
def lT(y1 y2 c:Int):Bool:=(decide (0<=y1) !=decide (0<=y2))&&(decide (0<=y1)==decide (0<c))
def GU{y1 y2 y3 c1 c2 c3:Int}(h0:c2*y1+c3*y2+c1*y3=0)(hs:0<c1+c2+c3)(h1:0<=y1)(h2:y2<0)(h3:y3<0)(hc1:c1≠0)(hc3:c3≠0):
  ((0<c1↔0<c3))↔(0<c1/\0<c2/\0<c3):=by
 constructor
 .intro h;rcases kU hc1 with h4|h4
  .have h5:c3<0:=by omega
   have e1:=(iP c3 y2).2.1 h5 h2;have e2:=(iP c1 y3).2.1 h4 h3;have h6:0<c2:=by omega
   rcases tV h1 with h7|h7
   .have:=(iP c2 y1).1 h6 h7;omega
   grind
  .have h5:=h.1 h4;have e1:=(iP c3 y2).2.2.1 h5 h2;have e2:=(iP c1 y3).2.2.1 h4 h3;refine⟨h4,?_,h5⟩;rcases o4 c2 0 with h6|h6|h6
   .rcases tV h1 with h7|h7
    .have:=(iP c2 y1).2.2.2.1 h6 h7;omega
    grind
   .grind
   .exact h6
 omega
def Em{x1 x2 x3 y1 y2 y3:Int}(hs:0<(x1*y2-y1*x2)+(x2*y3-y2*x3)+(x3*y1-y3*x1))(h1:y1<0)(h2:0<=y2)(h3:0<=y3)
  (hc1:x1*y2-y1*x2≠0) (hc3:x3*y1-y3*x1≠0) (hn:onC x2 y2 x3 y3 (x2*y3-y2*x3)=false):
  ((0<x1*y2-y1*x2↔0<x3*y1-y3*x1))↔(0<x1*y2-y1*x2/\0<x2*y3-y2*x3/\0<x3*y1-y3*x1):=by
 have h0:(x2*y3-y2*x3)*y1+(x3*y1-y3*x1)*y2+(x1*y2-y1*x2)*y3=0:=by grind
 have f1:y2=0->x1*y2-y1*x2= -(y1*x2):=by intro h;subst h;omega
 have f3:y3=0->x3*y1-y3*x1=x3*y1:=by intro h;subst h;omega
 generalize x1*y2-y1*x2=c1 at*;generalize x2*y3-y2*x3=c2 at*;generalize x3*y1-y3*x1=c3 at*;constructor
 .intro h;have hQ:(c3<0->c3*y2<=0)/\(0<c3->0<=c3*y2):=by
   rcases tV h2 with h7|h7
   .exact⟨λh=>gR ((iP c3 y2).2.2.2.1 h h7),λh=>gR ((iP c3 y2).1 h h7)⟩
   .grind
  have hR:(c1<0->c1*y3<=0)/\(0<c1->0<=c1*y3):=by
   rcases tV h3 with h7|h7
   .exact⟨λh=>gR ((iP c1 y3).2.2.2.1 h h7),λh=>gR ((iP c1 y3).1 h h7)⟩
   .grind
  rcases kU hc1 with h4|h4
  .have h6:0<c2:=by omega
   have:=(iP c2 y1).2.2.1 h6 h1;omega
  .have h5:=h.1 h4;refine⟨h4,?_,h5⟩;rcases o4 c2 0 with h6|h6|h6
   .have:=(iP c2 y1).2.1 h6 h1;omega
   .have hP:=(iP c2 y1).2.2.2.2.1 h6;have z2:y2=0:=by
     rcases tV h2 with h7|h7
     .have:=(iP c3 y2).1 h5 h7;omega
     .exact h7.symm
    have z3:y3=0:=by
     rcases tV h3 with h7|h7
     .have:=(iP c1 y3).1 h4 h7;omega
     .exact h7.symm
    have m2:0<x2:=by
     rcases o4 x2 0 with h8|h8|h8
     .have:=(iP y1 x2).2.1 h1 h8;omega
     .grind
     .exact h8
    have m3:x3<0:=by
     rcases o4 x3 0 with h8|h8|h8
     .exact h8
     .grind
     .have:=(iP x3 y1).2.2.1 h8 h1;omega
    have:onC x2 y2 x3 y3 c2=true:=by unfold onC;simp;omega
    grind
   .exact h6
 omega
def aAG{x1 y1 x2 y2:Int}(h:x1*y2-y1*x2=0)(h1:0<=y1)(h2:y2<0):onC x1 y1 x2 y2 (x1*y2-y1*x2)=true:=by unfold onC;obtain⟨a1,a2,a3,a4,a5,a6⟩:=iP x1 y2;obtain⟨b1,b2,b3,b4,b5,b6⟩:=iP y1 x2;grind
def X0(x1 y1 x2 y2:Int):onC x1 y1 x2 y2 (x1*y2-y1*x2)=onC x2 y2 x1 y1 (x2*y1-y2*x1):=by unfold onC;grind
def sZ{x1 y1 x2 y2:Int}(h1:0<=y1)(h2:y2<0)(hn:onC x1 y1 x2 y2 (x1*y2-y1*x2)=false):x1*y2-y1*x2≠0:=λh=>by rw[aAG h h1 h2]at hn;cases hn
def uS{x1 y1 x2 y2:Int}(h1:y1<0)(h2:0<=y2)(hn:onC x1 y1 x2 y2 (x1*y2-y1*x2)=false):x1*y2-y1*x2≠0:=λh=>by rw[X0]at hn;exact sZ h2 h1 hn (by grind)
def HN(x1 y1 x2 y2 x3 y3:Int):Int:=
 if onC x1 y1 x2 y2 (x1*y2-y1*x2)then 1 else if onC x2 y2 x3 y3 (x2*y3-y2*x3)then 1 else if onC x3 y3 x1 y1 (x3*y1-y3*x1)then 1
 else if((false !=lT y1 y2 (x1*y2-y1*x2)) !=lT y2 y3 (x2*y3-y2*x3)) !=lT y3 y1 (x3*y1-y3*x1)then 2 else 0
def XJ(x1 y1 x2 y2 x3 y3:Int)(hs:0<(x1*y2-y1*x2)+(x2*y3-y2*x3)+(x3*y1-y3*x1)):
  HN x1 y1 x2 y2 x3 y3=2↔(0<x1*y2-y1*x2/\0<x2*y3-y2*x3/\0<x3*y1-y3*x1):=by
 have h0:(x2*y3-y2*x3)*y1+(x3*y1-y3*x1)*y2+(x1*y2-y1*x2)*y3=0:=by grind
 have onpos:∀a b c d e:Int,onC a b c d e=true->e=0:=by intro a b c d e h;unfold onC at h;simp at h;exact h.1.1
 unfold HN;cases o1:onC x1 y1 x2 y2 (x1*y2-y1*x2)with
 |true=>grind
 |false=>
  cases o2:onC x2 y2 x3 y3 (x2*y3-y2*x3)with
  |true=>grind
  |false=>
   cases o3:onC x3 y3 x1 y1 (x3*y1-y3*x1)with
   |true=>grind
   |false=>
    simp only[lc,if_false,rS];have if2:∀b:Bool,(if b=true then(2:Int)else 0)=2↔b=true:=by intro b;cases b<;>simp
    rw[if2];by_cases p1:0<=y1<;>by_cases p2:0<=y2<;>by_cases p3:0<=y3
    ·
     simp only[lT,p1,p2,p3,decide_true,bne_self_eq_false,qO,lc,false_iff];rintro⟨q1,q2,q3⟩;have e1:=bm (show 0<=x2*y3-y2*x3 by omega) p1;have e2:=bm (show 0<=x3*y1-y3*x1 by omega) p2;have e3:=bm (show 0<=x1*y2-y1*x2 by omega) p3;have z1:y1=0:=by
      rcases tV p1 with h|h
      .have:=aa q2 h;omega
      .exact h.symm
     have z2:y2=0:=by
      rcases tV p2 with h|h
      .have:=aa q3 h;omega
      .exact h.symm
     grind
    .have c2:=sZ p2 (by omega) o2;have c3:=uS (by omega) p1 o3;have:=Em (x1:=x3) (x2:=x1) (x3:=x2) (y1:=y3) (y2:=y1) (y3:=y2) (by omega) (by omega) p1 p2 c3 c2 o1;simp only[lT,p1,p2,p3,decide_true,decide_false,bne_self_eq_false,qO,rS,vq,yo,vu,mU,rT,kC];grind
    .have c1:=sZ p1 (by omega) o1;have c2:=uS (by omega) p3 o2;have:=Em (x1:=x2) (x2:=x3) (x3:=x1) (y1:=y2) (y2:=y3) (y3:=y1) (by omega) (by omega) p3 p1 c2 c1 o3;simp only[lT,p1,p2,p3,decide_true,decide_false,bne_self_eq_false,qO,rS,vq,yo,vu,mU,rT,kC];grind
    .have c1:=sZ p1 (by omega) o1;have c3:=uS (by omega) p1 o3;have:=GU h0 hs p1 (by omega) (by omega) c1 c3;simp only[lT,p1,p2,p3,decide_true,decide_false,bne_self_eq_false,qO,rS,vq,yo,vu,mU,rT,kC];grind
    .have c1:=uS (by omega) p2 o1;have c3:=sZ p3 (by omega) o3;have:=Em hs (by omega) p2 p3 c1 c3 o2;simp only[lT,p1,p2,p3,decide_true,decide_false,bne_self_eq_false,qO,rS,vq,yo,vu,mU,rT,kC];grind
    .have c1:=uS (by omega) p2 o1;have c2:=sZ p2 (by omega) o2;have:=GU (y1:=y2) (y2:=y3) (y3:=y1) (c1:=x2*y3-y2*x3) (c2:=x3*y1-y3*x1) (c3:=x1*y2-y1*x2) (by omega) (by omega) p2 (by omega) (by omega) c2 c1;simp only[lT,p1,p2,p3,decide_true,decide_false,bne_self_eq_false,qO,rS,vq,yo,vu,mU,rT,kC];grind
    .have c2:=uS (by omega) p3 o2;have c3:=sZ p3 (by omega) o3;have:=GU (y1:=y3) (y2:=y1) (y3:=y2) (c1:=x3*y1-y3*x1) (c2:=x1*y2-y1*x2) (c3:=x2*y3-y2*x3) (by omega) (by omega) p3 (by omega) (by omega) c3 c2;simp only[lT,p1,p2,p3,decide_true,decide_false,bne_self_eq_false,qO,rS,vq,yo,vu,mU,rT,kC];grind
    ·
     simp only[lT,p1,p2,p3,decide_false,bne_self_eq_false,qO,lc,false_iff];rintro⟨q1,q2,q3⟩;have e1:=fk q2 (show y1<0 by omega);have e2:=fk q3 (show y2<0 by omega);have e3:=fk q1 (show y3<0 by omega);omega
def XK{u v w:V}(h:0<cross (sub v u) (sub w u)):Poly [lin u v,lin v w,lin w u] [u,v,w] [⟨u,v⟩,⟨v,w⟩,⟨w,u⟩] ⟨u.x+v.x+w.x,u.y+v.y+w.y,3⟩:=by
 have id3:∀h q:P3,cross (sub v u) (sub w u)*ev h q=ev (lin v w) q*ev h (pt u)+ev (lin w u) q*ev h (pt v)+ev (lin u v) q*ev h (pt w):=by intro h q;unfold ev lin pt cross sub;grind
 have k1:ev (lin u v) (pt w)=cross (sub v u) (sub w u):=dO u v w;have k2:ev (lin v w) (pt u)=cross (sub v u) (sub w u):=by rw[dO];unfold cross sub;grind
 have k3:ev (lin w u) (pt v)=cross (sub v u) (sub w u):=by rw[dO];unfold cross sub;grind
 have c0:∀f:P3,ev f ⟨u.x+v.x+w.x,u.y+v.y+w.y,3⟩=ev f (pt u)+ev f (pt v)+ev f (pt w):=by intro f;unfold ev pt;grind
 refine⟨?_,(by grind),?_,?_,?_,?_⟩
 .intro f hf x hx;simp only[aj,cG,or_false]at hf hx;rcases hf with rfl|rfl|rfl<;>rcases hx with rfl|rfl|rfl<;>first|(rw[bq];omega)|(rw[cH];omega)|omega
 .intro f hf;rw[c0];simp only[aj,cG,or_false]at hf;rcases hf with rfl|rfl|rfl
  .rw[bq,cH];omega
  .rw[bq,cH];omega
  .rw[bq,cH];omega
 .grind
 .rintro q hq ⟨f,hf,hz⟩ hn;simp only[aj,cG,or_false,forall_eq_or_imp,forall_eq]at hf hn;obtain⟨n1,n2,n3⟩:=hn;rcases hf with rfl|rfl|rfl
  .exact⟨⟨u,v⟩,by simp,ev (lin v w) q,ev (lin w u) q,_,n2,n3,h,λg=>by grind⟩
  .exact⟨⟨v,w⟩,by simp,ev (lin w u) q,ev (lin u v) q,_,n3,n1,h,λg=>by grind⟩
  .exact⟨⟨w,u⟩,by simp,ev (lin u v) q,ev (lin v w) q,_,n1,n2,h,λg=>by grind⟩
 .intro q hq g hg;simp only[aj,cG,or_false,forall_eq_or_imp,forall_eq]at hq hg;have e1:=bm (show 0<=ev (lin v w) q by omega) (show 0<= -ev g (pt u) by omega);have e2:=bm (show 0<=ev (lin w u) q by omega) (show 0<= -ev g (pt v) by omega);have e3:=bm (show 0<=ev (lin u v) q by omega) (show 0<= -ev g (pt w) by omega);rw[lh]at e1 e2 e3;have:=id3 g q;rcases bl 0 (ev g q)with h1|h1
  .have:=aa h h1;omega
  .exact h1
def c8(s:S)(r:aE):Bool:=jy ((aH r).map λe=>(cross (sub e.b e.a) (sub s.a e.a),cross (sub e.b e.a) (sub s.b e.a))) 0 1 1 1
def kh(r:aE):List P3:=(aH r).map λe=>lin e.a e.b
def UK(s:S)(r:aE):c8 s r=true↔sk (kh r) s:=by
 unfold c8 sk kh;rw[rq _ _ _ _ _ (by omega) (by omega) (by omega) (by omega)];constructor
 .rintro⟨x,y,hx,hy,h,_⟩;refine⟨x,y,hx,hy,?_⟩;intro g hg;obtain⟨e,he,rfl⟩:=bR.1 hg;rw[dO,dO];simp_all
 .rintro⟨x,y,hx,hy,h⟩;refine⟨x,y,hx,hy,?_,by omega,by omega⟩;intro p hp;obtain⟨e,he,rfl⟩:=bR.1 hp;have:=h _ (bR.2 ⟨e,he,rfl⟩);rw[dO,dO]at this;exact this
def yI(u v w:V):aH [u,v,w] =[⟨u,v⟩,⟨v,w⟩,⟨w,u⟩] :=by simp[aH,bO,nth,nxt,rQ]
def O6{u v w:V}(hv:cV [u,v,w] =true)(p:Pt)(hp:c6 p=true)(h:0<cross (sub v u) (sub w u)):
  bP [u,v,w] p=2↔∀g∈kh [u,v,w],0<ev g ⟨p.x,p.y,p.den⟩:=by
 have hd:0<p.den:=by unfold c6 iX at hp;simp only[bn,decide_eq_true_eq]at hp;omega
 have e:∀a b:V,ev (lin a b) ⟨p.x,p.y,p.den⟩*p.den=(toV p a).x*(toV p b).y-(toV p a).y*(toV p b).x:=by intro a b;unfold ev lin toV;grind
 have sg:∀a b:V,0<ev (lin a b) ⟨p.x,p.y,p.den⟩↔0<(toV p a).x*(toV p b).y-(toV p a).y*(toV p b).x:=by
  intro a b;rw[<-e];constructor
  .intro h;exact aa h hd
  .intro h;exact Int.pos_of_mul_pos_left h hd|>λh=>h
 have sz:∀a b:V,fK ⟨a,b⟩ p*p.den=(toV p a).x*(toV p b).y-(toV p a).y*(toV p b).x:=by intro a b;unfold fK toV cross sub;grind
 have so:∀a b:V,onP ⟨a,b⟩ p=onC (toV p a).x (toV p a).y (toV p b).x (toV p b).y ((toV p a).x*(toV p b).y-(toV p a).y*(toV p b).x):=by
  intro a b;unfold onP onC;have:(fK ⟨a,b⟩ p==0)=((toV p a).x*(toV p b).y-(toV p a).y*(toV p b).x==0):=by
   rw[fg];simp only[beq_iff_eq];rw[<-sz];constructor
   .grind
   .intro h;rcases cp.1 h with h|h
    .exact h
    .omega
  rw[this]
 have sh:∀a b:V,dh ⟨a,b⟩ p=lT (toV p a).y (toV p b).y ((toV p a).x*(toV p b).y-(toV p a).y*(toV p b).x):=by
  intro a b;unfold dh lT;have:decide (0<fK ⟨a,b⟩ p)=decide (0<(toV p a).x*(toV p b).y-(toV p a).y*(toV p b).x):=by
   rw[decide_eq_decide,<-sz];constructor
   .intro h;exact aa h hd
   .intro h;exact Int.pos_of_mul_pos_left h hd|>λh=>h
  rw[this]
 have hs:0<((toV p u).x*(toV p v).y-(toV p u).y*(toV p v).x)+((toV p v).x*(toV p w).y-(toV p v).y*(toV p w).x)+((toV p w).x*(toV p u).y-(toV p w).y*(toV p u).x):=by
  have:((toV p u).x*(toV p v).y-(toV p u).y*(toV p v).x)+((toV p v).x*(toV p w).y-(toV p v).y*(toV p w).x)+((toV p w).x*(toV p u).y-(toV p w).y*(toV p u).x)=cross (sub v u) (sub w u)*(p.den*p.den):=by unfold toV cross sub;grind
  rw[this];exact aa h (aa hd hd)
 have key:=XJ (toV p u).x (toV p u).y (toV p v).x (toV p v).y (toV p w).x (toV p w).y hs;have:bP [u,v,w] p=HN (toV p u).x (toV p u).y (toV p v).x (toV p v).y (toV p w).x (toV p w).y:=by unfold bP;rw[hv,hp,yI];simp only[mU,Bool.or_self,lc,if_false,dZ,so,sh];rfl
 rw[this,key,<-sg,<-sg,<-sg];unfold kh;rw[yI];simp
def BO(a b:aE):Bool:=(bV a.length).any λi=>b.all λv=>decide (turn (nth a i) (nxt a i) v<=0)
def GR(a b:aE):Bool:=BO a b||BO b a
def J3(a b:aE)(ha:2<=a.length):BO a b=true↔∃f∈kh a,∀v∈b,ev f (pt v)<=0:=by
 unfold BO kh aH;rw[if_neg (by omega),di];simp only[lj,cF,bf,decide_eq_true_eq,bR,Cb,bO];have sg:∀n:Int,sgn n<=0↔n<=0:=by intro n;have:=ud n;omega
 constructor
 .rintro⟨i,hi,h⟩;refine⟨_,⟨i,hi,rfl⟩,?_⟩;intro v hv;rw[dO];exact(sg _).1 (h v hv)
 .rintro⟨f,⟨i,hi,rfl⟩,h⟩;refine⟨i,hi,?_⟩;intro v hv;have:=h v hv;rw[dO]at this;exact(sg _).2 this
end Geo
end
namespace Geo
def tw:∀(L:List (Int×Int)) (ln ld hn hd:Int),ln*hd<hn*ld->(∀p∈L,¬(p.1<=0/\p.2<=0))->(∀p∈L,p.1<0-> -p.1*hd<hn*(p.2-p.1))->
  (∀q∈L,q.2<0->ln*(q.1-q.2)<q.1*ld)->(∀p∈L,∀q∈L,p.1<0->q.2<0-> -p.1*(q.1-q.2)<q.1*(p.2-p.1))->jy L ln ld hn hd=true
 |[],ln,ld,hn,hd,h0,_,_,_,_=>by simpa[jy]using h0
 |(a,b)::L,ln,ld,hn,hd,h0,h1,h2,h3,h4=>by
  have i1:∀p∈L,¬(p.1<=0/\p.2<=0):=by grind
  have i2:∀p∈L,p.1<0-> -p.1*hd<hn*(p.2-p.1):=by grind
  have i3:∀q∈L,q.2<0->ln*(q.1-q.2)<q.1*ld:=by grind
  have i4:∀p∈L,∀q∈L,p.1<0->q.2<0-> -p.1*(q.1-q.2)<q.1*(p.2-p.1):=by grind
  unfold jy;rw[if_neg (h1 (a,b) (by grind))];split
  .rename_i ha;split
   .exact tw L _ _ _ _ (h2 (a,b) (by grind) ha) i1 i2 (λq hq hq2=>h4 (a,b) (by grind) q (by grind) ha hq2) i4
   .exact tw L _ _ _ _ h0 i1 i2 i3 i4
  .split
   .rename_i hb;split
    .exact tw L _ _ _ _ (h3 (a,b) (by grind) hb) i1 (λp hp hp1=>h4 p (by grind) (a,b) (by grind) hp1 hb) i3 i4
    .exact tw L _ _ _ _ h0 i1 i2 i3 i4
   .exact tw L _ _ _ _ h0 i1 i2 i3 i4
def enters_of{F:List P3}{s:S}(h1:∀f∈F,¬(ev f (pt s.a)<=0/\ev f (pt s.b)<=0))
  (h2:∀f∈F,∀g∈F,ev f (pt s.a)<0->ev g (pt s.b)<0->ev f (pt s.a)*ev g (pt s.b)<ev g (pt s.a)*ev f (pt s.b)):sk F s:=by
 have:jy (F.map λf=>(ev f (pt s.a),ev f (pt s.b))) 0 1 1 1=true:=by
  refine tw _ _ _ _ _ (by decide) ?_ ?_ ?_ ?_
  .grind
  .grind
  .grind
  .grind
 rw[rq _ _ _ _ _ (by decide) (by decide) (by decide) (by decide)]at this;obtain⟨x,y,hx,hy,h,_⟩:=this;exact⟨x,y,hx,hy,λg hg=>h _ (bR.2 ⟨g,hg,rfl⟩)⟩
def Wv(f:P3)(u v w:V):0<ev f ⟨(pY u v w).x,(pY u v w).y,(pY u v w).den⟩↔0<ev f ⟨u.x+v.x+w.x,u.y+v.y+w.y,3⟩:=by
 unfold pY;generalize u.x+v.x+w.x=x at*;generalize u.y+v.y+w.y=y at*;split
 .rename_i h;have:ev f ⟨x,y,3⟩=3*ev f ⟨x.tdiv 3,y.tdiv 3,1⟩:=by unfold ev;grind
  grind
 grind
def nk(s:Shape)(r:aE):Bool:=(bQ s).all (λe=> !(c8 e r))&&eI s (pY (nth r 0) (nth r 1) (nth r 2))==2
def VR.mD{r:aE}(h:VR r){e:S}(he:e∈aH r):e.a≠e.b:=by
 unfold aH at he;split at he
 .cases he
 .obtain⟨i,hi,rfl⟩:=bR.1 he;have hi:=cF.1 hi;intro h2;have h3:nth r i=nth r ((i+1) % r.length):=h2;have:=h.inj hi (bw _ (by omega)) h3;by_cases h4:i+1<r.length
  .rw[dp h4]at this;omega
  .have h5:i+1=r.length:=by omega
   rw[h5,kV]at this;omega
def VS.mD{s:Shape}(h:VS s){e:S}(he:e∈bQ s):e.a≠e.b:=by obtain⟨r,hr,he⟩:=cQ.1 he;exact(h.ring hr).mD he
end Geo
namespace Geo
structure CR(r:aE):Prop where
 len:3<=r.length
 pos:∀i n,i<r.length->n<r.length->n≠i->n≠(i+1) % r.length->0<ev (lin (nth r i) (nxt r i)) (pt (nth r n))
 near:∀v∈r,ao v 2000=true
def qf{r:aE}(h:2<=r.length){f:P3}:f∈kh r↔∃i,i<r.length/\f=lin (nth r i) (nxt r i):=by unfold kh aH;rw[if_neg (by omega),di];simp only[bR,cF,Cb,bO];grind
def CR.nonneg{r:aE}(h:CR r){i n:Nat}(hi:i<r.length)(hn:n<r.length):0<=ev (lin (nth r i) (nxt r i)) (pt (nth r n)):=by
 by_cases e1:n=i
 .rw[e1,bq];omega
 by_cases e2:n=(i+1) % r.length
 .rw[e2];unfold nxt;rw[cH];omega
 exact gR (h.pos i n hi hn e1 e2)
def id3(u v w:V)(h q:P3):ev (lin u v) (pt w)*ev h q=ev (lin v w) q*ev h (pt u)+ev (lin w u) q*ev h (pt v)+ev (lin u v) q*ev h (pt w):=by unfold ev lin pt;grind
def YD(u v w:V):ev (lin u v) (pt w)=ev (lin v w) (pt u):=by unfold ev lin pt;grind
def LG(u v:V)(q:P3):ev (lin v u) q= -ev (lin u v) q:=by unfold ev lin;grind
def Lb{D:Nat->Int}:∀{n:Nat},0<=D 1->D (n+2)<0->∃i,1<=i/\i<=n+1/\0<=D i/\D (i+1)<0
 |0,h1,h2=>by grind
 |n+1,h1,h2=>by
  by_cases h:0<=D (n+2)
  .grind
  .obtain⟨i,a,b,c,d⟩:=Lb (n:=n) h1 (by omega);grind
def CM(r:aE):P3:=⟨(nth r 0).x+(nth r 1).x+(nth r 2).x,(nth r 0).y+(nth r 1).y+(nth r 2).y,3⟩
def CR.poly{r:aE}(h:CR r):Poly (kh r) r (aH r) (CM r):=by
 have hl:=h.len;have c0:∀f:P3,ev f (CM r)=ev f (pt (nth r 0))+ev f (pt (nth r 1))+ev f (pt (nth r 2)):=by intro f;unfold CM ev pt;grind
 have md:∀i,i<r.length->(i+1) % r.length<r.length:=λi _=>bw _ (by omega);have mdc:∀i,i<r.length->((i+1) % r.length=i+1/\i+1<r.length)\/((i+1) % r.length=0/\i+1=r.length):=λi hi=>by
  by_cases h4:i+1<r.length
  .exact .inl ⟨dp h4,h4⟩
  .have h5:i+1=r.length:=by omega
   simp_all
 refine⟨?_,(show(0:Int)<3 by decide),?_,?_,?_,?_⟩
 .intro f hf v hv;obtain⟨i,hi,rfl⟩:=(qf (by omega)).1 hf;obtain⟨n,hn,rfl⟩:=fN.1 hv;exact h.nonneg hi hn
 .intro f hf;obtain⟨i,hi,rfl⟩:=(qf (by omega)).1 hf;rw[c0];have e0:=h.nonneg hi (show 0<r.length by omega);have e1:=h.nonneg hi (show 1<r.length by omega);have e2:=h.nonneg hi (show 2<r.length by omega);have:(0≠i/\0≠(i+1) % r.length)\/(1≠i/\1≠(i+1) % r.length)\/(2≠i/\2≠(i+1) % r.length):=by rcases mdc i hi with⟨a,b⟩|⟨a,b⟩<;>rw[a] <;>omega
  rcases this with⟨a,b⟩|⟨a,b⟩|⟨a,b⟩
  .have:=h.pos i 0 hi (by omega) a b;omega
  .have:=h.pos i 1 hi (by omega) a b;omega
  .have:=h.pos i 2 hi (by omega) a b;omega
 .intro s hs;unfold aH at hs;rw[if_neg (by omega)]at hs;obtain⟨i,hi,rfl⟩:=bR.1 hs;have hi:=cF.1 hi;exact⟨fN.2 ⟨i,hi,rfl⟩,fN.2 ⟨_,md i hi,rfl⟩⟩
 .rintro q hq ⟨f,hf,hz⟩ hn;obtain⟨i,hi,rfl⟩:=(qf (by omega)).1 hf;have hj:=md i hi;obtain⟨p,hp,ep⟩:∃p,p<r.length/\(p+1) % r.length=i:=by
   by_cases h0:i=0
   .exact⟨r.length-1,by omega,by rw[h0,IR (by omega),kV]⟩
   .exact⟨i-1,by omega,by grind⟩
  have hk:=md _ hj;have n1:=hn (lin (nth r ((i+1) % r.length)) (nxt r ((i+1) % r.length))) ((qf (by omega)).2 ⟨_,hj,rfl⟩);have n2:=hn (lin (nth r p) (nxt r p)) ((qf (by omega)).2 ⟨_,hp,rfl⟩);have ea:nxt r p=nth r i:=by unfold nxt;rw[ep]
  have eb:nxt r i=nth r ((i+1) % r.length):=rfl;rw[ea]at n2;have K1:0<ev (lin (nth r i) (nxt r i)) (pt (nxt r ((i+1) % r.length))):=by
   refine h.pos i _ hi hk ?_ ?_
   .rcases mdc i hi with⟨a,b⟩|⟨a,b⟩<;>rw[a]
    .rcases mdc (i+1) b with⟨c,d⟩|⟨c,d⟩<;>rw[c] <;>omega
    .rw[dp (by omega)];omega
   .rcases mdc i hi with⟨a,b⟩|⟨a,b⟩<;>rw[a]
    .rcases mdc (i+1) b with⟨c,d⟩|⟨c,d⟩<;>rw[c] <;>omega
    .rw[dp (by omega)];omega
  have K2:0<ev (lin (nth r p) (nth r i)) (pt (nxt r i)):=by
   have:=h.pos p ((i+1) % r.length) hp hj ?_ ?_
   .grind
   .rcases mdc p hp with⟨a,b⟩|⟨a,b⟩
    .rcases mdc i hi with⟨c,d⟩|⟨c,d⟩<;>rw[c] <;>omega
    .have:i=0:=by omega
     rw[dp (by omega)];omega
   .rcases mdc i hi with⟨c,d⟩|⟨c,d⟩<;>rw[c] <;>omega
  have id:=λg=>id3 (nth r i) (nxt r i) (nxt r ((i+1) % r.length)) g q;rw[hz]at id;refine⟨bO r i,?_,ev (lin (nxt r i) (nxt r ((i+1) % r.length))) q,ev (lin (nxt r ((i+1) % r.length)) (nth r i)) q,_,n1,?_,K1,λg=>by rw[id g];rw[tU,nT];rfl⟩
  .unfold aH;grind
  .have e:=id (lin (nth r p) (nth r i));rw[cH,dU,vw,tU,nT]at e;rcases bl (ev (lin (nxt r ((i+1) % r.length)) (nth r i)) q) 0 with h5|h5
   .have:=lZ h5 K2;have:=bm (gR K1) n2;omega
   .exact h5
 .intro q hq g hg;have d1:=hq _ ((qf (by omega)).2 ⟨0,show 0<r.length by omega,rfl⟩);have d2:=hq _ ((qf (by omega)).2 ⟨r.length-1,show r.length-1<r.length by omega,rfl⟩);have e1:nxt r 0=nth r 1:=by unfold nxt;rw[dp (by omega)]
  have e2:nxt r (r.length-1)=nth r 0:=by unfold nxt;rw[IR (by omega),kV]
  rw[e1]at d1;rw[e2]at d2;have d3:=LG (nth r 0) (nth r (r.length-1)) q;obtain⟨i,a,b,c,d⟩:=Lb (D:=λi=>ev (lin (nth r 0) (nth r i)) q) (n:=r.length-3) (gR d1) (by rw[show r.length-3+2=r.length-1 by omega];omega);have hi:i+1<r.length:=by omega
  have K:=h.pos i 0 (by omega) (by omega) (by omega) (by rw[dp hi];omega);have f1:=hq _ ((qf (by omega)).2 ⟨i,show i<r.length by omega,rfl⟩);have en:nxt r i=nth r (i+1):=by unfold nxt;rw[dp hi]
  rw[en]at K f1;rw[<-YD]at K;have id:=id3 (nth r 0) (nth r i) (nth r (i+1)) g q;have g1:=hg _ (fN.2 ⟨0,show 0<r.length by omega,rfl⟩);have g2:=hg _ (fN.2 ⟨i,show i<r.length by omega,rfl⟩);have g3:=hg _ (fN.2 ⟨i+1,hi,rfl⟩);have d4:=LG (nth r 0) (nth r (i+1)) q;have p1:=bm (gR f1) (show 0<= -ev g (pt (nth r 0)) by omega);have p2:=bm (show 0<=ev (lin (nth r (i+1)) (nth r 0)) q by omega) (show 0<= -ev g (pt (nth r i)) by omega);have p3:=bm c (show 0<= -ev g (pt (nth r (i+1))) by omega);rw[lh]at p1 p2 p3;rcases bl 0 (ev g q)with h1|h1
  .have:=aa K h1;omega
  .exact h1
def da(r:aE):Bool:=decide (3<=r.length)&&(r.all (λv=>ao v 2000)&&(bV r.length).all λi=>(bV r.length).all λn=>decide (n=i)||decide (n=(i+1) % r.length)||decide (0<turn (nth r i) (nxt r i) (nth r n)))
def CR.of{r:aE}(h:da r=true):CR r:=by
 unfold da at h;simp only[bn,decide_eq_true_eq,bf,cF,jl]at h;obtain⟨h1,h2,h3⟩:=h;refine⟨h1,λi n hi hn e1 e2=> ?_,h2⟩;rcases h3 i hi n hn with(h4|h4)|h4
 .omega
 .omega
 .rw[dO];exact(ud _).1 h4
def l8(r:aE)(p:Pt):Bool:=(aH r).all λe=>decide (0<(e.b.x-e.a.x)*(p.y-e.a.y*p.den)-(e.b.y-e.a.y)*(p.x-e.a.x*p.den))
def TS(r:aE)(p:Pt):l8 r p=true↔∀g∈kh r,0<ev g ⟨p.x,p.y,p.den⟩:=by
 unfold l8 kh;have e:∀s:S,(s.b.x-s.a.x)*(p.y-s.a.y*p.den)-(s.b.y-s.a.y)*(p.x-s.a.x*p.den)=ev (lin s.a s.b) ⟨p.x,p.y,p.den⟩:=by intro s;unfold ev lin;grind
 simp_all
def fH(a b:aE):Bool:=(aH a).any (λs=>c8 s b)||((aH b).any (λs=>c8 s a)||l8 b (pY (nth a 0) (nth a 1) (nth a 2)))
def T6{a b:aE}(ha:CR a)(hb:CR b):fH a b= !(GR a b):=by have A:=ha.poly;have B:=hb.poly;have la:=ha.len;have lb:=hb.len;have h1:=Sw A B;have h2:=TK A B;rw[fg];unfold fH GR;simp only[jl,lj,UK,TS,Bool.not_eq_true',Bool.or_eq_false_iff];simp only[Wv];show(_\/_\/∀g∈kh b,0<ev g (CM a))↔_;have r1:=J3 a b (by omega);have r2:=J3 b a (by omega);grind
def dt(a b:List aE):Bool:=a.any λr=>b.any λo=>da r&&(da o&&fH r o)
end Geo
section
namespace Geo
def rot(r:aE)(k:Nat):aE:=r.drop k++r.take k
def xR(r:aE)(k:Nat):(rot r k).Perm r:=by refine vn.trans ?_;simp_all
def l5(r:aE)(k:Nat):(rot r k).length=r.length:=(xR r k).length_eq
def uf{r:aE}{k i:Nat}(hk:k<=r.length)(hi:i<r.length):nth (rot r k) i=nth r ((i+k) % r.length):=by
 unfold rot nth;rw[dw,dw];by_cases h:i<r.length-k
 .rw[mW (by simp;omega),vo,jD (by omega)];grind
 .rw[kW (by simp;omega),List.length_drop,List.getElem?_take,if_pos (by omega),pS (by omega) (by omega)];grind
def AW(i k n:Nat)(_:0<n):((i+1) % n+k) % n=((i+k) % n+1) % n:=by rw[kX,kX];grind
def FN{r:aE}{k i:Nat}(hk:k<=r.length)(hi:i<r.length):bO (rot r k) i=bO r ((i+k) % r.length):=by unfold bO nxt;rw[l5,uf hk hi,uf hk (bw _ (by omega)),AW _ _ _ (by omega)]
def Wf(r:aE){k:Nat}(hk:k<=r.length):aH (rot r k)=(aH r).drop k++(aH r).take k:=by
 unfold aH;rw[l5];split
 .simp
 .apply tW
  .simp;omega
  .intro i h1 h2;simp only[db,List.length_range]at h1;rw[jR,qP,FN hk h1];by_cases h:i<r.length-k
   .rw[List.getElem_append_left (by simp;omega),List.getElem_drop,jR,qP,jD (by omega)];grind
   .rw[List.getElem_append_right (by simp;omega),List.getElem_take,jR,qP,pS (by omega) (by omega)];grind
def rb(r:aE){k:Nat}(hk:k<=r.length):(aH (rot r k)).Perm (aH r):=by rw[Wf r hk];refine vn.trans ?_;simp_all
def Dv{r:aE}(h:2<=r.length):area r=((aH r).map λe=>cross e.a e.b).sum:=by unfold area aH;rw[if_neg (by omega),di];rfl
def Kz{l m:List Int}(h:l.Perm m):l.sum=m.sum:=by
 induction h with
 |nil=>rfl
 |cons x _ ih=>grind
 |swap x y l=>grind
 |trans _ _ ih1 ih2=>rw[ih1,ih2]
def Yo{r:aE}(h:2<=r.length){k:Nat}(hk:k<=r.length):area (rot r k)=area r:=by rw[Dv h,Dv (by rw[l5];exact h)];exact Kz ((rb r hk).map _)
def WK{r q:aE}(h:q.Perm r):near q=near r:=by unfold near;grind
def Za(i k n:Nat)(_:0<n):((i+2) % n+k) % n=((i+k) % n+2) % n:=by rw[kX,kX];grind
def VR.rot{r:aE}(h:VR r){k:Nat}(hk:k<=r.length):VR (rot r k):=by
 have h3:=h.three;have ht:∀i,i<(Geo.rot r k).length->Geo.turn (nth (Geo.rot r k) i) (nth (Geo.rot r k) ((i+1) % (Geo.rot r k).length)) (nth (Geo.rot r k) ((i+2) % (Geo.rot r k).length))≠0:=by intro i hi;rw[l5]at hi|-;rw[uf hk hi,uf hk (bw _ (by omega)),uf hk (bw _ (by omega)),AW _ _ _ (by omega),Za _ _ _ (by omega)];exact h.turn' _ (bw _ (by omega))
 have ha:∀a b,a<r.length->b<r.length->a≠b->b≠(a+1) % r.length->a≠(b+1) % r.length->cC (bO r a) (bO r b)=0:=by
  intro a b h1 h2 h4 h5 h6;have key:∀a b,a<b->b<r.length->b≠(a+1) % r.length->a≠(b+1) % r.length->cC (bO r a) (bO r b)=0:=by
   intro a b h1 h2 h5 h6;refine h.apart a b h1 h2 ?_ ?_
   .rintro rfl;exact h5 (jD h2).symm
   .rintro⟨rfl,rfl⟩;exact h6 (by rw[show r.length-1+1=r.length by omega,kV])
  rcases nU a b with h7|h7
  .grind
  .rw[l6];grind
 have e1:∀i,i<r.length->(i+1) % r.length=if i+1=r.length then 0 else i+1:=by
  intro i hi;split
  .simp_all
  .exact jD (by omega)
 have hap:∀i j,i<j->j<(Geo.rot r k).length->j≠i+1->¬(i=0/\j=(Geo.rot r k).length-1)->cC (bO (Geo.rot r k) i) (bO (Geo.rot r k) j)=0:=by
  intro i j hij hj h4 h5;rw[l5]at hj h5;rw[FN hk (by omega),FN hk hj];have inj:∀x y,x<r.length->y<r.length->(x+k) % r.length=(y+k) % r.length->x=y:=by
   intro x y hx hy e;have hm:∀z,z<r.length->(z+k) % r.length=if z+k<r.length then z+k else z+k-r.length:=by
    intro z hz;split
    .exact jD ‹_›
    .exact pS (by omega) (by omega)
   rw[hm x hx,hm y hy]at e;split at e<;>split at e<;>omega
  refine ha _ _ (bw _ (by omega)) (bw _ (by omega)) ?_ ?_ ?_
  .intro e;have:=inj _ _ (by omega) hj e;omega
  .rw[<-AW _ _ _ (by omega)];intro e;have:=inj _ _ hj (bw _ (by omega)) e;rw[e1 i (by omega)]at this;grind
  .rw[<-AW _ _ _ (by omega)];intro e;have:=inj _ _ (by omega) (by grind) e;grind
 have htn:∀i,i<(Geo.rot r k).length->Geo.turn (prv (Geo.rot r k) i) (nth (Geo.rot r k) i) (nxt (Geo.rot r k) i)≠0:=by have:=D2 (Geo.rot r k) (by rw[l5];exact h3);rw[fg,bf,bf]at this;intro i hi;have:=this.2 (by grind) i (by grind);simpa using this
 exact⟨by rw[l5];exact h3,by rw[l5];exact h.most,by rw[WK (xR r k)];exact h.near,by rw[Yo (by omega) hk];exact h.area,htn,ht,hap⟩
def Vq(p:Pt)(a b:S)(l:List S)(ins:Bool):dZ p (a::b::l) ins=dZ p (b::a::l) ins:=by simp only[dZ];cases onP a p<;>cases onP b p<;>simp;grind
def Vr(p:Pt){l m:List S}(h:l.Perm m):∀ins,dZ p l ins=dZ p m ins:=by
 induction h with
 |nil=>omega
 |cons x _ ih=>intro ins;simp only[dZ,ih]
 |swap x y l=>intro ins;exact Vq p y x l ins
 |trans _ _ ih1 ih2=>grind
def zd{r:aE}(h:VR r){k:Nat}(hk:k<=r.length)(p:Pt):bP (rot r k) p=bP r p:=by unfold bP;rw[(iB _).2 h,(iB _).2 (h.rot hk),Vr p (rb r hk)]
def UV{r:aE}(h:VR r){k:Nat}(hk:k<=r.length)(v:V):dL (rot r k) v=dL r v:=by unfold dL;rw[zd h hk]
def GS{a b:aE}(hb:VR b){i j:Nat}(hj:j<=b.length)(w:Int):bK (rot a i) (rot b j) w=bK a b w:=by unfold bK;rw[fg,bf,bf];simp only[UV hb hj];exact⟨λg v hv=>g v ((xR a i).mem_iff.2 hv),λg v hv=>g v ((xR a i).mem_iff.1 hv)⟩
def Lr{a b:aE}{i j:Nat}(hi:i<=a.length)(hj:j<=b.length):dr (rot a i) (rot b j)=dr a b:=by unfold dr;rw[fg,bf,bf];have h1:=rb a hi;have h2:=rb b hj;grind
def vf(a b:aE):Prop:=dr a b=true/\bK a b 0=true/\bK b a 0=true
def vf.symm{a b:aE}(h:vf a b):vf b a:=⟨by rw[rj];exact h.1,h.2.2,h.2.1⟩
structure VP(s:Shape):Prop where
 few:s.holes.length<=6
 outer:VR s.outer
 hole:∀h∈s.holes,VR h/\bK h s.outer 2=true/\dr h s.outer=true
 corners:gH s<=80
 sep:s.holes.Pairwise vf
def VS.vp{s:Shape}(h:VS s):VP s:=by
 refine⟨h.few,h.outer,λr hr=> ?_,h.corners,?_⟩
 .obtain⟨i,hi,rfl⟩:=qi hr;exact⟨h.hole i hi,h.ins i hi,h.apo i hi⟩
 .rw[om];intro i j hi hj hij;have en:∀i (hi:i<s.holes.length),s.holes[i] =aA s.holes i:=λi hi=>by unfold aA;grind
  rw[en i hi,en j hj];exact vf.symm ⟨h.aph j i hij hj,h.out1 j i hij hj,h.out2 j i hij hj⟩
def VP.vs{s:Shape}(h:VP s):VS s:=by
 have en:∀i (hi:i<s.holes.length),s.holes[i] =aA s.holes i:=λi hi=>by unfold aA;grind
 have hs:=h.sep;rw[om]at hs;have hp:∀i k,k<i->i<s.holes.length->vf (aA s.holes i) (aA s.holes k):=λi k hk hi=>by have:=hs k i (by omega) hi hk;rw[en k (by omega),en i hi]at this;exact this.symm
 exact⟨h.few,h.outer,λi hi=>(h.hole _ (iD hi)).1,h.corners,λi hi=>(h.hole _ (iD hi)).2.1,λi hi=>(h.hole _ (iD hi)).2.2,λi k hk hi=>(hp i k hk hi).1,λi k hk hi=>(hp i k hk hi).2.1,λi k hk hi=>(hp i k hk hi).2.2⟩
structure Begun(s t:Shape)(κ:aE->Nat):Prop where
 le:∀r,κ r<=r.length
 outer:t.outer=rot s.outer (κ s.outer)
 holes:t.holes.Perm (s.holes.map λr=>rot r (κ r))
section
variable {s t:Shape} {κ:aE->Nat}
def WA{l m:List Nat}(h:l.Perm m):l.sum=m.sum:=by grind
def Begun.valid(B:Begun s t κ)(h:VS s):VS t:=by
 have h:=h.vp;refine VP.vs ⟨?_,?_,?_,?_,?_⟩
 .rw[B.holes.length_eq,db];exact h.few
 .rw[B.outer];exact h.outer.rot (B.le _)
 .intro r hr;obtain⟨q,hq,rfl⟩:=bR.1 (B.holes.mem_iff.1 hr);obtain⟨h1,h2,h3⟩:=h.hole q hq;refine⟨h1.rot (B.le _),?_,?_⟩
  .rw[B.outer,GS h.outer (B.le _)];exact h2
  .rw[B.outer,Lr (B.le _) (B.le _)];exact h3
 .have hc:=h.corners;have e:gH t=gH s:=by
   unfold gH aD;simp only[cv,Ca];rw[B.outer,l5,WA (B.holes.map _),di]
   congr 2
   apply lk;intro r _;exact l5 r _
  omega
 .refine(B.holes.pairwise_iff λh=>h.symm).2 ?_;rw[i8];refine List.Pairwise.imp_of_mem ?_ h.sep;intro a b ha hb ⟨h1,h2,h3⟩;exact⟨by rw[Lr (B.le _) (B.le _)];exact h1,by rw[GS (h.hole b hb).1 (B.le _)];exact h2,by rw[GS (h.hole a ha).1 (B.le _)];exact h3⟩
def Begun.mem_edges(B:Begun s t κ)(e:S):e∈bQ t↔e∈bQ s:=by
 unfold bQ aD;simp only[fG,bi,cQ];rw[B.outer,(rb _ (B.le _)).mem_iff];constructor
 .rintro(h|⟨r,hr,he⟩)
  .exact .inl h
  .obtain⟨q,hq,rfl⟩:=bR.1 (B.holes.mem_iff.1 hr);exact .inr ⟨q,hq,(rb _ (B.le _)).mem_iff.1 he⟩
 .rintro(h|⟨r,hr,he⟩)
  .exact .inl h
  .exact .inr ⟨_,B.holes.mem_iff.2 (by grind),(rb _ (B.le _)).mem_iff.2 he⟩
def KO{p:Pt}:∀{l:List aE},fV p l 2=2↔∀h∈l,bP h p=0
 |[] =>by simp[fV]
 |h::l=>by
  have hr:bP h p=0\/bP h p=1\/bP h p=2:=by
   unfold bP;split
   .omega
   .exact J1 p _ _
  simp only[fV,aj,forall_eq_or_imp];rw[<-KO (l:=l)];omega
def wY(s:Shape)(p:Pt):eI s p=2↔(bM s=true/\bP s.outer p=2/\∀h∈s.holes,bP h p=0):=by
 unfold eI;cases bM s with
 |false=>simp
 |true=>
  simp only[mU,lc,if_false,true_and];by_cases h:bP s.outer p=2
  .rw[if_neg (by omega),KO];simp[h]
  omega
def Begun.inside(B:Begun s t κ)(h:VS s)(p:Pt):(eI t p==2)=(eI s p==2):=by
 rw[fg,beq_iff_eq,beq_iff_eq,wY,wY,(lz _).2 h,(lz _).2 (B.valid h),B.outer,zd h.outer (B.le _)];refine and_congr_right λ_=>and_congr_right λ_=> ?_;constructor
 .intro g r hr;rw[<-zd (h.vp.hole r hr).1 (B.le r)];exact g _ (B.holes.mem_iff.2 (by grind))
 .intro g r hr;obtain⟨q,hq,rfl⟩:=bR.1 (B.holes.mem_iff.1 hr);rw[zd (h.vp.hole q hq).1 (B.le q)];exact g q hq
def Begun.chord(B:Begun s t κ)(h:VS s)(c:S):gJ t c=gJ s c:=by
 unfold gJ;rw[B.inside h]
 congr 1
 rw[fg,bf,bf];exact⟨λg e he=>g e ((B.mem_edges e).2 he),λg e he=>g e ((B.mem_edges e).1 he)⟩
end
end Geo
end
section
namespace Geo
section
variable {u:V}
def Nf(l:List S)(f g:S->Int):(l.map λe=>f e+g e).sum=(l.map f).sum+(l.map g).sum:=by
 induction l with
 |nil=>rfl
 |cons x l ih=>grind
def ZG{r:aE}(h:2<=r.length):(aH r).map S.b=rot r 1:=by
 unfold aH;rw[if_neg (by omega),di];apply tW
 .rw[l5];simp
 .intro i h1 h2;rw[l5]at h2;have:=uf (r:=r) (k:=1) (i:=i) (by omega) h2;rw[jR,qP];show nxt r i=_;unfold nxt;rw[<-this];unfold nth;grind
def MN{r:aE}(h:2<=r.length):(aH r).map S.a=r:=by
 unfold aH;rw[if_neg (by omega),di];apply tW
 .simp
 .intro i h1 h2;rw[jR,qP];show nth r i=_;unfold nth;grind
def E8{r:aE}(h:near r=true){v:V}(hv:v∈r):ao v 2000=true:=by unfold near at h;grind
def VM{r:aE}(h:near r=true){e:S}(he:e∈aH r):bG e=true:=by obtain⟨_,i,hi,rfl⟩:=mem_edges.1 he;exact jX h i hi
end
section
variable {u:V} {s:Shape}
def Zq(x y:Int)(h:¬(x.tmod 2=0/\y.tmod 2=0)):cD (cD x.natAbs y.natAbs) 2=1:=by
 have hd:cD (cD x.natAbs y.natAbs) 2∣2:=IL _ _;have hle:=Nat.le_of_dvd (by omega) hd;have h0:cD (cD x.natAbs y.natAbs) 2≠0:=λe=>by grind
 have h2:cD (cD x.natAbs y.natAbs) 2≠2:=λe=>by have g:=IM (cD x.natAbs y.natAbs) 2;rw[e]at g;exact h ⟨(AN x 2).2 (IN g (IM _ _)),(AN y 2).2 (IN g (IL _ _))⟩
 omega
def C9{c:S}(ha:ao c.a 2000=true)(hb:ao c.b 2000=true):c6 (gD c)=true:=by
 unfold ao at ha hb;simp only[bn,decide_eq_true_eq]at ha hb;unfold gD;split
 .rename_i h;unfold c6 iX ao;simp only[bn,decide_eq_true_eq,beq_iff_eq];obtain⟨k,hk⟩:=SX.2 h.1;obtain⟨l,hl⟩:=SX.2 h.2;rw[hk,hl,Int.mul_tdiv_cancel_left _ (by decide),Int.mul_tdiv_cancel_left _ (by decide)];refine⟨by grind,?_⟩;simp_all
 .rename_i h;unfold c6 iX ao;simp only[bn,decide_eq_true_eq,beq_iff_eq];exact⟨by grind,Zq _ _ h⟩
def js(h:VS s){v:V}(hv:v∈bz s):ao v 2000=true:=by obtain⟨r,hr,hv⟩:=kY.1 hv;exact E8 (h.ring hr).near hv
def Jl(h:VS s){e:S}(he:e∈bQ s):bG e=true:=by obtain⟨r,hr,he⟩:=cQ.1 he;exact VM (h.ring hr).near he
end
end Geo
end
namespace Geo
def qJ(p:Pt)(l:List S)(ins:Bool):Bool:=l.foldl (λb s=>b !=dh s p) ins
def MF{p:Pt}:∀{l:List S} {ins:Bool},dZ p l ins=2->qJ p l ins=true
 |[],ins,h=>by unfold dZ at h;unfold qJ;grind
 |s::l,ins,h=>by
  unfold dZ at h;split at h
  .omega
  .exact MF (l:=l) (ins:=ins !=dh s p) h
def MV{p:Pt}:∀{l:List S} {ins:Bool},(∀s∈l,dh s p=false)->qJ p l ins=ins
 |[],_,_=>rfl
 |s::l,ins,h=>by
  show qJ p l (ins !=dh s p)=ins;rw[MV (by grind),h s (by grind)];simp_all
def cU(l:List Bool):Bool:=l.foldr (λa b=>a !=b) false
def Lt{l m:List Bool}(h:l.Perm m):cU l=cU m:=by
 induction h with
 |nil=>rfl
 |cons x _ ih=>show(x !=cU _)=(x !=cU _);rw[ih]
 |swap x y l=>show(y !=(x !=cU l))=(x !=(y !=cU l));cases x<;>cases y<;>cases cU l<;>rfl
 |trans _ _ ih1 ih2=>rw[ih1,ih2]
def N8{p:Pt}(f:V->Bool):∀{l:List S} {ins:Bool},(∀s∈l,dh s p=(f s.a !=f s.b))->qJ p l ins=(ins !=(cU (l.map λs=>f s.a) !=cU (l.map λs=>f s.b)))
 |[],ins,_=>by cases ins<;>rfl
 |s::l,ins,h=>by
  show qJ p l (ins !=dh s p)=_;rw[N8 f (by grind),h s (by grind)];show _=(ins !=((f s.a !=cU _) !=(f s.b !=cU _)));cases ins<;>cases f s.a<;>cases f s.b<;>cases cU (l.map λs=>f s.a)<;>cases cU (l.map λs=>f s.b)<;>rfl
def Ei{r:aE}(h:2<=r.length)(f:V->Bool):cU ((aH r).map λs=>f s.a)=cU ((aH r).map λs=>f s.b):=by have h1:((aH r).map λe=>f e.b)=(rot r 1).map f:=(di (f:=S.b) (g:=f) (l:=aH r)).symm.trans (by rw[ZG h]);have h2:((aH r).map λe=>f e.a)=r.map f:=(di (f:=S.a) (g:=f) (l:=aH r)).symm.trans (by rw[MN h]);rw[h1,h2];exact Lt ((xR r 1).map f).symm
def iC{r:aE}{e:S}(he:e∈aH r):e.a∈r/\e.b∈r:=by obtain⟨_,i,hi,rfl⟩:=mem_edges.1 he;exact⟨fN.2 ⟨i,hi,rfl⟩,fN.2 ⟨_,bw _ (by omega),rfl⟩⟩
def L9(s:S)(p:Pt)(h:p.den=1):fK s p=(toV p s.a).x*(toV p s.b).y-(toV p s.a).y*(toV p s.b).x:=by unfold fK toV cross sub;grind
def CD{x y:Int}:(0<x->0<=y->0<=x*y)/\(0<x->y<0->x*y<0)/\(x<0->0<=y->x*y<=0)/\(x<0->y<0->0<x*y):=by refine⟨λh1 h2=>bm (by omega) h2,λh1 h2=>fk h1 h2,λh1 h2=>IU (by omega) h2,λh1 h2=>vj h1 h2⟩
def WW{s:S}{p:Pt}(hd:p.den=1)(ha:0<(toV p s.a).x)(hb:0<(toV p s.b).x):dh s p=false:=by unfold dh;rw[L9 s p hd];generalize (toV p s.a).x=X1 at*;generalize (toV p s.b).x=X2 at*;generalize (toV p s.a).y=Y1;generalize (toV p s.b).y=Y2;have a:= @CD X1 Y2;have b:= @CD X2 Y1;grind
def YL{s:S}{p:Pt}(hd:p.den=1)(ha:(toV p s.a).x<0)(hb:(toV p s.b).x<0):dh s p=(decide (0<=(toV p s.a).y) !=decide (0<=(toV p s.b).y)):=by unfold dh;rw[L9 s p hd];generalize (toV p s.a).x=X1 at*;generalize (toV p s.b).x=X2 at*;generalize (toV p s.a).y=Y1;generalize (toV p s.b).y=Y2;have a:= @CD X1 Y2;have b:= @CD X2 Y1;grind
def QG{s:S}{p:Pt}(h:decide (0<=(toV p s.a).y)=decide (0<=(toV p s.b).y)):dh s p=false:=by unfold dh;rw[h];simp
def U2{r:aE}(h2:2<=r.length){v:V}(h:dL r v=2):(∃a∈r,a.x<=v.x)/\(∃a∈r,v.x<=a.x)/\(∃a∈r,a.y<=v.y)/\(∃a∈r,v.y<=a.y):=by
 unfold dL bP at h;split at h
 .omega
 split at h
 .omega
 have hp:=MF h;have no:¬∀s∈aH r,dh s (fD v)=false:=λhn=>by rw[MV hn]at hp;cases hp
 have tx:∀a:V,(toV (fD v) a).x=v.x-a.x:=λa=>by unfold toV fD;simp
 have ty:∀a:V,(toV (fD v) a).y=v.y-a.y:=λa=>by unfold toV fD;simp
 refine⟨cu λhn=> ?_,cu λhn=> ?_,cu λhn=> ?_,cu λhn=> ?_⟩
 .have hl:∀a∈r,v.x<a.x:=by grind
  rw[N8 (λa=>decide (0<=(toV (fD v) a).y)) (λs hs=>YL rfl (by rw[tx];have:=hl _ (iC hs).1;omega) (by rw[tx];have:=hl _ (iC hs).2;omega))]at hp;have hx:=Ei h2 (λa=>decide (0<=(toV (fD v) a).y));grind
 .have hl:∀a∈r,a.x<v.x:=by grind
  exact no λs hs=>WW rfl (by rw[tx];have:=hl _ (iC hs).1;omega) (by rw[tx];have:=hl _ (iC hs).2;omega)
 .have hl:∀a∈r,v.y<a.y:=by grind
  exact no λs hs=>QG (by have:=hl _ (iC hs).1;have:=hl _ (iC hs).2;grind)
 .have hl:∀a∈r,a.y<v.y:=by grind
  exact no λs hs=>QG (by have:=hl _ (iC hs).1;have:=hl _ (iC hs).2;grind)
end Geo
section
namespace Geo
def ln(p q:P3):P3:=⟨p.y*q.d-p.d*q.y,p.d*q.x-p.x*q.d,p.x*q.y-p.y*q.x⟩
def aAP(u v:V):lin u v=ln (pt u) (pt v):=by unfold lin ln pt;grind
def GE(p q:P3):ev (ln p q) p=0:=by unfold ev ln;grind
def Ax(p q:P3):ev (ln p q) q=0:=by unfold ev ln;grind
def nnl{a k:Int}(hk:0<k)(h:0<=a*k):0<=a:=by
 rcases bl a 0 with g|g
 .have:=lZ g hk;omega
 .exact g
def npl{a k:Int}(hk:0<k)(h:a*k<=0):a<=0:=by
 rcases bl 0 a with g|g
 .have:=aa g hk;omega
 .exact g
def mpp{a b:Int}(ha:0<=a)(hb:0<=b):0<=a*b:=bm ha hb
def mpn{a b:Int}(ha:0<=a)(hb:b<=0):a*b<=0:=Int.mul_nonpos_of_nonneg_of_nonpos ha hb
def mnp{a b:Int}(ha:a<=0)(hb:0<=b):a*b<=0:=IU ha hb
def mnn{a b:Int}(ha:a<=0)(hb:b<=0):0<=a*b:=Int.mul_nonneg_of_nonpos_of_nonpos ha hb
def dn(p:P3)(w:V):Bool:=decide (w.y*p.d<=p.y)
def hit(p:P3)(e:S):Bool:=(dn p e.a !=dn p e.b)&&(dn p e.a==decide (0<ev (lin e.a e.b) p))
def YM(e:S)(p:Pt):dh e p=hit ⟨p.x,p.y,p.den⟩ e:=by
 unfold dh hit dn;have e1:∀w:V,decide (0<=(toV p w).y)=decide (w.y*p.den<=p.y):=λw=>decide_eq_decide.2 (by unfold toV;grind);have e2:fK e p=ev (lin e.a e.b) ⟨p.x,p.y,p.den⟩:=by unfold fK cross sub toV ev lin;grind
 grind
def fY(e:S)(p q:P3):Prop:=∃x y s t:Int,0<=x/\0<=y/\0<x+y/\0<=s/\0<=t/\cmb x (pt e.a) y (pt e.b)=cmb s p t q
section
variable {u v:V} {p q:P3}
def gc(u v:V)(p q:P3):cmb (ev (ln p q) (pt v)) (pt u) (-(ev (ln p q) (pt u))) (pt v)=cmb (-(ev (lin u v) q)) p (ev (lin u v) p) q:=by unfold cmb ev ln lin pt;grind
def H5(u v:V)(p q:P3):ev (ln p q) (pt v)*(u.y*p.d-p.y)-ev (ln p q) (pt u)*(v.y*p.d-p.y)=ev (lin u v) p*(q.y*p.d-p.y*q.d):=by unfold ev ln lin pt;grind
def H4(u v:V)(p q:P3):ev (ln p q) (pt v)*(u.y*q.d-q.y)-ev (ln p q) (pt u)*(v.y*q.d-q.y)=ev (lin u v) q*(q.y*p.d-p.y*q.d):=by unfold ev ln lin pt;grind
def aC7(u v:V)(p q:P3):ev (ln p q) (pt v)-ev (ln p q) (pt u)=ev (lin u v) p*q.d-ev (lin u v) q*p.d:=by unfold ev ln lin pt;grind
def yP(h1:0<=ev (lin u v) p)(h2:ev (lin u v) q<=0)(h3:0<=ev (ln p q) (pt v))(h4:ev (ln p q) (pt u)<=0)(h5:ev (ln p q) (pt u)<ev (ln p q) (pt v)):fY ⟨u,v⟩ p q:=
 ⟨_,_,_,_,h3,by omega,by omega,by omega,h1,gc u v p q⟩
def Bw(h1:ev (lin u v) p<=0)(h2:0<=ev (lin u v) q)(h3:ev (ln p q) (pt v)<=0)(h4:0<=ev (ln p q) (pt u))(h5:ev (ln p q) (pt v)<ev (ln p q) (pt u)):fY ⟨u,v⟩ p q:=by refine⟨-(ev (ln p q) (pt v)),ev (ln p q) (pt u),ev (lin u v) q,-(ev (lin u v) p),by omega,by omega,by omega,by omega,by omega,?_⟩;have:=gc u v p q;unfold cmb at this|-;grind
def rgt(p q:P3)(w:V):Bool:=dn q w&& !dn p w&&decide (ev (ln p q) (pt w)<0)
def fY.swap{u v:V}{p q:P3}(h:fY ⟨u,v⟩ p q):fY ⟨v,u⟩ p q:=by obtain⟨x,y,s,t,h1,h2,h3,h4,h5,h6⟩:=h;refine⟨y,x,s,t,h2,h1,by omega,h4,h5,?_⟩;rw[<-h6];unfold cmb;grind
def fY.flip{e:S}{p q:P3}(h:fY e p q):fY e q p:=by obtain⟨x,y,s,t,h1,h2,h3,h4,h5,h6⟩:=h;refine⟨x,y,t,s,h1,h2,h3,h5,h4,?_⟩;rw[h6];unfold cmb;grind
def iV(u v:V)(p:P3):ev (lin v u) p= -ev (lin u v) p:=by unfold ev lin;grind
def YJ(p:P3)(u v:V)(h:ev (lin u v) p=0->dn p u=dn p v):hit p ⟨v,u⟩=hit p ⟨u,v⟩:=by unfold hit;rw[iV];grind
def low(hp:0<p.d)(hq:0<q.d)(hm:¬fY ⟨u,v⟩ p q)(a:u.y*p.d<=p.y)(b:p.y<v.y*p.d)(c:u.y*q.d<=q.y)(d:v.y*q.d<=q.y):
  0<ev (lin u v) p↔ev (ln p q) (pt v)<0:=by
 have i1:=H5 u v p q;have i2:=H4 u v p q;have hK:0<q.y*p.d-p.y*q.d:=by
  have e:q.y*p.d-p.y*q.d=(v.y*p.d-p.y)*q.d-(v.y*q.d-q.y)*p.d:=by grind
  have:=aa (show 0<v.y*p.d-p.y by omega) hq;have:=mnp (show v.y*q.d-q.y<=0 by omega) (show 0<=p.d by omega);omega
 have m1:= @yP u v p q;have m2:= @Bw u v p q;generalize ev (lin u v) p=A at*;generalize ev (lin u v) q=B at*;generalize ev (ln p q) (pt u)=C at*;generalize ev (ln p q) (pt v)=D at*;generalize q.y*p.d-p.y*q.d=K at*;constructor
 .intro hA;refine cu λhn=> ?_;have hDn:0<=D:=by omega
  have s1:=mpn hDn (show u.y*p.d-p.y<=0 by omega);have s2:=aa hA hK;have s3:0<=(-C)*(v.y*p.d-p.y):=by rw[nV];omega
  have hCn:C<=0:=by have:=nnl (by grind) s3;omega
  have s4:=mpn hDn (show u.y*q.d-q.y<=0 by omega);have s5:=mnn hCn (show v.y*q.d-q.y<=0 by omega);have hBn:B<=0:=npl hK (by omega);grind
 .refine cu λhn=> ?_;have hAn:A<=0:=by omega
  have s1:=mnn (show D<=0 by omega) (show u.y*p.d-p.y<=0 by omega);have s2:=mnp hAn (show 0<=K by omega);have hCn:0<=C:=nnl (show 0<v.y*p.d-p.y by omega) (by omega);have s4:=mnn (show D<=0 by omega) (show u.y*q.d-q.y<=0 by omega);have s5:=mpn hCn (show v.y*q.d-q.y<=0 by omega);have hBn:0<=B:=nnl hK (by omega);grind
def SH(hp:0<p.d)(hq:0<q.d)(hm:¬fY ⟨u,v⟩ p q)(a:p.y<u.y*p.d)(b:p.y<v.y*p.d)(c:u.y*q.d<=q.y)(d:q.y<v.y*q.d):
  0<ev (lin u v) q↔ev (ln p q) (pt u)<0:=by
 have i1:=H5 u v p q;have i2:=H4 u v p q;have hK:0<q.y*p.d-p.y*q.d:=by
  have e:q.y*p.d-p.y*q.d=(u.y*p.d-p.y)*q.d-(u.y*q.d-q.y)*p.d:=by grind
  have:=aa (show 0<u.y*p.d-p.y by omega) hq;have:=mnp (show u.y*q.d-q.y<=0 by omega) (show 0<=p.d by omega);omega
 have m1:= @yP u v p q;have m2:= @Bw u v p q;generalize ev (lin u v) p=A at*;generalize ev (lin u v) q=B at*;generalize ev (ln p q) (pt u)=C at*;generalize ev (ln p q) (pt v)=D at*;generalize q.y*p.d-p.y*q.d=K at*;constructor
 .intro hB;refine cu λhn=> ?_;have hC:0<=C:=by omega
  have s1:=aa hB hK;have s2:=mpp hC (show 0<=v.y*q.d-q.y by omega);have hD:D<0:=by
   rcases bl D 0 with g|g
   .exact g
   .have:=mpn g (show u.y*q.d-q.y<=0 by omega);omega
  have s4:=mnp (show D<=0 by omega) (show 0<=u.y*p.d-p.y by omega);have s5:=mpp hC (show 0<=v.y*p.d-p.y by omega);have hA:A<=0:=npl hK (by omega);grind
 .intro hC;refine cu λhn=> ?_;have hB:B<=0:=by omega
  have s1:=mnp hB (show 0<=K by omega);have s3:=lZ hC (show 0<v.y*q.d-q.y by omega);have hD:0<D:=by
   rcases bl 0 D with g|g
   .exact g
   .have:=mnn g (show u.y*q.d-q.y<=0 by omega);omega
  have s4:=mpp (show 0<=D by omega) (show 0<=u.y*p.d-p.y by omega);have s5:=mnp (show C<=0 by omega) (show 0<=v.y*p.d-p.y by omega);have hA:0<=A:=nnl hK (by omega);grind
def mid(hp:0<p.d)(hq:0<q.d)(hm:¬fY ⟨u,v⟩ p q)(a:p.y<u.y*p.d)(b:p.y<v.y*p.d)(c:u.y*q.d<=q.y)(d:v.y*q.d<=q.y):
  ¬(ev (ln p q) (pt u)<0/\0<=ev (ln p q) (pt v)):=by
 rintro⟨hC,hD⟩;have i1:=H5 u v p q;have i2:=H4 u v p q;have hK:0<q.y*p.d-p.y*q.d:=by
  have e:q.y*p.d-p.y*q.d=(u.y*p.d-p.y)*q.d-(u.y*q.d-q.y)*p.d:=by grind
  have:=aa (show 0<u.y*p.d-p.y by omega) hq;have:=mnp (show u.y*q.d-q.y<=0 by omega) (show 0<=p.d by omega);omega
 have m1:= @yP u v p q;generalize ev (lin u v) p=A at*;generalize ev (lin u v) q=B at*;generalize ev (ln p q) (pt u)=C at*;have s1:=mpp hD (show 0<=u.y*p.d-p.y by omega);have s2:=mnp (show C<=0 by omega) (show 0<=v.y*p.d-p.y by omega);have hA:0<=A:=nnl hK (by omega);have s3:=mpn hD (show u.y*q.d-q.y<=0 by omega);have s4:=mnn (show C<=0 by omega) (show v.y*q.d-q.y<=0 by omega);have hB:B<=0:=npl hK (by omega);grind
def QU(hp:0<p.d)(hq:0<q.d)(hm:¬fY ⟨u,v⟩ p q)(a:u.y*p.d<=p.y)(b:p.y<v.y*p.d)(c:u.y*q.d<=q.y)(d:q.y<v.y*q.d):
  (0<ev (lin u v) p↔0<ev (lin u v) q):=by
 have j1:ev (lin u v) p*(q.y-u.y*q.d)-ev (lin u v) q*(p.y-u.y*p.d)= -(ev (ln p q) (pt u))*(v.y-u.y):=by unfold ev ln lin pt;grind
 have j2:ev (lin u v) p*(q.y-v.y*q.d)-ev (lin u v) q*(p.y-v.y*p.d)= -(ev (ln p q) (pt v))*(v.y-u.y):=by unfold ev ln lin pt;grind
 have hv:0<v.y-u.y:=by
  have h1:0<(v.y-u.y)*p.d:=by rw[Int.sub_mul];omega
  rcases bl 0 (v.y-u.y)with g|g
  .exact g
  .have:=mnp g (show 0<=p.d by omega);omega
 have m1:= @yP u v p q;have m2:= @Bw u v p q;generalize ev (lin u v) p=A at*;generalize ev (lin u v) q=B at*;generalize ev (ln p q) (pt u)=C at*;generalize ev (ln p q) (pt v)=D at*;constructor
 .intro hA;refine cu λhn=> ?_;have hB:B<=0:=by omega
  have s1:=mpp (show 0<=A by omega) (show 0<=q.y-u.y*q.d by omega);have s2:=mnp hB (show 0<=p.y-u.y*p.d by omega);have hC:0<= -C:=nnl hv (by omega);have s3:=fk hA (show q.y-v.y*q.d<0 by omega);have s4:=mnn hB (show p.y-v.y*p.d<=0 by omega);have hD:0<=D:=nnl hv (by grind);grind
 .intro hB;refine cu λhn=> ?_;have hA:A<=0:=by omega
  have s1:=mnp hA (show 0<=q.y-u.y*q.d by omega);have s2:=mpp (show 0<=B by omega) (show 0<=p.y-u.y*p.d by omega);have hC:0<=C:=nnl hv (by grind);have s3:=mnn hA (show q.y-v.y*q.d<=0 by omega);have s4:=fk hB (show p.y-v.y*p.d<0 by omega);have hD:0<= -D:=nnl hv (by omega);grind
def OI{r:P3}(hr:0<r.d)(h0:ev (lin u v) r=0)(h:dn r u≠dn r v):∃x y k:Int,0<=x/\0<=y/\0<x+y/\0<=k/\cmb x (pt u) y (pt v)=⟨k*r.x,k*r.y,k*r.d⟩:=by
 unfold dn at h;have hk:∀{a b:Int},a*r.d<b*r.d->0<=b-a:=λ{a b} g=>by have:=nnl (a:=b-a) hr (by grind);exact this
 unfold ev lin at h0;by_cases h1:u.y*r.d<=r.y<;>by_cases h2:v.y*r.d<=r.y
 .grind
 .refine⟨v.y*r.d-r.y,r.y-u.y*r.d,v.y-u.y,by omega,by omega,by omega,hk (by omega),?_⟩;unfold cmb pt;grind
 .refine⟨r.y-v.y*r.d,u.y*r.d-r.y,u.y-v.y,by omega,by omega,by omega,hk (by omega),?_⟩;unfold cmb pt;grind
 grind
def YK(hp:0<p.d)(hq:0<q.d)(hy:p.y*q.d<=q.y*p.d)(hm:¬fY ⟨u,v⟩ p q):(hit p ⟨u,v⟩ !=hit q ⟨u,v⟩)=(rgt p q u !=rgt p q v):=by
 have mono:∀w:V,dn p w=true->dn q w=true:=λw h=>by
  unfold dn at h|-;rw[decide_eq_true_eq]at h|-;have h1:=lg h (show 0<=q.d by omega);have h2:(w.y*q.d)*p.d<=q.y*p.d:=by rw[show w.y*q.d*p.d=w.y*p.d*q.d by grind];omega
  simp_all
 have hm':¬fY ⟨v,u⟩ p q:=λh=>hm h.swap;have dT:∀{r:P3} {w:V},dn r w=true->w.y*r.d<=r.y:=λh=>of_decide_eq_true h;have dF:∀{r:P3} {w:V},dn r w=false->r.y<w.y*r.d:=λh=>ko.1 (of_decide_eq_false h);have sw:∀r:P3,(0<ev (lin v u) r↔ev (lin u v) r<0):=λr=>by rw[iV];omega
 have nz:∀r:P3,(r=p\/r=q)->dn r u≠dn r v->ev (lin u v) r≠0:=λr hr hne h0=>by
  obtain⟨x,y,k,h1,h2,h3,h4,h5⟩:=OI (by grind) h0 hne;rcases hr with rfl|rfl
  .exact hm ⟨x,y,k,0,h1,h2,h3,h4,i9 _,by rw[h5];unfold cmb;simp⟩
  .exact hm ⟨x,y,0,k,h1,h2,h3,i9 _,h4,by rw[h5];unfold cmb;simp⟩
 unfold hit rgt;cases a:dn p u<;>cases b:dn p v<;>cases c:dn q u<;>cases d:dn q v<;>simp only[IP,Bool.and_false,kC,qO,bne_self_eq_false,mU,rT,rS,vq,vu];all_goals have np:=nz p (.inl rfl)
 all_goals have nq:=nz q (.inr rfl)
 all_goals rw[a,b]at np
 all_goals rw[c,d]at nq
 all_goals have sp:=sw p
 all_goals have sq:=sw q
 case false.false.false.true=>
  have h:=SH hp hq hm' (dF b) (dF a) (dT d) (dF c);grind
 case false.false.true.false=>
  have h:=SH hp hq hm (dF a) (dF b) (dT c) (dF d);grind
 case false.false.true.true=>
  have h:=mid hp hq hm (dF a) (dF b) (dT c) (dT d);have h':=mid hp hq hm' (dF b) (dF a) (dT d) (dT c);grind
 case false.true.false.true=>
  have h:=QU hp hq hm' (dT b) (dF a) (dT d) (dF c);grind
 case true.false.true.false=>
  have h:=QU hp hq hm (dT a) (dF b) (dT c) (dF d);grind
 case false.true.true.true=>
  have h:=low hp hq hm' (dT b) (dF a) (dT d) (dT c);grind
 case true.false.true.true=>
  have h:=low hp hq hm (dT a) (dF b) (dT c) (dT d);grind
 case false.true.false.false=>grind
 case false.true.true.false=>grind
 case true.false.false.false=>grind
 case true.false.false.true=>grind
 case true.true.false.true=>grind
 grind
def LV{e:S}(hp:0<p.d)(hq:0<q.d)(hy:p.y*q.d<=q.y*p.d)(hm:¬fY e p q):(hit p e !=hit q e)=(rgt p q e.a !=rgt p q e.b):=YK hp hq hy hm
end
def br(r:aE)(p:P3):Bool:=cU ((aH r).map (hit p))
def uZ(f g:S->Bool):∀l:List S,cU (l.map λe=>f e !=g e)=(cU (l.map f) !=cU (l.map g))
 |[] =>rfl
 |e::l=>by
  show((f e !=g e) !=cU (l.map λe=>f e !=g e))=((f e !=cU (l.map f)) !=(g e !=cU (l.map g)));rw[uZ f g l];cases f e<;>cases g e<;>cases cU (l.map f)<;>cases cU (l.map g)<;>rfl
def sH{r:aE}(h2:2<=r.length){p q:P3}(hp:0<p.d)(hq:0<q.d)(hm:∀e∈aH r,¬fY e p q):br r p=br r q:=by
 have key:∀{p q:P3},0<p.d->0<q.d->p.y*q.d<=q.y*p.d->(∀e∈aH r,¬fY e p q)->br r p=br r q:=by
  intro p q hp hq hy hm;have h1:cU ((aH r).map λe=>hit p e !=hit q e)=cU ((aH r).map λe=>rgt p q e.a !=rgt p q e.b):=by
   congr 1
   apply lk;intro e he;exact LV hp hq hy (hm e he)
  rw[uZ,uZ,Ei h2]at h1;unfold br;generalize cU ((aH r).map (hit p))=x at*;generalize cU ((aH r).map (hit q))=y at*;cases x<;>cases y<;>simp at h1|-
 rcases vm (p.y*q.d) (q.y*p.d)with h|h
 .grind
 .exact(key hq hp h λe he hm2=>hm e he hm2.flip).symm
def MW(p:Pt):∀(l:List S) (ins:Bool),qJ p l ins=(ins !=cU (l.map λe=>dh e p))
 |[],ins=>by cases ins<;>rfl
 |e::l,ins=>by
  show qJ p l (ins !=dh e p)=(ins !=(dh e p !=cU (l.map λe=>dh e p)));rw[MW p l];simp_all
def Nr{p:Pt}:∀{l:List S} {ins:Bool},(∀e∈l,onP e p=false)->dZ p l ins=if qJ p l ins then 2 else 0
 |[],ins,_=>rfl
 |e::l,ins,h=>by
  unfold dZ;rw[h e (by grind)];exact Nr (l:=l) (ins:=ins !=dh e p) (by grind)
def p3(p:Pt):P3:=⟨p.x,p.y,p.den⟩
def qZ{r:aE}(hv:VR r){p:Pt}(hp:c6 p=true)(ho:∀e∈aH r,onP e p=false):bP r p=if br r (p3 p)then 2 else 0:=by unfold bP;rw[(iB _).2 hv,hp];show dZ p (aH r) false=_;rw[Nr ho,MW];unfold br p3;simp only[YM,rS]
end Geo
end
namespace Geo
def q7(h p:P3):ev ⟨-h.x,-h.y,-h.d⟩ p= -ev h p:=by unfold ev;grind
def BZ(k c:Int)(h p:P3):ev ⟨k*h.x,k*h.y,k*h.d+c⟩ p=k*ev h p+c*p.d:=by unfold ev;grind
def ME{u v:V}{p q:P3}(hp:0<p.d)(hq:0<q.d)(h:P3)(hu:ev h (pt u)=0)(hv:ev h (pt v)=0)(h1:ev h p<0)(h2:ev h q<0):∃f:P3,ev f p<0/\ev f q<0/\0<ev f (pt u)/\0<ev f (pt v):=by
 refine⟨⟨(p.d+q.d)*h.x,(p.d+q.d)*h.y,(p.d+q.d)*h.d+1⟩,?_,?_,?_,?_⟩<;>rw[BZ]
 .have:=dG (show ev h p<= -1 by omega) (show 0<=p.d+q.d by omega);omega
 .have:=dG (show ev h q<= -1 by omega) (show 0<=p.d+q.d by omega);omega
 .rw[hu];show 0<(p.d+q.d)*0+1*1;omega
 .rw[hv];show 0<(p.d+q.d)*0+1*1;omega
def Np{u v:V}{p q:P3}(hp:0<p.d)(hq:0<q.d)(h:P3)(h1:ev h p=0)(h2:ev h q=0)(hu:0<ev h (pt u))(hv:0<ev h (pt v)):∃f:P3,ev f p<0/\ev f q<0/\0<ev f (pt u)/\0<ev f (pt v):=by
 refine⟨⟨2*h.x,2*h.y,2*h.d+ -1⟩,?_,?_,?_,?_⟩<;>rw[BZ]
 .omega
 .omega
 .show 0<2*ev h (pt u)+ -1*1;omega
 .show 0<2*ev h (pt v)+ -1*1;omega
def aW(u v:V):P3:=⟨v.x-u.x,v.y-u.y,-((v.x-u.x)*u.x+(v.y-u.y)*u.y)⟩
def bj(u v:V):Int:=(v.x-u.x)*(v.x-u.x)+(v.y-u.y)*(v.y-u.y)
def kK(u v:V):ev (aW u v) (pt u)=0:=by unfold ev aW pt;grind
def pZ(u v:V):ev (aW u v) (pt v)=bj u v:=by unfold ev aW pt bj;grind
def nf(x:Int):0<=x*x:=by
 rcases vm 0 x with h|h
 .exact mpp h h
 .exact mnn h h
def BJ{x:Int}(h:x≠0):0<x*x:=by
 rcases kU h with g|g
 .exact vj g g
 .exact aa g g
def iW{u v:V}(h:u≠v):0<bj u v:=by
 unfold bj;have h1:=nf (v.x-u.x);have h2:=nf (v.y-u.y);by_cases hx:v.x-u.x=0
 .by_cases hy:v.y-u.y=0
  .exfalso;cases u;cases v;grind
  .have:=BJ hy;omega
 .have:=BJ hx;omega
def ke{u v:V}{r:P3}(h:ev (lin u v) r=0):cmb (bj u v*r.d-ev (aW u v) r) (pt u) (ev (aW u v) r) (pt v)=⟨bj u v*r.x,bj u v*r.y,bj u v*r.d⟩:=by unfold ev lin at h;unfold cmb ev aW pt bj;grind
def sep{u v:V}{p q:P3}(hp:0<p.d)(hq:0<q.d)(hne:u≠v)(hm:¬fY ⟨u,v⟩ p q):∃f:P3,ev f p<0/\ev f q<0/\0<ev f (pt u)/\0<ev f (pt v):=by
 have hd:=aC7 u v p q;have m1:= @yP u v p q;have m2:= @Bw u v p q;have a1:=bq u v;have a2:=cH u v;have b1:=GE p q;have b2:=Ax p q;have L:=iW hne;have T1:=kK u v;have T2:=pZ u v;by_cases c1:0<ev (lin u v) p/\0<ev (lin u v) q
 .exact ME hp hq ⟨-(lin u v).x,-(lin u v).y,-(lin u v).d⟩ (by rw[q7];omega) (by rw[q7];omega) (by rw[q7];omega) (by rw[q7];omega)
 by_cases c2:ev (lin u v) p<0/\ev (lin u v) q<0
 .exact ME hp hq (lin u v) a1 a2 c2.1 c2.2
 by_cases c3:0<ev (ln p q) (pt u)/\0<ev (ln p q) (pt v)
 .exact Np hp hq (ln p q) b1 b2 c3.1 c3.2
 by_cases c4:ev (ln p q) (pt u)<0/\ev (ln p q) (pt v)<0
 .exact Np hp hq ⟨-(ln p q).x,-(ln p q).y,-(ln p q).d⟩ (by rw[q7];omega) (by rw[q7];omega) (by rw[q7];omega) (by rw[q7];omega)
 have hz:ev (lin u v) p=0/\ev (lin u v) q=0:=by
  have q1:ev (lin u v) p=0\/0<ev (lin u v) p\/ev (lin u v) p<0:=by omega
  have q2:ev (lin u v) q=0\/0<ev (lin u v) q\/ev (lin u v) q<0:=by omega
  have e1:∀{x k:Int},0<k->0<x->0<x*k:=λh1 h2=>aa h2 h1;have e2:∀{x k:Int},0<k->x<0->x*k<0:=λh1 h2=>lZ h2 h1;have p1:= @e1 (ev (lin u v) p) q.d hq;have p2:= @e2 (ev (lin u v) p) q.d hq;have p3:= @e1 (ev (lin u v) q) p.d hp;have p4:= @e2 (ev (lin u v) q) p.d hp;have z1:ev (lin u v) p=0->ev (lin u v) p*q.d=0:=λh=>by grind
  have z2:ev (lin u v) q=0->ev (lin u v) q*p.d=0:=λh=>by grind
  have m1:0<=ev (lin u v) p->ev (lin u v) q<=0->0<=ev (ln p q) (pt v)->ev (ln p q) (pt u)<=0->¬ev (ln p q) (pt u)<ev (ln p q) (pt v):=by grind
  have m2:ev (lin u v) p<=0->0<=ev (lin u v) q->ev (ln p q) (pt v)<=0->0<=ev (ln p q) (pt u)->¬ev (ln p q) (pt v)<ev (ln p q) (pt u):=by grind
  generalize ev (lin u v) p*q.d=AQ at*;generalize ev (lin u v) q*p.d=BP at*;rcases q1 with h|h|h<;>rcases q2 with g|g|g<;>simp only[h,g,true_implies]at p1 p2 p3 p4 z1 z2<;>omega
 have op:=ke hz.1;have oq:=ke hz.2;generalize hTp:ev (aW u v) p=Tp at*;generalize hTq:ev (aW u v) q=Tq at*;generalize bj u v=K at*;have np:Tp<0\/K*p.d<Tp:=by refine cu λhn=> ?_;have hKp:=aa L hp;refine hm ⟨_,_,K,0,show 0<=K*p.d-Tp by omega,show 0<=Tp by omega,by omega,by omega,by omega,?_⟩;rw[op];unfold cmb;simp only[P3.mk.injEq];refine⟨?_,?_,?_⟩<;>omega
 have nq:Tq<0\/K*q.d<Tq:=by refine cu λhn=> ?_;have hKq:=aa L hq;refine hm ⟨_,_,0,K,show 0<=K*q.d-Tq by omega,show 0<=Tq by omega,by omega,by omega,by omega,?_⟩;rw[oq];unfold cmb;simp only[P3.mk.injEq];refine⟨?_,?_,?_⟩<;>omega
 have hKp:=aa L hp;have hKq:=aa L hq;have nu:¬(Tp<0/\0<Tq)/\¬(0<Tp/\Tq<0):=by
  unfold cmb pt at op oq;simp only[P3.mk.injEq]at op oq;refine⟨λh=> ?_,λh=> ?_⟩
  .have x1:=aa h.2 hKp;have x2:=lZ h.1 hKq;refine hm ⟨Tq*(K*p.d)-Tp*(K*q.d),0,K*Tq,-(K*Tp),by omega,by omega,by omega,mpp (by omega) (by omega),by rw[<-lh];exact mpp (by omega) (by omega),?_⟩;unfold cmb pt;grind
  .have x1:=aa h.1 hKq;have x2:=lZ h.2 hKp;refine hm ⟨Tp*(K*q.d)-Tq*(K*p.d),0,-(K*Tq),K*Tp,by omega,by omega,by omega,by rw[<-lh];exact mpp (by omega) (by omega),mpp (by omega) (by omega),?_⟩;unfold cmb pt;grind
 have up:0<(p.d+q.d)*K:=by grind
 by_cases hb:Tp<0
 .refine⟨⟨(p.d+q.d)*(aW u v).x,(p.d+q.d)*(aW u v).y,(p.d+q.d)*(aW u v).d+1⟩,?_,?_,?_,?_⟩<;>rw[BZ]
  .rw[hTp];have:=dG (show Tp<= -1 by omega) (show 0<=p.d+q.d by omega);omega
  .rw[hTq];have:=dG (show Tq<= -1 by omega) (show 0<=p.d+q.d by omega);omega
  .rw[T1];show 0<(p.d+q.d)*0+1*1;omega
  .rw[T2];show 0<(p.d+q.d)*K+1*1;omega
 .have e1:∀r T:Int,(-(p.d+q.d))*T+((p.d+q.d)*K+1)*r=(p.d+q.d)*(K*r-T)+r:=by grind
  refine⟨⟨-(p.d+q.d)*(aW u v).x,-(p.d+q.d)*(aW u v).y,-(p.d+q.d)*(aW u v).d+((p.d+q.d)*K+1)⟩,?_,?_,?_,?_⟩<;>rw[BZ]
  .rw[hTp,e1];have:=dG (show K*p.d-Tp<= -1 by omega) (show 0<=p.d+q.d by omega);omega
  .rw[hTq,e1];have:=dG (show K*q.d-Tq<= -1 by omega) (show 0<=p.d+q.d by omega);omega
  .rw[T1,e1];show 0<(p.d+q.d)*(K*1-0)+1;grind
  .rw[T2,e1];show 0<(p.d+q.d)*(K*1-K)+1;omega
def fZ(F:List P3)(e:S):Prop:=∀x y:Int,0<=x->0<=y->0<x+y->∃f∈F,x*ev f (pt e.a)+y*ev f (pt e.b)<=0
def In(F:List P3)(q:P3):Prop:=0<q.d/\∀f∈F,0<ev f q
def fZ.no{F:List P3}{e:S}(h:fZ F e){p q:P3}(hp:In F p)(hq:In F q):¬fY e p q:=by
 rintro⟨x,y,s,t,h1,h2,h3,h4,h5,h6⟩;obtain⟨f,hf,g⟩:=h x y h1 h2 h3;have e1:=congrArg (ev f) h6;rw[aX,aX]at e1;have e2:=congrArg P3.d h6;simp only[cmb,pt]at e2;have g1:=mpp h4 (show 0<=ev f p by have:=hp.2 f hf;omega);have g2:=mpp h5 (show 0<=ev f q by have:=hq.2 f hf;omega);rcases bl 0 s with k|k
 .have:=aa k (hp.2 f hf);omega
 .rcases bl 0 t with k2|k2
  .have:=aa k2 (hq.2 f hf);omega
  grind
def fZ.swap{F:List P3}{e:S}(h:fZ F e):fZ F ⟨e.b,e.a⟩:=λx y h1 h2 h3=>by obtain⟨f,hf,g⟩:=h y x h2 h1 (by omega);grind
def mG(a b:V)(N:Int):P3:=⟨(aW a b).x-N*(lin a b).x,(aW a b).y-N*(lin a b).y,(aW a b).d-N*(lin a b).d⟩
def thin(a b:V)(N:Int):List P3:=[lin a b,mG a b N,⟨(aW b a).x-N*(lin a b).x,(aW b a).y-N*(lin a b).y,(aW b a).d-N*(lin a b).d⟩]
def k9(a b:V)(N:Int)(q:P3):ev (mG a b N) q=ev (aW a b) q-N*ev (lin a b) q:=by unfold ev mG;grind
def n8(a b:V)(N:Int)(q:P3):ev ⟨(aW b a).x-N*(lin a b).x,(aW b a).y-N*(lin a b).y,(aW b a).d-N*(lin a b).d⟩ q=ev (aW b a) q-N*ev (lin a b) q:=by unfold ev;grind
def lH{a b:V}{N:Int}{q:P3}:In (thin a b N) q↔0<q.d/\0<ev (lin a b) q/\N*ev (lin a b) q<ev (aW a b) q/\N*ev (lin a b) q<ev (aW b a) q:=by unfold In thin;simp only[aj,cG,or_false,forall_eq_or_imp,forall_eq,k9,n8];omega
def Off(a b:V)(e:S):Prop:=e.a≠e.b/\(¬fY e (pt a) (pt b)\/(e.a=a/\(ev (lin a b) (pt e.b)≠0\/ev (aW a b) (pt e.b)<0))\/(e.b=a/\(ev (lin a b) (pt e.a)≠0\/ev (aW a b) (pt e.a)<0))\/
 (e.a=b/\(ev (lin a b) (pt e.b)≠0\/ev (aW b a) (pt e.b)<0))\/(e.b=b/\(ev (lin a b) (pt e.a)≠0\/ev (aW b a) (pt e.a)<0)))
def frame(a b:V)(f q:P3):bj a b*ev f q=ev (aW b a) q*ev f (pt a)+ev (aW a b) q*ev f (pt b)+ev (lin a b) q*(f.y*(b.x-a.x)-f.x*(b.y-a.y)):=by unfold ev aW bj lin pt;grind
def GD{F:List P3}{e:S}(h:∀x y:Int,0<=x->0<=y->0<x+y->(∀f∈F,0<x*ev f (pt e.a)+y*ev f (pt e.b))->False):fZ F e:=λx y h1 h2 h3=>
 by grind
def XP{a b:V}(hne:a≠b){e:S}(he:e.a≠e.b)(h:¬fY e (pt a) (pt b)):∃N0:Int,∀N,N0<=N->fZ (thin a b N) e:=by
 obtain⟨f,f1,f2,f3,f4⟩:=sep (u:=e.a) (v:=e.b) (p:=pt a) (q:=pt b) (show(0:Int)<1 by decide) (show(0:Int)<1 by decide) he h;refine⟨(f.y*(b.x-a.x)-f.x*(b.y-a.y)).natAbs,λN hN=>GD λx y h1 h2 h3 hq=> ?_⟩;have hL:=iW hne;have e1:∀g:P3,x*ev g (pt e.a)+y*ev g (pt e.b)=ev g (cmb x (pt e.a) y (pt e.b)):=λg=>(aX _ _ _ _ _).symm;have hfq:0<ev f (cmb x (pt e.a) y (pt e.b)):=by
  rw[<-e1];have g1:=mpp h1 (show 0<=ev f (pt e.a) by omega);have g2:=mpp h2 (show 0<=ev f (pt e.b) by omega);rcases bl 0 x with k|k
  .have:=aa k f3;omega
  .have:=aa (show 0<y by omega) f4;omega
 have hT:In (thin a b N) (cmb x (pt e.a) y (pt e.b)):=⟨by simp only[cmb,pt];omega,by grind⟩;obtain⟨_,t1,t2,t3⟩:=lH.1 hT;have hF:=frame a b f (cmb x (pt e.a) y (pt e.b));generalize ev (lin a b) (cmb x (pt e.a) y (pt e.b))=X at*;generalize ev (aW a b) (cmb x (pt e.a) y (pt e.b))=T at*;generalize ev (aW b a) (cmb x (pt e.a) y (pt e.b))=T' at*;generalize f.y*(b.x-a.x)-f.x*(b.y-a.y)=c at*;have p1:=aa hL hfq;have hN0:0<=N*X:=mpp (by omega) (by omega);have p2:T'*ev f (pt a)<= -T':=by have:=dG (show ev f (pt a)<= -1 by omega) (show 0<=T' by omega);omega
 have p3:T*ev f (pt b)<= -T:=by have:=dG (show ev f (pt b)<= -1 by omega) (show 0<=T by omega);omega
 have p4:X*c<=N*X:=by rw[eS N];exact dG (by omega) (by omega)
 omega
def GZ{a b:V}{e:S}(h:e.a=a):∃N0:Int,∀N,N0<=N->fZ (thin a b N) e:=by
 refine⟨(ev (aW a b) (pt e.b)).natAbs,λN hN x y h1 h2 h3=> ?_⟩;rw[h];by_cases hX:0<y*ev (lin a b) (pt e.b)
 .refine⟨mG a b N,by simp[thin],?_⟩;have hv:0<ev (lin a b) (pt e.b):=by
   rcases bl 0 (ev (lin a b) (pt e.b))with k|k
   .exact k
   .have:=mpn h2 k;omega
  rw[k9,k9,kK,bq];have k1:=dG (show 1<=ev (lin a b) (pt e.b) by omega) (show 0<=N by omega);have k2:=mpn h2 (show ev (aW a b) (pt e.b)-N*ev (lin a b) (pt e.b)<=0 by omega);omega
 .refine⟨lin a b,by simp[thin],?_⟩;rw[bq];omega
def GY{a b:V}{e:S}(h:e.a=b):∃N0:Int,∀N,N0<=N->fZ (thin a b N) e:=by
 refine⟨(ev (aW b a) (pt e.b)).natAbs,λN hN x y h1 h2 h3=> ?_⟩;rw[h];by_cases hX:0<y*ev (lin a b) (pt e.b)
 .refine⟨⟨(aW b a).x-N*(lin a b).x,(aW b a).y-N*(lin a b).y,(aW b a).d-N*(lin a b).d⟩,by simp[thin],?_⟩;have hv:0<ev (lin a b) (pt e.b):=by
   rcases bl 0 (ev (lin a b) (pt e.b))with k|k
   .exact k
   .have:=mpn h2 k;omega
  rw[n8,n8,kK,cH];have k1:=dG (show 1<=ev (lin a b) (pt e.b) by omega) (show 0<=N by omega);have k2:=mpn h2 (show ev (aW b a) (pt e.b)-N*ev (lin a b) (pt e.b)<=0 by omega);omega
 .refine⟨lin a b,by simp[thin],?_⟩;rw[cH];omega
def XQ{a b:V}(hne:a≠b){e:S}(h:Off a b e\/(e.a=a/\e.b=b)\/(e.a=b/\e.b=a)):∃N0:Int,∀N,N0<=N->fZ (thin a b N) e:=by
 have sw:(∃N0:Int,∀N,N0<=N->fZ (thin a b N) ⟨e.b,e.a⟩)->∃N0:Int,∀N,N0<=N->fZ (thin a b N) e:=λ⟨N0,h⟩=>⟨N0,λN hN=>(h N hN).swap⟩;rcases h with⟨h0,h|h|h|h|h⟩|h|h
 .exact XP hne h0 h
 .exact GZ h.1
 .exact sw (GZ (e:=⟨e.b,e.a⟩) h.1)
 .exact GY h.1
 .exact sw (GY (e:=⟨e.b,e.a⟩) h.1)
 .exact GZ h.1
 .exact GY h.1
def L5{a b:V}(hne:a≠b):∀{l:List S},(∀e∈l,Off a b e\/(e.a=a/\e.b=b)\/(e.a=b/\e.b=a))->∃N0:Int,1<=N0/\∀N,N0<=N->∀e∈l,fZ (thin a b N) e
 |[],_=>⟨1,by omega,by grind⟩
 |e::l,h=>by
  obtain⟨N0,h0,h1⟩:=L5 hne (l:=l) (by grind);obtain⟨N1,h2⟩:=XQ hne (h e bo);refine⟨max N0 N1,by omega,λN hN e' he=> ?_⟩;grind
def ce(a b:V)(M x y:Int):P3:=⟨M*(a.x+b.x)+x,M*(a.y+b.y)+y,2*M⟩
def Du(a b:V)(M x y:Int):ev (lin a b) (ce a b M x y)=(b.x-a.x)*y-(b.y-a.y)*x:=by unfold ev lin ce;grind
def Yi(a b:V)(M x y:Int):ev (aW a b) (ce a b M x y)=M*bj a b+((b.x-a.x)*x+(b.y-a.y)*y):=by unfold ev aW ce bj;grind
def Yh(a b:V)(M x y:Int):ev (aW b a) (ce a b M x y)=M*bj a b-((b.x-a.x)*x+(b.y-a.y)*y):=by unfold ev aW ce bj;grind
def AC(a b:V):bj b a=bj a b:=by unfold bj;grind
def Dc(a b:V)(M x y:Int):ce b a M x y=ce a b M x y:=by unfold ce;grind
def ni{a b:V}(hne:a≠b){x y:Int}(h:0<(b.x-a.x)*y-(b.y-a.y)*x)(N:Int):∃M0:Int,1<=M0/\∀M,M0<=M->In (thin a b N) (ce a b M x y):=by have hL:=iW hne;refine⟨1+(N*((b.x-a.x)*y-(b.y-a.y)*x)).natAbs+((b.x-a.x)*x+(b.y-a.y)*y).natAbs,by omega,λM hM=> ?_⟩;rw[lH,Du,Yi,Yh];have:=dG (show 1<=bj a b by omega) (show 0<=M by omega);refine⟨by show 0<2*M;omega,h,?_,?_⟩<;>omega
def NR{g:S->Bool}{e:S}:∀{l:List S},l.Nodup->e∈l->g e=true->(∀e'∈l,e'≠e->g e'=false)->cU (l.map g)=true
 |[],_,h,_,_=>by cases h
 |x::l,hn,h,h1,h2=>by
  rw[List.nodup_cons]at hn;have h0:∀{l:List S},(∀e'∈l,g e'=false)->cU (l.map g)=false:=by
   intro l;induction l with
   |nil=>intro _;rfl
   |cons y l ih=>
    intro hh;show(g y !=cU (l.map g))=false;grind
  show(g x !=cU (l.map g))=true;rcases aj.1 h with rfl|h
  .grind
  .rw[h2 x (by grind) (by grind),NR hn.2 h h1 (by grind)];rfl
def Wm{a b:V}{N:Int}(hN:0<=N){e:S}(ho:Off a b e)(h1:fZ (thin a b N) e)(h2:fZ (thin b a N) e){p q:P3}(hp:In (thin b a N) p)(hq:In (thin a b N) q):¬fY e p q:=by
 rintro⟨x,y,s,t,hx,hy,hxy,hs,ht,he⟩;obtain⟨p0,p1,p2,p3⟩:=lH.1 hp;obtain⟨q0,q1,q2,q3⟩:=lH.1 hq;have lsw:∀r:P3,ev (lin b a) r= -ev (lin a b) r:=λr=>iV a b r;rw[lsw]at p1 p2 p3;have ed:=congrArg P3.d he;simp only[cmb,pt]at ed;have eX:=congrArg (ev (lin a b)) he;have eA:=congrArg (ev (aW a b)) he;have eB:=congrArg (ev (aW b a)) he;rw[aX,aX]at eX eA eB;have hst:0<s\/0<t:=by
  refine cu λhn=> ?_;have:s=0:=by omega
  have:t=0:=by omega
  subst s t;omega
 have kpos:∀{u v:Int},0<u->0<v->0<s*u+t*v:=λ{u v} hu hv=>by
  have g1:=mpp hs (show 0<=u by omega);have g2:=mpp ht (show 0<=v by omega);rcases hst with k|k
  .have:=aa k hu;omega
  .have:=aa k hv;omega
 have nX:N*(-(ev (lin a b) p))= -(N*ev (lin a b) p):=by rw[lh]
 have nn:0<=N* -(ev (lin a b) p):=mpp hN (by omega);have nq:0<=N*ev (lin a b) q:=mpp hN (by omega);have hA:=kpos (u:=ev (aW a b) p) (v:=ev (aW a b) q) (by omega) (by omega);have hB:=kpos (u:=ev (aW b a) p) (v:=ev (aW b a) q) (by omega) (by omega);have hA1:=kpos (u:=ev (aW a b) p-N*ev (lin a b) p) (v:=ev (aW a b) q-N*ev (lin a b) q) (by omega) (by omega);have hB1:=kpos (u:=ev (aW b a) p-N*ev (lin a b) p) (v:=ev (aW b a) q-N*ev (lin a b) q) (by omega) (by omega);have hA2:=kpos (u:=ev (aW a b) p+N*ev (lin a b) p) (v:=ev (aW a b) q+N*ev (lin a b) q) (by omega) (by omega);have hB2:=kpos (u:=ev (aW b a) p+N*ev (lin a b) p) (v:=ev (aW b a) q+N*ev (lin a b) q) (by omega) (by omega);have z1:∀(g:P3),x*ev g (pt e.a)+y*ev g (pt e.b)=s*ev g p+t*ev g q:=λg=>by have:=congrArg (ev g) he;rw[aX,aX]at this;exact this
 rcases o4 (x*ev (lin a b) (pt e.a)+y*ev (lin a b) (pt e.b)) 0 with hX|hX|hX
 .obtain⟨f,hf,g⟩:=h2 x y hx hy hxy;rw[z1]at g;simp only[thin,aj,cG,or_false]at hf;rcases hf with rfl|rfl|rfl
  .rw[lsw,lsw,lh,lh]at g;omega
  .rw[k9,k9,lsw,lsw,lh,lh,IV,IV]at g;omega
  .rw[n8,n8,lsw,lsw,lh,lh,IV,IV]at g;omega
 .rcases ho with⟨_,h|⟨h,g⟩|⟨h,g⟩|⟨h,g⟩|⟨h,g⟩⟩
  .have hne:a≠b:=by grind
   have hL:=iW hne;have hz:ev (lin a b) (cmb x (pt e.a) y (pt e.b))=0:=by rw[aX];exact hX
   have oz:=ke hz;have hab:ev (aW b a) (cmb x (pt e.a) y (pt e.b))=bj a b*(cmb x (pt e.a) y (pt e.b)).d-ev (aW a b) (cmb x (pt e.a) y (pt e.b)):=by unfold ev aW bj;grind
   rw[aX,eB]at hab;rw[aX,eA]at oz hab;refine h ⟨bj a b*x,bj a b*y,bj a b*(cmb x (pt e.a) y (pt e.b)).d-(s*ev (aW a b) p+t*ev (aW a b) q),s*ev (aW a b) p+t*ev (aW a b) q,mpp (by omega) hx,mpp (by omega) hy,by have:=aa hL hxy;grind,by omega,by omega,?_⟩;rw[oz];unfold cmb;grind
  .rw[h,bq]at hX;rw[h,kK]at eA;have hy0:0<y:=by
    rcases bl 0 y with k|k
    .exact k
    .grind
   have hv:ev (lin a b) (pt e.b)=0:=by
    have:y*ev (lin a b) (pt e.b)=0:=by omega
    rcases cp.1 this with k|k
    .omega
    .exact k
   have:=fk hy0 (show ev (aW a b) (pt e.b)<0 by omega);omega
  .rw[h,bq]at hX;rw[h,kK]at eA;have hy0:0<x:=by
    rcases bl 0 x with k|k
    .exact k
    .grind
   have hv:ev (lin a b) (pt e.a)=0:=by
    have:x*ev (lin a b) (pt e.a)=0:=by omega
    rcases cp.1 this with k|k
    .omega
    .exact k
   have:=fk hy0 (show ev (aW a b) (pt e.a)<0 by omega);omega
  .rw[h,cH]at hX;rw[h,kK]at eB;have hy0:0<y:=by
    rcases bl 0 y with k|k
    .exact k
    .grind
   have hv:ev (lin a b) (pt e.b)=0:=by
    have:y*ev (lin a b) (pt e.b)=0:=by omega
    rcases cp.1 this with k|k
    .omega
    .exact k
   have:=fk hy0 (show ev (aW b a) (pt e.b)<0 by omega);omega
  .rw[h,cH]at hX;rw[h,kK]at eB;have hy0:0<x:=by
    rcases bl 0 x with k|k
    .exact k
    .grind
   have hv:ev (lin a b) (pt e.a)=0:=by
    have:x*ev (lin a b) (pt e.a)=0:=by omega
    rcases cp.1 this with k|k
    .omega
    .exact k
   have:=fk hy0 (show ev (aW b a) (pt e.a)<0 by omega);omega
 .obtain⟨f,hf,g⟩:=h1 x y hx hy hxy;rw[z1]at g;simp only[thin,aj,cG,or_false]at hf;rcases hf with rfl|rfl|rfl
  .omega
  .rw[k9,k9]at g;omega
  .rw[n8,n8]at g;omega
def flip{r:aE}(h2:2<=r.length)(hn:(aH r).Nodup){a b:V}(hne:a≠b)(he:(⟨a,b⟩:S)∈aH r){N:Int}(hN:0<=N)
  (ho:∀e∈aH r,e≠⟨a,b⟩->Off a b e/\fZ (thin a b N) e/\fZ (thin b a N) e):∃p q:P3,In (thin b a N) p/\In (thin a b N) q/\br r p≠br r q:=by
 have sum:∀{p q:P3},0<p.d->0<q.d->p.y*q.d<=q.y*p.d->(∀e∈aH r,e≠⟨a,b⟩->¬fY e p q)->((hit p ⟨a,b⟩ !=hit q ⟨a,b⟩) !=(rgt p q a !=rgt p q b))=true->br r p≠br r q:=by
  intro p q hp hq hy hm hab;have h1:=NR (g:=λe=>(hit p e !=hit q e) !=(rgt p q e.a !=rgt p q e.b)) hn he hab λe he hne=>by rw[LV hp hq hy (hm e he hne)];grind
  rw[uZ,uZ,uZ,Ei h2]at h1;unfold br;generalize cU ((aH r).map (hit p))=x at*;generalize cU ((aH r).map (hit q))=y at*;cases x<;>cases y<;>simp at h1|-
 have off:∀{p q:P3},In (thin b a N) p->In (thin a b N) q->∀e∈aH r,e≠⟨a,b⟩->¬fY e p q:=λhp hq e he hne=>Wm hN (ho e he hne).1 (ho e he hne).2.1 (ho e he hne).2.2 hp hq;have hdn:∀(M x y:Int) (w:V),dn (ce a b M x y) w=decide (w.y*(2*M)<=M*(a.y+b.y)+y):=λ_ _ _ _=>rfl;have hln:∀(M:Int) (w:V),ev (ln (ce a b M 0 (-1)) (ce a b M 0 1)) (pt w)=2*M*(a.x+b.x-2*w.x):=λM w=>by unfold ev ln ce pt;grind
 have horiz:∀M:Int,1<=M->a.y=b.y->a.x≠b.x->((hit (ce a b M 0 (-1)) ⟨a,b⟩ !=hit (ce a b M 0 1) ⟨a,b⟩) !=(rgt (ce a b M 0 (-1)) (ce a b M 0 1) a !=rgt (ce a b M 0 (-1)) (ce a b M 0 1) b))=true:=by
  intro M hM hy hx;have e1:M*(a.y+b.y)=a.y*(2*M):=by rw[<-hy];grind
  have e2:M*(a.y+b.y)=b.y*(2*M):=by rw[hy];grind
  have a1:dn (ce a b M 0 (-1)) a=false:=by rw[hdn];grind
  have a2:dn (ce a b M 0 (-1)) b=false:=by rw[hdn];grind
  have a3:dn (ce a b M 0 1) a=true:=by rw[hdn];grind
  have a4:dn (ce a b M 0 1) b=true:=by rw[hdn];grind
  unfold hit rgt;dsimp only;rw[a1,a2,a3,a4,hln,hln];rcases kU hx with hx|hx
  .have p1:=aa (show 0<2*M by omega) (show 0<a.x+b.x-2*a.x by omega);grind
  .have p1:=fk (show 0<2*M by omega) (show a.x+b.x-2*a.x<0 by omega);grind
 have ydec:∀M:Int,1<=M->(ce a b M 0 (-1)).y*(ce a b M 0 1).d<=(ce a b M 0 1).y*(ce a b M 0 (-1)).d:=λM hM=>by unfold ce;grind
 have vert:∀M x:Int,1<=M->a.y≠b.y->0<(b.x-a.x)*0-(b.y-a.y)*x->((hit (ce a b M (-x) 0) ⟨a,b⟩ !=hit (ce a b M x 0) ⟨a,b⟩) !=(rgt (ce a b M (-x) 0) (ce a b M x 0) a !=rgt (ce a b M (-x) 0) (ce a b M x 0) b))=true:=by
  intro M x hM hy hx;have hne':dn (ce a b M x 0) a≠dn (ce a b M x 0) b:=by
   rw[hdn,hdn];have e1:M*(a.y+b.y)-a.y*(2*M)=M*(b.y-a.y):=by grind
   have e2:M*(a.y+b.y)-b.y*(2*M)=M*(a.y-b.y):=by grind
   rcases kU hy with h|h
   .have p1:=aa (show 0<M by omega) (show 0<b.y-a.y by omega);grind
   .have p1:=fk (show 0<M by omega) (show b.y-a.y<0 by omega);grind
  have same:∀w,dn (ce a b M (-x) 0) w=dn (ce a b M x 0) w:=λw=>by rw[hdn,hdn]
  unfold hit rgt;dsimp only;rw[same,same,Du,Du];rw[decide_eq_true hx,decide_eq_false (by grind)];revert hne';cases dn (ce a b M x 0) a<;>cases dn (ce a b M x 0) b<;>simp
 have hne2:b≠a:=by grind
 by_cases hy:a.y=b.y
 .have hx:a.x≠b.x:=λhx=>hne (by cases a;simp_all);rcases kU hx with hx'|hx'
  .obtain⟨M0,hM,hI⟩:=ni hne (x:=0) (y:=1) (by omega) N;obtain⟨M1,hM1,hI1⟩:=ni hne2 (x:=0) (y:= -1) (by omega) N;have i1:=hI (max M0 M1) (by omega);have i2:=hI1 (max M0 M1) (by omega);rw[Dc]at i2;exact⟨_,_,i2,i1,sum i2.1 i1.1 (ydec _ (by omega)) (off i2 i1) (horiz _ (by omega) hy hx)⟩
  .obtain⟨M0,hM,hI⟩:=ni hne (x:=0) (y:= -1) (by omega) N;obtain⟨M1,hM1,hI1⟩:=ni hne2 (x:=0) (y:=1) (by omega) N;have i1:=hI (max M0 M1) (by omega);have i2:=hI1 (max M0 M1) (by omega);rw[Dc]at i2;exact⟨_,_,i2,i1,λh=>sum i1.1 i2.1 (ydec _ (by omega)) (λe he hne hm=>off i2 i1 e he hne hm.flip) (horiz _ (by omega) hy hx) h.symm⟩
 .have go:∀x:Int,0<(b.x-a.x)*0-(b.y-a.y)*x->∃p q:P3,In (thin b a N) p/\In (thin a b N) q/\br r p≠br r q:=by intro x hx;obtain⟨M0,hM,hI⟩:=ni hne (x:=x) (y:=0) hx N;obtain⟨M1,hM1,hI1⟩:=ni hne2 (x:= -x) (y:=0) (by grind) N;have i1:=hI (max M0 M1) (by omega);have i2:=hI1 (max M0 M1) (by omega);rw[Dc]at i2;exact⟨_,_,i2,i1,sum i2.1 i1.1 (i9 _) (off i2 i1) (vert _ _ (by omega) hy hx)⟩
  rcases kU hy with h|h
  .exact go (-1) (by omega)
  .exact go 1 (by omega)
end Geo
section
namespace Geo
structure Net(W:List V)(side:V->V->Prop):Prop where
 symm:∀{a b},side a b->side b a
 ne:∀{a b},side a b->a≠b
 mem:∀{a b},side a b->a∈W
 clear:∀{a b v},side a b->v∈W->∀s t k:Int,0<=s->0<=t->cmb s (pt a) t (pt b)=cmb k (pt v) 0 (pt v)->0<k->v=a\/v=b
 apart:∀{a b c d},side a b->side c d->∀x y s t:Int,0<x->0<y->0<s->0<t->cmb x (pt a) y (pt b)=cmb s (pt c) t (pt d)->(a=c/\b=d)\/(a=d/\b=c)
def kH(x y:Int)(p q:P3):cmb x p y q=cmb y q x p:=by unfold cmb;grind
def vP{F G z g:P3}(h1:0<ev F z)(h2:0<ev G z)(h:ev F g<0\/ev G g<0):
  ∃s t:Int,0<s/\0<t/\((ev F (cmb s z t g)=0/\0<=ev G (cmb s z t g))\/(ev G (cmb s z t g)=0/\0<=ev F (cmb s z t g))):=by
 have i1:ev F (cmb (-(ev F g)) z (ev F z) g)=0:=by rw[aX,nV,eS];omega
 have i2:ev G (cmb (-(ev G g)) z (ev G z) g)=0:=by rw[aX,nV,eS];omega
 have i3:ev G (cmb (-(ev F g)) z (ev F z) g)= -ev F (cmb (-(ev G g)) z (ev G z) g):=by rw[aX,aX,nV,nV,eS (ev F z),eS (ev G z)];rw[eS (ev F g),eS (ev G g)];omega
 by_cases hF:ev F g<0
 .by_cases hG:0<=ev G (cmb (-(ev F g)) z (ev F z) g)
  .grind
  .have hg:ev G g<0:=by rw[aX]at hG;refine ko.1 λhn=>hG ?_;have:=mpp (show 0<= -(ev F g) by omega) (show 0<=ev G z by omega);have:=mpp (show 0<=ev F z by omega) hn;omega
   grind
 .refine⟨_,_,by omega,h2,.inr ⟨i2,?_⟩⟩;rw[aX];have:=mpp (show 0<= -(ev G g) by omega) (show 0<=ev F z by omega);have:=mpp (show 0<=ev G z by omega) (show 0<=ev F g by omega);omega
def SO(a b c:V)(f q:P3):ev (lin a b) (pt c)*ev f q=ev (lin b c) q*ev f (pt a)+ev (lin c a) q*ev f (pt b)+ev (lin a b) q*ev f (pt c):=by unfold ev lin pt;grind
def FS(a b c:V)(q:P3):ev (lin a b) (pt c)*q.d=ev (lin b c) q+ev (lin c a) q+ev (lin a b) q:=by unfold ev lin pt;grind
def qv{a b c:V}{q:P3}(h:ev (lin a b) q=0):cmb (ev (lin b c) q) (pt a) (ev (lin c a) q) (pt b)=⟨ev (lin a b) (pt c)*q.x,ev (lin a b) (pt c)*q.y,ev (lin a b) (pt c)*q.d⟩:=by unfold ev lin at h;unfold cmb ev lin pt;grind
def gI(a b c:V):ev (lin b c) (pt a)=ev (lin a b) (pt c):=by unfold ev lin pt;grind
def uX{a b:V}{s t:Int}(ht:0<t)(h:cmb s (pt a) t (pt b)=cmb (s+t) (pt a) 0 (pt a)):b=a:=by
 unfold cmb pt at h;simp only[P3.mk.injEq]at h;have e1:t*(b.x-a.x)=0:=by grind
 have e2:t*(b.y-a.y)=0:=by grind
 cases a;cases b;rcases cp.1 e1 with k|k<;>rcases cp.1 e2 with k2|k2<;>first|omega|grind
section
variable {W:List V} {side:V->V->Prop}
def Net.same(H:Net W side){a b u v:V}(hab:side a b)(huv:side u v){x y s t:Int}(hx:0<x)(hy:0<y)(hs:0<=s)(ht:0<=t)(h:cmb x (pt u) y (pt v)=cmb s (pt a) t (pt b)):
  (u=a/\v=b)\/(u=b/\v=a):=by
 have hd:=congrArg P3.d h;simp only[cmb,pt]at hd;rcases bl 0 s with hs'|hs'
 .rcases bl 0 t with ht'|ht'
  .exact H.apart huv hab x y s t hx hy hs' ht' h
  .have t0:t=0:=by omega
   subst t0;have h':cmb x (pt u) y (pt v)=cmb s (pt a) 0 (pt a):=by rw[h];unfold cmb;simp
   rcases H.clear huv (H.mem hab) x y s (by omega) (by omega) h' hs' with e|e
   .exfalso;subst e;have:=uX (a:=a) (b:=v) (s:=x) hy (by grind);exact H.ne huv this.symm
   .exfalso;subst e;have:=uX (a:=a) (b:=u) (s:=y) hx (by rw[kH,h'];grind);exact H.ne huv this
 .have s0:s=0:=by omega
  subst s0;have h':cmb x (pt u) y (pt v)=cmb t (pt b) 0 (pt b):=by rw[h];unfold cmb;simp
  rcases H.clear huv (H.mem (H.symm hab)) x y t (by omega) (by omega) h' (by omega)with e|e
  .exfalso;subst e;have:=uX (a:=b) (b:=v) (s:=x) hy (by grind);exact H.ne huv this.symm
  .exfalso;subst e;have:=uX (a:=b) (b:=u) (s:=y) hx (by rw[kH,h'];grind);exact H.ne huv this
structure Corner(W:List V)(side:V->V->Prop)(a b c:V)(h:Int):Prop where
 ab:side a b
 ac:side a c
 left:0<ev (lin a b) (pt c)
 none:∀x,side a x->¬(0<ev (lin a b) (pt x)/\0<ev (lin c a) (pt x))
 low:0<=h
 top:∀w∈W,w≠a->0<=ev (lin a b) (pt w)->0<=ev (lin c a) (pt w)->ev (lin b c) (pt w)<=h
def over(b c:V)(h:Int):P3:=⟨(lin b c).x,(lin b c).y,(lin b c).d-h⟩
def lI(b c:V)(h:Int)(q:P3):ev (over b c h) q=ev (lin b c) q-h*q.d:=by unfold ev over;grind
def Corner.free(H:Net W side){a b c:V}{h:Int}(K:Corner W side a b c h){u v:V}(huv:side u v):fZ [lin a b,lin c a,over b c h] ⟨u,v⟩:=by
 have key:∀{u v:V},side u v->∀x y:Int,0<=x->0<=y->0<x+y->0<ev (lin a b) (cmb x (pt u) y (pt v))->0<ev (lin c a) (cmb x (pt u) y (pt v))->0<ev (over b c h) (cmb x (pt u) y (pt v))->0<ev (over b c h) (pt u)->0<x->False:=by
  intro u v huv x y hx hy hxy h1 h2 h3 h4 hx0;have hη:0<ev (lin b c) (pt u):=by rw[lI]at h4;have:=K.low;simp only[pt]at h4|-;omega
  by_cases hin:0<=ev (lin a b) (pt u)/\0<=ev (lin c a) (pt u)
  .by_cases hua:u=a
   .subst hua;have:=K.none v huv;rw[aX,bq]at h1;rw[aX,cH]at h2;refine this ⟨?_,?_⟩
    .rcases bl 0 (ev (lin u b) (pt v))with g|g
     .exact g
     .have:=mpn hy g;omega
    .rcases bl 0 (ev (lin c u) (pt v))with g|g
     .exact g
     .have:=mpn hy g;omega
   .have:=K.top u (H.mem huv) hua hin.1 hin.2;rw[lI]at h4;simp only[pt]at h4 this;omega
  .obtain⟨s,t,hs,ht,hp⟩:=vP (F:=lin a b) (G:=lin c a) (z:=cmb x (pt u) y (pt v)) (g:=pt u) h1 h2 (by omega);have hover:0<ev (over b c h) (cmb s (cmb x (pt u) y (pt v)) t (pt u)):=by rw[aX];have:=aa hs h3;have:=aa ht h4;omega
   have hd:0<(cmb s (cmb x (pt u) y (pt v)) t (pt u)).d:=by simp only[cmb,pt];have:=aa hs hxy;grind
   have hη2:0<ev (lin b c) (cmb s (cmb x (pt u) y (pt v)) t (pt u)):=by rw[lI]at hover;have:=mpp K.low (show 0<=(cmb s (cmb x (pt u) y (pt v)) t (pt u)).d by omega);omega
   have hy0:0<y:=by
    rcases bl 0 y with g|g
    .exact g
    .have:y=0:=by omega
     subst y;rw[aX]at h1 h2;exfalso;apply hin;refine⟨?_,?_⟩
     .rcases bl (ev (lin a b) (pt u)) 0 with g|g
      .have:=fk hx0 g;omega
      .exact g
     .rcases bl (ev (lin c a) (pt u)) 0 with g|g
      .have:=fk hx0 g;omega
      .exact g
   have exp:cmb s (cmb x (pt u) y (pt v)) t (pt u)=cmb (s*x+t) (pt u) (s*y) (pt v):=by unfold cmb;simp only[P3.mk.injEq];refine⟨?_,?_,?_⟩<;>grind
   have w1:0<s*x+t:=by have:=aa hs hx0;omega
   have w2:0<s*y:=aa hs hy0;rw[exp]at hp hη2;have D:=K.left;have sc:∀{q:P3} {p1 p2:V} {m n:Int},cmb m (pt p1) n (pt p2)=⟨ev (lin a b) (pt c)*q.x,ev (lin a b) (pt c)*q.y,ev (lin a b) (pt c)*q.d⟩->∀{X Y:Int},q=cmb X (pt u) Y (pt v)->cmb (ev (lin a b) (pt c)*X) (pt u) (ev (lin a b) (pt c)*Y) (pt v)=cmb m (pt p1) n (pt p2):=by intro q p1 p2 m n hq X Y hXY;rw[hq,hXY];unfold cmb;simp only[P3.mk.injEq];refine⟨?_,?_,?_⟩<;>grind
   rcases hp with⟨g1,g2⟩|⟨g1,g2⟩
   .have:=sc (qv (c:=c) g1) rfl;rcases H.same K.ab huv (aa D w1) (aa D w2) (by omega) g2 this with⟨rfl,rfl⟩|⟨rfl,rfl⟩
    .rw[aX,bq,cH]at h1;omega
    .rw[aX,bq,cH]at h1;omega
   .have e0:ev (lin c a) (pt b)=ev (lin a b) (pt c):=(gI b c a).symm▸by rw[gI]
    have:=qv (a:=c) (b:=a) (c:=b) g1;rw[e0]at this;have:=sc this rfl;rcases H.same (H.symm K.ac) huv (aa D w1) (aa D w2) g2 (by omega) this with⟨rfl,rfl⟩|⟨rfl,rfl⟩
    .rw[aX,bq,cH]at h2;omega
    .rw[aX,bq,cH]at h2;omega
 refine GD λx y hx hy hxy hq=> ?_;have e1:∀g:P3,x*ev g (pt u)+y*ev g (pt v)=ev g (cmb x (pt u) y (pt v)):=λg=>(aX _ _ _ _ _).symm;simp only[aj,cG,or_false,forall_eq_or_imp,forall_eq,e1]at hq;obtain⟨h1,h2,h3⟩:=hq;have h3':=h3;rw[aX]at h3';by_cases hu:0<x*ev (over b c h) (pt u)
 .have hx0:0<x:=by
   rcases bl 0 x with g|g
   .exact g
   .grind
  refine key huv x y hx hy hxy h1 h2 h3 ?_ hx0;rcases bl 0 (ev (over b c h) (pt u))with g|g
  .exact g
  .have:=mpn hx g;omega
 .have hy0:0<y:=by
   rcases bl 0 y with g|g
   .exact g
   .grind
  rw[kH]at h1 h2 h3;refine key (H.symm huv) y x hy hx (by omega) h1 h2 h3 ?_ hy0;rcases bl 0 (ev (over b c h) (pt v))with g|g
  .exact g
  .have:=mpn hy g;omega
end
end Geo
end
section
namespace Geo
structure Filled(W:List V)(side:V->V->Prop)(ins:P3->Bool):Prop where
 net:Net W side
 same:∀p q:P3,0<p.d->0<q.d->(∀u v,side u v->¬fY ⟨u,v⟩ p q)->ins p=ins q
 max:∀u∈W,∀w∈W,u≠w->(∀c d,side c d->∀x y s t:Int,0<=x->0<=y->0<s->0<t->cmb x (pt c) y (pt d)≠cmb s (pt u) t (pt w))->ins (cmb 1 (pt u) 1 (pt w))=true->side u w
 far:∃B:Int,0<=B/\∀q:P3,0<q.d->(B*q.d<q.x\/q.x< -(B*q.d)\/B*q.d<q.y\/q.y< -(B*q.d))->ins q=false
def Lft(ins:P3->Bool)(a b:V):Prop:=∃N0:Int,∀N,N0<=N->∀q,In (thin a b N) q->ins q=true
def Be{α:Type}(f:α->Int):∀{l:List α},l≠[]->∃x∈l,∀y∈l,f y<=f x
 |[],h=>absurd rfl h
 |[x],_=>⟨x,by grind,by grind⟩
 |x::y::l,_=>by
  obtain⟨z,hz,h⟩:=Be f (l:=y::l) (by simp);grind
section
variable {W:List V} {side:V->V->Prop} {ins:P3->Bool}
def Filled.const(H:Filled W side ins){F:List P3}(hF:∀u v,side u v->fZ F ⟨u,v⟩){p q:P3}(hp:In F p)(hq:In F q):ins p=ins q:=
 H.same p q hp.1 hq.1 λu v huv=>(hF u v huv).no hp hq
def Lft.near{a b c:V}(hne:a≠b)(hL:Lft ins a b)(hc:0<ev (lin a b) (pt c)){h:Int}(hh:h<ev (lin a b) (pt c)):
  ∃q,In [lin a b,lin c a,over b c h] q/\ins q=true:=by
 obtain⟨N0,hN⟩:=hL;have hL2:=iW hne;have e9:(b.x-a.x)*(b.x-a.x)-(b.y-a.y)* -(b.y-a.y)=bj a b:=by unfold bj;grind
 obtain⟨M0,hM0,hI⟩:=ni hne (x:= -(b.y-a.y)) (y:=b.x-a.x) (by omega) (max N0 0);have e1:∀M:Int,ev (lin c a) (ce a b M (-(b.y-a.y)) (b.x-a.x))=M*ev (lin a b) (pt c)+ev (lin c a) ⟨-(b.y-a.y),b.x-a.x,0⟩:=λM=>by unfold ev lin ce pt;grind
 generalize hk:ev (lin c a) ⟨-(b.y-a.y),b.x-a.x,0⟩=k at e1;have hP:=hI (M0+k.natAbs) (by omega);have hβ:0<ev (lin c a) (ce a b (M0+k.natAbs) (-(b.y-a.y)) (b.x-a.x)):=by rw[e1];have:=dG (show 1<=ev (lin a b) (pt c) by omega) (show 0<=M0+(k.natAbs:Int) by omega);omega
 generalize ce a b (M0+k.natAbs) (-(b.y-a.y)) (b.x-a.x)=P at*;obtain⟨p0,p1,p2,p3⟩:=lH.1 hP;have e0:ev (lin b c) (pt a)=ev (lin a b) (pt c):=gI a b c;refine⟨cmb (1+(ev (over b c h) P).natAbs) (pt a) 1 P,⟨by simp only[cmb,pt];omega,?_⟩,hN (max N0 0) (by omega) _ ?_⟩
 .simp only[aj,cG,or_false,forall_eq_or_imp,forall_eq];refine⟨?_,?_,?_⟩
  .rw[aX,bq];omega
  .rw[aX,cH];omega
  .rw[aX];have ho:1<=ev (over b c h) (pt a):=by rw[lI,e0];show 1<=ev (lin a b) (pt c)-h*1;omega
   have:=dG ho (show 0<=1+((ev (over b c h) P).natAbs:Int) by omega);omega
 .rw[lH,aX,aX,aX,bq,kK,pZ,AC];have g1:=mpp (show 0<=1+((ev (over b c h) P).natAbs:Int) by omega) (show 0<=bj a b by omega);have g2:max N0 0*(1*ev (lin a b) P)=max N0 0*ev (lin a b) P:=by rw[IW]
  refine⟨by simp only[cmb,pt];omega,by omega,?_,?_⟩<;>rw[dU,vw]at* <;>omega
def aAO{u v b c:V}{D p q r s:Int}(hD:D≠0)(g1:cmb p (pt b) q (pt c)=⟨D*u.x,D*u.y,D⟩)(g2:cmb r (pt b) s (pt c)=⟨D*v.x,D*v.y,D⟩):
  cmb r (pt u) (-p) (pt v)=cmb (q-s) (pt c) 0 (pt c)/\cmb (-s) (pt u) q (pt v)=cmb (q-s) (pt b) 0 (pt b):=by
 unfold cmb pt at*;simp only[P3.mk.injEq]at*;refine⟨⟨?_,?_,by omega⟩,⟨?_,?_,by omega⟩⟩<;>(apply mY hD;grind)
def ear(H:Filled W side ins){a b c:V}(hab:side a b)(hac:side a c)(hc:0<ev (lin a b) (pt c))(hn:∀x,side a x->¬(0<ev (lin a b) (pt x)/\0<ev (lin c a) (pt x)))(hL:Lft ins a b):
  (∀w∈W,0<=ev (lin a b) (pt w)->0<=ev (lin b c) (pt w)->0<=ev (lin c a) (pt w)->w=a\/w=b\/w=c)/\
  (∀u v,side u v->fZ [lin a b,lin c a,over b c 0] ⟨u,v⟩)/\(∀q,In [lin a b,lin c a,over b c 0] q->ins q=true)/\side b c:=by
 have N:=H.net;have hne:=N.ne hab;by_cases hE:W.filter (λw=>decide (0<=ev (lin a b) (pt w))&&decide (0<=ev (lin b c) (pt w))&&decide (0<=ev (lin c a) (pt w))&&decide (w≠a)&&decide (w≠b)&&decide (w≠c))=[]
 case neg=>
  exfalso;obtain⟨w,hw,hmax⟩:=Be (λw=>ev (lin b c) (pt w)) hE;simp only[fF,bn,decide_eq_true_eq]at hw hmax;obtain⟨hwW,⟨⟨⟨⟨⟨w1,w2⟩,w3⟩,w4⟩,w5⟩,w6⟩⟩:=hw;have K:Corner W side a b c (ev (lin b c) (pt w)):=by
   refine⟨hab,hac,hc,hn,w2,λw' hw' ha h1 h2=> ?_⟩;by_cases h3:ev (lin b c) (pt w')<=0
   .omega
   .refine hmax w' ⟨hw',⟨⟨⟨⟨⟨h1,by omega⟩,h2⟩,ha⟩,?_⟩,?_⟩⟩
    .rintro rfl;rw[bq]at h3;omega
    .rintro rfl;rw[cH]at h3;omega
  have bs:=FS a b c (pt w);have α0:ev (lin a b) (pt w)≠0:=λh0=>by
   have hb:=qv (c:=c) h0;rcases N.clear hab hwW (ev (lin b c) (pt w)) (ev (lin c a) (pt w)) (ev (lin a b) (pt c)) w2 w3 (by rw[hb];unfold cmb;simp) hc with e|e
   .exact w4 e
   .exact w5 e
  have β0:ev (lin c a) (pt w)≠0:=λh0=>by
   have hb:=qv (a:=c) (b:=a) (c:=b) h0;have e0:ev (lin c a) (pt b)=ev (lin a b) (pt c):=by unfold ev lin pt;grind
   rw[e0]at hb;rcases N.clear (N.symm hac) hwW (ev (lin a b) (pt w)) (ev (lin b c) (pt w)) (ev (lin a b) (pt c)) w1 w2 (by rw[hb];unfold cmb;simp) hc with e|e
   .exact w6 e
   .exact w4 e
  simp only[pt]at bs;have hlt:ev (lin b c) (pt w)<ev (lin a b) (pt c):=by simp only[pt]at*;omega
  have hfree:∀u v,side u v->fZ _ ⟨u,v⟩:=λu v huv=>K.free N huv;have hin:∀s t:Int,0<s->0<t->In [lin a b,lin c a,over b c (ev (lin b c) (pt w))] (cmb s (pt a) t (pt w)):=by
   intro s t hs ht;refine⟨by simp only[cmb,pt];omega,?_⟩;simp only[aj,cG,or_false,forall_eq_or_imp,forall_eq];refine⟨?_,?_,?_⟩
   .rw[aX,bq];have:=aa ht (show 0<ev (lin a b) (pt w) by omega);omega
   .rw[aX,cH];have:=aa ht (show 0<ev (lin c a) (pt w) by omega);omega
   .rw[aX,lI,lI,gI];have e1:ev (lin b c) (pt w)-ev (lin b c) (pt w)*(pt w).d=0:=by simp only[pt];omega
    have:=aa hs (show 0<ev (lin a b) (pt c)-ev (lin b c) (pt w)*(pt a).d by simp only[pt]at*;omega);simp_all
  obtain⟨q,hq,hqi⟩:=hL.near hne hc hlt;have hmid:ins (cmb 1 (pt a) 1 (pt w))=true:=by rw[H.const hfree (hin 1 1 (by omega) (by omega)) hq];exact hqi
  have haw:=H.max a (N.mem hab) w hwW (λe=>w4 e.symm) (λc' d' hcd x y s t hx hy hs ht he=>by obtain⟨f,hf,g⟩:=hfree c' d' hcd x y hx hy (by have:=congrArg P3.d he;simp only[cmb,pt]at this;omega);have:=(hin s t hs ht).2 f hf;rw[<-he,aX]at this;grind) hmid
  grind
 case pos=>
  have hv:∀w∈W,0<=ev (lin a b) (pt w)->0<=ev (lin b c) (pt w)->0<=ev (lin c a) (pt w)->w=a\/w=b\/w=c:=by
   intro w hw h1 h2 h3;refine cu λhne'=> ?_;have:w∈([] :List V):=by rw[<-hE];simp only[fF,bn,decide_eq_true_eq];refine⟨hw,⟨⟨⟨⟨⟨h1,h2⟩,h3⟩,?_⟩,?_⟩,?_⟩⟩<;>intro e<;>exact hne' (by simp[e])
   cases this
  have K:Corner W side a b c 0:=by
   refine⟨hab,hac,hc,hn,i9 _,λw' hw' ha h1 h2=> ?_⟩;refine Ce.1 λh3=> ?_;rcases hv w' hw' h1 (by omega) h2 with e|e|e
   .exact ha e
   .rw[e,bq]at h3;omega
   .rw[e,cH]at h3;omega
  have hfree:∀u v,side u v->fZ [lin a b,lin c a,over b c 0] ⟨u,v⟩:=λu v huv=>K.free N huv;obtain⟨q,hq,hqi⟩:=hL.near hne hc hc;have hins:∀q,In [lin a b,lin c a,over b c 0] q->ins q=true:=λq' hq'=>by rw[H.const hfree hq' hq];exact hqi
  refine⟨hv,hfree,hins,?_⟩;have hbc:b≠c:=λe=>by subst e;rw[cH]at hc;omega
  have e1:ev (lin c a) (pt b)=ev (lin a b) (pt c):=by unfold ev lin pt;grind
  have bs:∀w:V,ev (lin a b) (pt c)=ev (lin b c) (pt w)+ev (lin c a) (pt w)+ev (lin a b) (pt w):=λw=>by have:=FS a b c (pt w);simp only[pt]at this|-;omega
  refine cu λhns=> ?_;have hopen:∀c' d',side c' d'->∀x y s t:Int,0<=x->0<=y->0<s->0<t->cmb x (pt c') y (pt d')≠cmb s (pt b) t (pt c):=by
   intro u v huv x y s t hx hy hs ht he;have ed:=congrArg P3.d he;have eη:=congrArg (ev (lin b c)) he;have eα:=congrArg (ev (lin a b)) he;have eβ:=congrArg (ev (lin c a)) he;simp only[cmb,pt]at ed;rw[aX,aX,bq,cH]at eη;rw[aX,aX,cH]at eα;rw[aX,aX,bq,e1]at eβ;have p1:=aa ht hc;have p2:=aa hs hc;have novert:∀w,w∈W->∀k:Int,0<k->k*ev (lin a b) (pt w)=t*ev (lin a b) (pt c)->k*ev (lin c a) (pt w)=s*ev (lin a b) (pt c)->k*ev (lin b c) (pt w)=0->False:=by
    intro w hw k hk h1 h2 h3;have g1:0<ev (lin a b) (pt w):=by
     rcases bl 0 (ev (lin a b) (pt w))with g|g
     .exact g
     .have:=mpn (show 0<=k by omega) g;omega
    have g2:0<ev (lin c a) (pt w):=by
     rcases bl 0 (ev (lin c a) (pt w))with g|g
     .exact g
     .have:=mpn (show 0<=k by omega) g;omega
    have g3:ev (lin b c) (pt w)=0:=by
     rcases cp.1 h3 with g|g
     .omega
     .exact g
    rcases hv w hw (by omega) (by omega) (by omega)with e|e|e<;>subst e
    .rw[bq]at g1;omega
    .grind
    .grind
   have hx0:0<x:=by
    rcases bl 0 x with g|g
    .exact g
    .have:x=0:=by omega
     subst x;exact(novert v (N.mem (N.symm huv)) y (by omega) (by omega) (by omega) (by omega)).elim
   have hy0:0<y:=by
    rcases bl 0 y with g|g
    .exact g
    .have:y=0:=by omega
     subst y;exact(novert u (N.mem huv) x (by omega) (by omega) (by omega) (by omega)).elim
   have up:∀{u v:V} {x y:Int},side u v->0<x->0<y->x*ev (lin b c) (pt u)+y*ev (lin b c) (pt v)=0->0<x*ev (lin a b) (pt u)+y*ev (lin a b) (pt v)->0<x*ev (lin c a) (pt u)+y*ev (lin c a) (pt v)->¬0<ev (lin b c) (pt u):=by
    intro u v x y huv hx hy h1 h2 h3 h4;obtain⟨f,hf,g⟩:=hfree u v huv ((1+(ev (lin a b) (pt u)).natAbs+(ev (lin c a) (pt u)).natAbs)*x+1) ((1+(ev (lin a b) (pt u)).natAbs+(ev (lin c a) (pt u)).natAbs)*y) (by have:=mpp (show 0<=(1:Int)+(ev (lin a b) (pt u)).natAbs+(ev (lin c a) (pt u)).natAbs by omega) (show 0<=x by omega);omega) (mpp (by omega) (by omega)) (by have:=mpp (show 0<=(1:Int)+(ev (lin a b) (pt u)).natAbs+(ev (lin c a) (pt u)).natAbs by omega) (show 0<=x by omega);have:=mpp (show 0<=(1:Int)+(ev (lin a b) (pt u)).natAbs+(ev (lin c a) (pt u)).natAbs by omega) (show 0<=y by omega);omega);change (_*x+1)*ev f (pt u)+_*y*ev f (pt v)<=0 at g;have e2:∀K A B:Int,(K*x+1)*A+K*y*B=K*(x*A+y*B)+A:=λK A B=>by grind
    rw[e2]at g;simp only[aj,cG,or_false]at hf;rcases hf with rfl|rfl|rfl
    .have:=dG (show 1<=x*ev (lin a b) (pt u)+y*ev (lin a b) (pt v) by omega) (show 0<=(1:Int)+(ev (lin a b) (pt u)).natAbs+(ev (lin c a) (pt u)).natAbs by omega);omega
    .have:=dG (show 1<=x*ev (lin c a) (pt u)+y*ev (lin c a) (pt v) by omega) (show 0<=(1:Int)+(ev (lin a b) (pt u)).natAbs+(ev (lin c a) (pt u)).natAbs by omega);omega
    .have e3:∀w:V,ev (over b c 0) (pt w)=ev (lin b c) (pt w):=λw=>by rw[lI];omega
     rw[e3,e3,h1]at g;omega
   have uu:=up huv hx0 hy0 (by omega) (by omega) (by omega);have vv:=up (N.symm huv) hy0 hx0 (by omega) (by omega) (by omega);have s1:=mpn (show 0<=x by omega) (show ev (lin b c) (pt u)<=0 by omega);have s2:=mpn (show 0<=y by omega) (show ev (lin b c) (pt v)<=0 by omega);have u0:ev (lin b c) (pt u)=0:=by
    rcases cp.1 (show x*ev (lin b c) (pt u)=0 by omega)with g|g
    .omega
    .exact g
   have v0:ev (lin b c) (pt v)=0:=by
    rcases cp.1 (show y*ev (lin b c) (pt v)=0 by omega)with g|g
    .omega
    .exact g
   have out:∀w∈W,ev (lin b c) (pt w)=0->¬(0<ev (lin a b) (pt w)/\0<ev (lin c a) (pt w)):=by
    rintro w hw h0 ⟨h1,h2⟩;rcases hv w hw (by omega) (by omega) (by omega)with e|e|e<;>subst e
    .rw[bq]at h1;omega
    .grind
    .grind
   have ou:=out u (N.mem huv) u0;have ov:=out v (N.mem (N.symm huv)) v0;have bu:=bs u;have bv:=bs v;have fin:∀{u v:V},side u v->ev (lin b c) (pt u)=0->ev (lin b c) (pt v)=0->0<ev (lin a b) (pt u)->ev (lin c a) (pt u)<=0->0<ev (lin c a) (pt v)->ev (lin a b) (pt v)<=0->False:=by
    intro u v huv u0 v0 h1 h2 h3 h4;have bu:=bs u;have bv:=bs v;have D0:ev (lin a b) (pt c)≠0:=by omega
    have g1:=qv (a:=b) (b:=c) (c:=a) (q:=pt u) u0;have g2:=qv (a:=b) (b:=c) (c:=a) (q:=pt v) v0;rw[gI a b c]at g1 g2;have cc:=aAO (u:=u) (v:=v) D0 (g1.trans (by show(⟨_,_,ev (lin a b) (pt c)*1⟩:P3)=_;rw[ym];rfl)) (g2.trans (by show(⟨_,_,ev (lin a b) (pt c)*1⟩:P3)=_;rw[ym];rfl));have k1:c=u\/c=v:=N.clear huv (N.mem (N.symm hac)) (ev (lin c a) (pt v)) (-(ev (lin c a) (pt u))) (ev (lin a b) (pt u)-ev (lin a b) (pt v)) (by omega) (by omega) cc.1 (by omega);have k2:b=u\/b=v:=N.clear huv (N.mem (N.symm hab)) (-(ev (lin a b) (pt v))) (ev (lin a b) (pt u)) (ev (lin a b) (pt u)-ev (lin a b) (pt v)) (by omega) (by omega) cc.2 (by omega);rcases k1 with e|e<;>rcases k2 with e'|e'
    .grind
    .subst e e';exact hns (N.symm huv)
    .grind
    .grind
   by_cases hu:0<ev (lin a b) (pt u)
   .have:ev (lin c a) (pt u)<=0:=by omega
    have hvv:0<ev (lin c a) (pt v):=by
     rcases bl 0 (ev (lin c a) (pt v))with g|g
     .exact g
     .have:=mpn (show 0<=x by omega) this;have:=mpn (show 0<=y by omega) g;omega
    exact fin huv u0 v0 hu this hvv (by omega)
   .have hu':0<ev (lin c a) (pt u):=by omega
    have hvv:0<ev (lin a b) (pt v):=by
     rcases bl 0 (ev (lin a b) (pt v))with g|g
     .exact g
     .have:=mpn (show 0<=x by omega) (show ev (lin a b) (pt u)<=0 by omega);have:=mpn (show 0<=y by omega) g;omega
    exact fin (N.symm huv) v0 u0 hvv (by omega) hu' (by omega)
  refine hns (H.max b (N.mem (N.symm hab)) c (N.mem (N.symm hac)) hbc hopen ?_);rw[<-hqi];refine H.same _ _ (by simp only[cmb,pt];omega) hq.1 λu v huv hm=> ?_;obtain⟨x,y,s,t,hx,hy,hxy,hs,ht,he⟩:=hm;rcases bl 0 t with ht0|ht0
  .obtain⟨f,hf,g⟩:=hfree u v huv x y hx hy hxy;have eF:=congrArg (ev f) he;rw[aX,aX]at eF;change x*ev f (pt u)+y*ev f (pt v)<=0 at g;change x*ev f (pt u)+y*ev f (pt v)=_ at eF;have g1:=aa ht0 (hq.2 f hf);have g2:0<=s*ev f (cmb 1 (pt b) 1 (pt c)):=mpp hs (by
    simp only[aj,cG,or_false]at hf;rcases hf with rfl|rfl|rfl
    .rw[aX,cH];omega
    .rw[aX,bq,e1];omega
    .rw[aX,lI,lI,bq,cH];omega)
   omega
  .have t0:t=0:=by omega
   subst t0;have hs0:0<s:=by
    have:=congrArg P3.d he;simp only[cmb,pt]at this;rcases bl 0 s with g|g
    .exact g
    .omega
   refine hopen u v huv x y s s hx hy hs0 hs0 ?_;rw[show cmb x (pt u) y (pt v)=cmb s (cmb 1 (pt b) 1 (pt c)) 0 q from he];unfold cmb;grind
end
end Geo
end
section
namespace Geo
def BB{α:Type}(f g:α->Int):∀{l:List α},l≠[]->(∀x∈l,0<g x)->∃x∈l,∀y∈l,f x*g y<=f y*g x
 |[],h,_=>absurd rfl h
 |[x],_,_=>⟨x,by grind,by grind⟩
 |x::y::l,_,hg=>by
  obtain⟨z,hz,h⟩:=BB f g (l:=y::l) (by simp) (by grind);have gx:=hg x bo;have gz:=hg z (bk _ hz);by_cases hx:f x*g z<=f z*g x
  .refine⟨x,by grind,λw hw=> ?_⟩;rcases aj.1 hw with rfl|hw
   .omega
   .have gw:=hg w (bk _ hw);have h1:=h w hw;have e1:=lg hx (show 0<=g w by omega);have e2:=lg h1 (show 0<=g x by omega);have e3:(f x*g w)*g z<=(f w*g x)*g z:=by
     have a1:f x*g w*g z=f x*g z*g w:=by grind
     have a2:f w*g x*g z=f w*g z*g x:=by grind
     have a3:f z*g x*g w=f z*g w*g x:=by grind
     omega
    simp_all
  grind
def BT{a b:V}{P r:P3}(h:ev (ln (pt a) P) r=0)(f:P3):ev (lin a b) P*ev f r=(ev (lin a b) P*r.d-ev (lin a b) r*P.d)*ev f (pt a)+ev (lin a b) r*ev f P:=by unfold ev ln lin pt at*;grind
def PI{a b:V}{P r:P3}(h:ev (ln (pt a) P) r=0):cmb (ev (lin a b) P) r 0 r=cmb (ev (lin a b) P*r.d-ev (lin a b) r*P.d) (pt a) (ev (lin a b) r) P:=by unfold cmb ev ln lin pt at*;grind
def around{a b x:V}{P q:P3}:ev (lin a b) P*ev (lin a x) q=ev (lin a b) (pt x)*ev (ln (pt a) P) q-ev (lin a b) q*ev (ln (pt a) P) (pt x):=by unfold ev ln lin pt;grind
def fan{a b u:V}{P w:P3}:ev (ln (pt a) P) (pt u)*ev (lin a b) w=ev (lin u a) w*ev (lin a b) P+ev (ln (pt a) P) w*ev (lin a b) (pt u):=by unfold ev ln lin pt;grind
def Wk(u v:V)(a:V)(P:P3)(f:P3):ev f (cmb (-(ev (ln (pt a) P) (pt v))) (pt u) (ev (ln (pt a) P) (pt u)) (pt v))=ev (lin u v) P*ev f (pt a)-ev (lin u v) (pt a)*ev f P:=by unfold ev cmb ln lin pt;grind
def AY{u v:V}{p:P3}(h:ev (lin v u) p=0)(f:P3):bj v u*ev f p=(bj v u*p.d-ev (aW v u) p)*ev f (pt v)+ev (aW v u) p*ev f (pt u):=by have h1:=congrArg (ev f) (ke h);rw[aX]at h1;rw[h1];unfold ev;grind
def PR{u v:V}(hne:u≠v){ρ q p:P3}(hq:ev (lin v u) q=0)(hp:ev (lin v u) p=0)(h0:ev ρ q=0)(f:P3):
  ev ρ (pt u)*q.d*ev f p=(ev ρ (pt u)*p.d-ev ρ p)*ev f q+ev ρ p*q.d*ev f (pt u):=by
 have hL:=iW (u:=v) (v:=u) (by grind);have a1:=AY hp f;have a2:=AY hp ρ;have a3:=AY hq f;have a4:=AY hq ρ;generalize bj v u=L at*;have hL2:L*L≠0:=Int.mul_ne_zero (by omega) (by omega);apply mY hL2;grind
section
variable {W:List V} {side:V->V->Prop} {ins:P3->Bool}
structure Seen(W:List V)(side:V->V->Prop)(a b u v x:V)(P q:P3):Prop where
 net:Net W side
 pos:0<ev (lin a b) P
 thinR:∀w∈W,0<ev (lin a b) (pt w)->0<ev (ln (pt a) P) (pt w)
 uv:side u v
 ru:0<ev (ln (pt a) P) (pt u)
 rv:ev (ln (pt a) P) (pt v)<0
 au:0<ev (lin a b) (pt u)
 first:∀c d,side c d->0<ev (ln (pt a) P) (pt c)->ev (ln (pt a) P) (pt d)<0->∀p:P3,0<p.d->ev (ln (pt a) P) p=0->0<ev (lin a b) p->(∃x y:Int,0<x/\0<y/\p=cmb x (pt c) y (pt d))->ev (lin v u) p<=0
 ka:0<ev (lin v u) (pt a)
 mem:x∈W
 rx:0<ev (ln (pt a) P) (pt x)
 kx:0<=ev (lin v u) (pt x)
 ax:0<ev (lin a b) (pt x)
 ux:0<=ev (lin a x) (pt u)
 least:∀w∈W,0<ev (ln (pt a) P) (pt w)->0<=ev (lin v u) (pt w)->0<=ev (lin a w) (pt u)->0<=ev (lin a x) (pt w)/\(ev (lin a x) (pt w)=0->ev (lin a b) (pt x)<=ev (lin a b) (pt w))
 qd:0<q.d
 qr:ev (ln (pt a) P) q=0
 qk:ev (lin v u) q=0
 qa:0<ev (lin a b) q
 quv:∃x y:Int,0<x/\0<y/\q=cmb x (pt u) y (pt v)
def jC{a k:Int}(hk:0<k)(h:0<k*a):0<a:=by
 rcases bl 0 a with g|g
 .exact g
 .have:=mpn (show 0<=k by omega) g;omega
def w8{a k:Int}(hk:0<k)(h:k*a<0):a<0:=by
 rcases bl a 0 with g|g
 .exact g
 .have:=mpp (show 0<=k by omega) g;omega
def Seen.ang{a b u v x:V}{P q:P3}(_S:Seen W side a b u v x P q){w:V}(r:P3):ev (lin a b) P*ev (lin a w) r=ev (lin a b) (pt w)*ev (ln (pt a) P) r-ev (lin a b) r*ev (ln (pt a) P) (pt w):=around
def Seen.wedge{a b u v x:V}{P q:P3}(S:Seen W side a b u v x P q){c d:V}(hcd:side c d){x1 y1:Int}(hx1:0<x1)(hy1:0<=y1)
  (h1:0<ev (ln (pt a) P) (cmb x1 (pt c) y1 (pt d))) (h2:0<ev (lin v u) (cmb x1 (pt c) y1 (pt d))) (h3:ev (lin a x) (cmb x1 (pt c) y1 (pt d))<=0) (hc:ev (lin a x) (pt c)<0):False:=by
 have N:=S.net;have hap:=S.pos;have hvu:u≠v:=N.ne S.uv;by_cases hin:0<=ev (ln (pt a) P) (pt c)/\0<=ev (lin v u) (pt c)
 ·
  have e1:=S.ang (w:=x) (pt c);have n1:=fk hap hc;have hr:0<ev (ln (pt a) P) (pt c):=by
   rcases bl 0 (ev (ln (pt a) P) (pt c))with g|g
   .exact g
   .have r0:ev (ln (pt a) P) (pt c)=0:=by omega
    have ac:ev (lin a b) (pt c)<=0:=by refine Ce.1 λg2=> ?_;have:=S.thinR c (N.mem hcd) g2;omega
    rw[r0,dU]at e1;have:=mnp ac (show 0<=ev (ln (pt a) P) (pt x) by have:=S.rx;omega);omega
  have hac:0<ev (lin a b) (pt c):=by
   have p1:=aa S.ax hr;have p2:0<ev (lin a b) (pt c)*ev (ln (pt a) P) (pt x):=by omega
   rw[eS]at p2;exact jC S.rx p2
  have eu:=S.ang (w:=x) (pt u);have ec:=S.ang (w:=c) (pt u);have m1:=mpp (show 0<=ev (lin a b) P by omega) S.ux;have key:0<=ev (lin a b) P*ev (lin a c) (pt u):=by
   rw[ec];have k1:ev (ln (pt a) P) (pt c)*ev (lin a b) (pt x)<ev (ln (pt a) P) (pt x)*ev (lin a b) (pt c):=by rw[eS (ev (ln (pt a) P) (pt c)),eS (ev (ln (pt a) P) (pt x))];omega
   have k2:ev (ln (pt a) P) (pt x)*ev (lin a b) (pt u)<=ev (ln (pt a) P) (pt u)*ev (lin a b) (pt x):=by rw[eS (ev (ln (pt a) P) (pt x)),eS (ev (ln (pt a) P) (pt u))];omega
   have k3:=Do (n1:=ev (ln (pt a) P) (pt c)) (d1:=ev (lin a b) (pt c)) (n2:=ev (ln (pt a) P) (pt x)) (d2:=ev (lin a b) (pt x)) (n3:=ev (ln (pt a) P) (pt u)) (d3:=ev (lin a b) (pt u)) hac S.ax S.au k1 k2;rw[eS (ev (lin a b) (pt c)),eS (ev (lin a b) (pt u))];omega
  have hsc:0<=ev (lin a c) (pt u):=nnl hap (by grind);have:=(S.least c (N.mem hcd) hr hin.2 hsc).1;omega
 .obtain⟨s,t,hs,ht,hp⟩:=vP (F:=ln (pt a) P) (G:=lin v u) (z:=cmb x1 (pt c) y1 (pt d)) (g:=pt c) h1 h2 (by omega);have hd0:0<(cmb s (cmb x1 (pt c) y1 (pt d)) t (pt c)).d:=by simp only[cmb,pt];have:=mpp (show 0<=s by omega) (show 0<=x1*1+y1*1 by omega);omega
  have hγ:ev (lin a x) (cmb s (cmb x1 (pt c) y1 (pt d)) t (pt c))<0:=by rw[aX];have:=mpn (show 0<=s by omega) h3;have:=fk ht hc;omega
  have hy0:0<y1:=by
   rcases bl 0 y1 with g|g
   .exact g
   .have:y1=0:=by omega
    subst y1;rw[aX,tU,nT]at h1 h2;exact(hin ⟨by have:=jC hx1 h1;omega,by have:=jC hx1 h2;omega⟩).elim
  have exp:cmb s (cmb x1 (pt c) y1 (pt d)) t (pt c)=cmb (s*x1+t) (pt c) (s*y1) (pt d):=by unfold cmb;simp only[P3.mk.injEq];refine⟨?_,?_,?_⟩<;>grind
  have w1:0<s*x1+t:=by have:=aa hs hx1;omega
  have w2:0<s*y1:=aa hs hy0;have hev:∀f,ev f (cmb s (cmb x1 (pt c) y1 (pt d)) t (pt c))=s*ev f (cmb x1 (pt c) y1 (pt d))+t*ev f (pt c):=λf=>aX _ _ _ _ _;have hr1:=hev (ln (pt a) P);generalize hpp:cmb s (cmb x1 (pt c) y1 (pt d)) t (pt c)=p at*;obtain⟨xq,yq,hxq,hyq,hq⟩:=S.quv;have clash:∀k m:Int,0<k->0<m->cmb k p 0 p=cmb m q 0 q->False:=by
   intro k m hk hm he;have:cmb (k*(s*x1+t)) (pt c) (k*(s*y1)) (pt d)=cmb (m*xq) (pt u) (m*yq) (pt v):=by rw[exp,hq]at he;unfold cmb at he|-;simp only[P3.mk.injEq]at he|-;refine⟨?_,?_,?_⟩<;>grind
   rcases N.apart hcd S.uv _ _ _ _ (aa hk w1) (aa hk w2) (aa hm hxq) (aa hm hyq) this with⟨rfl,rfl⟩|⟨rfl,rfl⟩
   .rw[aX,bq,cH]at h2;omega
   .rw[aX,bq,cH]at h2;omega
  have caseR:ev (ln (pt a) P) p=0->0<=ev (lin v u) p->False:=by
   intro g1 g2;have e1:=S.ang (w:=x) p;have n1:=fk hap hγ;have hap':0<ev (lin a b) p:=by
    rw[g1,dU]at e1;have p2:0<ev (lin a b) p*ev (ln (pt a) P) (pt x):=by omega
    rw[eS]at p2;exact jC S.rx p2
   have rz:=aa hs h1;have rc:ev (ln (pt a) P) (pt c)<0:=w8 ht (by omega);have rd:0<ev (ln (pt a) P) (pt d):=by rw[aX]at h1;have:=fk hx1 rc;exact jC hy0 (by omega)
   have hf:=S.first d c (N.symm hcd) rd rc p hd0 g1 hap' ⟨s*y1,s*x1+t,w2,w1,by rw[exp,kH]⟩;have k0:ev (lin v u) p=0:=by omega
   have r1:=PI (a:=a) (b:=b) g1;have r2:=PI (a:=a) (b:=b) S.qr;have v1:=BT (a:=a) (b:=b) g1 (lin v u);have v2:=BT (a:=a) (b:=b) S.qr (lin v u);rw[k0,dU]at v1;rw[S.qk,dU]at v2;have hqa:=S.qa;have hka:=S.ka;have hqd:=S.qd;have cross:ev (lin a b) q*p.d=ev (lin a b) p*q.d:=by
    have e3:ev (lin a b) P*ev (lin v u) (pt a)*(ev (lin a b) q*p.d-ev (lin a b) p*q.d)=0:=by generalize ev (lin a b) P=A at*;generalize ev (lin v u) (pt a)=K at*;generalize ev (lin a b) q=aq at*;generalize ev (lin a b) p=ap at*;generalize ev (lin v u) P=KP at*;grind
    rcases cp.1 e3 with g|g
    .have:=aa hap hka;omega
    .omega
   refine clash (ev (lin a b) P*ev (lin a b) q) (ev (lin a b) P*ev (lin a b) p) (aa hap hqa) (aa hap hap') ?_;unfold cmb at r1 r2|-;simp only[P3.mk.injEq]at r1 r2|-;generalize ev (lin a b) P=A at*;generalize ev (lin a b) q=aq at*;generalize ev (lin a b) p=ap at*;refine⟨?_,?_,?_⟩<;>grind
  rcases hp with⟨g1,g2⟩|⟨g1,g2⟩
  .grind
  .by_cases hr0:ev (ln (pt a) P) p=0
   .grind
   .have hrp:0<ev (ln (pt a) P) p:=by omega
    have lq:=PR hvu S.qk g1 S.qr (lin a x);have γq:ev (lin a x) q<0:=by have e1:=S.ang (w:=x) q;rw[S.qr,dU]at e1;have:=aa S.qa S.rx;exact w8 hap (by omega)
    have hbet:0<ev (ln (pt a) P) (pt u)*p.d-ev (ln (pt a) P) p:=by refine ko.1 λhn=> ?_;have t1:=mnn hn (show ev (lin a x) q<=0 by omega);have t2:=mpp (mpp (show 0<=ev (ln (pt a) P) p by omega) (show 0<=q.d by have:=S.qd;omega)) S.ux;have t3:=fk (aa S.ru S.qd) hγ;omega
    have lx:∀f,ev (ln (pt a) P) (pt u)*q.d*ev f p=(ev (ln (pt a) P) (pt u)*p.d-ev (ln (pt a) P) p)*ev f q+ev (ln (pt a) P) p*q.d*ev f (pt u):=λf=>PR hvu S.qk g1 S.qr f;have cx:=lx ⟨1,0,0⟩;have cy:=lx ⟨0,1,0⟩;have cd:=lx ⟨0,0,1⟩;have ex:∀r:P3,ev ⟨1,0,0⟩ r=r.x:=λr=>by unfold ev;simp
    have ey:∀r:P3,ev ⟨0,1,0⟩ r=r.y:=λr=>by unfold ev;simp
    have ed:∀r:P3,ev ⟨0,0,1⟩ r=r.d:=λr=>by unfold ev;simp
    rw[ex,ex,ex]at cx;rw[ey,ey,ey]at cy;rw[ed,ed,ed]at cd;have hM:0<ev (ln (pt a) P) (pt u)*q.d:=aa S.ru S.qd;have hB:0<ev (ln (pt a) P) p*q.d:=aa hrp S.qd;generalize ev (ln (pt a) P) (pt u)*q.d=M at*;generalize ev (ln (pt a) P) (pt u)*p.d-ev (ln (pt a) P) p=A at*;generalize ev (ln (pt a) P) p*q.d=B at*;have:cmb (M*(s*x1+t)) (pt c) (M*(s*y1)) (pt d)=cmb (A*xq+B) (pt u) (A*yq) (pt v):=by rw[exp,hq]at cx cy cd;unfold cmb at*;simp only[P3.mk.injEq]at*;refine⟨?_,?_,?_⟩<;>grind
    rcases N.apart hcd S.uv _ _ _ _ (aa hM w1) (aa hM w2) (show 0<A*xq+B by have:=aa hbet hxq;omega) (aa hbet hyq) this with⟨rfl,rfl⟩|⟨rfl,rfl⟩
    .rw[aX,bq,cH]at h2;omega
    .rw[aX,bq,cH]at h2;omega
end
end Geo
end
section
namespace Geo
def QL{α:Type}(f:α->Int):∀l:List α,∃M:Int,0<=M/\∀x∈l,f x<=M/\ -M<=f x
 |[] =>⟨0,i9 _,λx hx=>by cases hx⟩
 |x::l=>by
  obtain⟨M,h0,h⟩:=QL f l;refine⟨M+(f x).natAbs,by omega,λy hy=> ?_⟩;grind
section
variable {W:List V} {side:V->V->Prop} {ins:P3->Bool}
def Lft.start{a b:V}(hne:a≠b)(hL:Lft ins a b)(W:List V):∃(N:Int) (P:P3),0<=N/\In (thin a b N) P/\(∀q,In (thin a b N) q->ins q=true)/\∀w∈W,0<ev (lin a b) (pt w)->0<ev (ln (pt a) P) (pt w):=by
 obtain⟨N0,hN⟩:=hL;have hL2:=iW hne;have e9:(b.x-a.x)*(b.x-a.x)-(b.y-a.y)* -(b.y-a.y)=bj a b:=by unfold bj;grind
 obtain⟨M0,hM0,hI⟩:=ni hne (x:= -(b.y-a.y)) (y:=b.x-a.x) (by omega) (max N0 0);obtain⟨M1,hM1,hB⟩:=QL (λw=>ev (ln (pt a) ⟨-(b.y-a.y),b.x-a.x,0⟩) (pt w)) W;refine⟨max N0 0,ce a b (M0+M1) (-(b.y-a.y)) (b.x-a.x),by omega,hI _ (by omega),hN _ (by omega),λw hw h=> ?_⟩;have e1:∀M:Int,ev (ln (pt a) (ce a b M (-(b.y-a.y)) (b.x-a.x))) (pt w)=M*ev (lin a b) (pt w)+ev (ln (pt a) ⟨-(b.y-a.y),b.x-a.x,0⟩) (pt w):=λM=>by unfold ev ln lin ce pt;grind
 rw[e1];have:=hB w hw;have h2:=dG (show 1<=ev (lin a b) (pt w) by omega) (show 0<=M0+M1 by omega);omega
def Zf(a w u:V):ev (lin u a) (pt w)=ev (lin a w) (pt u):=by unfold ev lin pt;grind
open Classical in
def see(H:Filled W side ins){a b:V}(hab:side a b)(hL:Lft ins a b):
  ∃(N:Int) (u v x:V) (P q:P3),0<=N/\In (thin a b N) P/\(∀q,In (thin a b N) q->ins q=true)/\Seen W side a b u v x P q:=by
 have Nt:=H.net;have hne:=Nt.ne hab;obtain⟨N,P,hN0,hP,hin,hW⟩:=hL.start hne W;obtain⟨p0,p1,p2,p3⟩:=lH.1 hP;have hray:ev (ln (pt a) P) P=0:=Ax _ _;have hra:ev (ln (pt a) P) (pt a)=0:=GE _ _;obtain⟨B,hB0,hB⟩:=H.far;have hfar:∃T:Int,0<=T/\ins (cmb (-(T*P.d)) (pt a) (T+1) P)=false:=by
  have hd:∀T:Int,(cmb (-(T*P.d)) (pt a) (T+1) P).d=P.d:=λT=>by simp only[cmb,pt];grind
  have hx:∀T:Int,(cmb (-(T*P.d)) (pt a) (T+1) P).x=P.x+T*(P.x-a.x*P.d):=λT=>by simp only[cmb,pt];grind
  have hy:∀T:Int,(cmb (-(T*P.d)) (pt a) (T+1) P).y=P.y+T*(P.y-a.y*P.d):=λT=>by simp only[cmb,pt];grind
  have hB2:=mpp hB0 (show 0<=P.d by omega);refine⟨1+B*P.d+P.x.natAbs+P.y.natAbs,by omega,hB _ (by simp_all) ?_⟩;rw[hd,hx,hy];have hδ:P.x-a.x*P.d≠0\/P.y-a.y*P.d≠0:=by
   refine cu λhn=> ?_;have h1:P.x=a.x*P.d:=by omega
   have h2:P.y=a.y*P.d:=by omega
   have:ev (lin a b) P=0:=by unfold ev lin;rw[h1,h2];grind
   omega
  have grow:∀δ:Int,0<δ->1+B*P.d+P.x.natAbs+P.y.natAbs<=(1+B*P.d+P.x.natAbs+P.y.natAbs)*δ:=λδ h=>by have:=dG (show 1<=δ by omega) (show 0<=1+B*P.d+(P.x.natAbs:Int)+(P.y.natAbs:Int) by omega);omega
  rcases hδ with h|h
  .rcases kU h with g|g
   .have:=grow (-(P.x-a.x*P.d)) (by omega);grind
   .have:=grow _ g;omega
  .rcases kU h with g|g
   .have:=grow (-(P.y-a.y*P.d)) (by omega);grind
   .have:=grow _ g;omega
 obtain⟨T,hT0,hT⟩:=hfar;have hTd:(cmb (-(T*P.d)) (pt a) (T+1) P).d=P.d:=by simp only[cmb,pt];grind
 have hcross:∃c d,side c d/\0<ev (ln (pt a) P) (pt c)/\ev (ln (pt a) P) (pt d)<0/\0<ev (lin a b) (cmb (-(ev (ln (pt a) P) (pt d))) (pt c) (ev (ln (pt a) P) (pt c)) (pt d)):=by
  refine cu λhn=> ?_;have hs:ins P=ins (cmb (-(T*P.d)) (pt a) (T+1) P):=by
   refine H.same _ _ p0 (by omega) λc d hcd hm=> ?_;obtain⟨x,y,s,t,hx,hy,hxy,hs,ht,he⟩:=hm;have eρ:=congrArg (ev (ln (pt a) P)) he;have eα:=congrArg (ev (lin a b)) he;have ed:=congrArg P3.d he;rw[aX,aX,aX,hray,hra]at eρ;rw[aX,aX,aX,bq,dU,vw]at eα;rw[dU,dU,dU,nT,dU,nT]at eρ;dsimp only at eρ eα;have hst:0<s\/0<t:=by
    simp only[cmb,pt]at ed;refine cu λh0=> ?_;have:s=0:=by omega
    have:t=0:=by omega
    subst s t;omega
   have hα:0<x*ev (lin a b) (pt c)+y*ev (lin a b) (pt d):=by
    have g1:=mpp hs (show 0<=ev (lin a b) P by omega);have g2:=mpp ht (show 0<=(T+1)*ev (lin a b) P from mpp (by omega) (by omega));rcases hst with k|k
    .have:=aa k p1;omega
    .have:=aa k (aa (show 0<T+1 by omega) p1);omega
   have hρ:x*ev (ln (pt a) P) (pt c)+y*ev (ln (pt a) P) (pt d)=0:=by omega
   have nv:∀w,w∈W->ev (ln (pt a) P) (pt w)<=0->ev (lin a b) (pt w)<=0:=λw hw h=>by grind
   have hcW:=Nt.mem hcd;have hdW:=Nt.mem (Nt.symm hcd);rcases o4 (ev (ln (pt a) P) (pt c)) 0 with h1|h1|h1
   .have a1:=nv c hcW (by omega);have m1:=mpn hx a1;have hy0:0<y:=by
     rcases bl 0 y with g|g
     .exact g
     .grind
    have a2:0<ev (lin a b) (pt d):=jC hy0 (by omega);have r2:=hW d hdW a2;refine hn ⟨d,c,Nt.symm hcd,r2,h1,?_⟩;rw[aX];have hx0:0<x:=by
     rcases bl 0 x with g|g
     .exact g
     .have:x=0:=by omega
      subst x;have:=aa hy0 r2;omega
    refine jC hx0 ?_;have e2:x*(-(ev (ln (pt a) P) (pt c))*ev (lin a b) (pt d)+ev (ln (pt a) P) (pt d)*ev (lin a b) (pt c))=ev (ln (pt a) P) (pt d)*(x*ev (lin a b) (pt c)+y*ev (lin a b) (pt d)):=by generalize ev (ln (pt a) P) (pt c)=rc at*;generalize ev (ln (pt a) P) (pt d)=rd at*;generalize ev (lin a b) (pt c)=ac at*;generalize ev (lin a b) (pt d)=ad at*;grind
    rw[e2];exact aa r2 hα
   .have a1:=nv c hcW (by omega);have m1:=mpn hx a1;rw[h1]at hρ;have hy0:0<y:=by
     rcases bl 0 y with g|g
     .exact g
     .grind
    have r0:ev (ln (pt a) P) (pt d)=0:=by
     rcases cp.1 (show y*ev (ln (pt a) P) (pt d)=0 by omega)with g|g
     .omega
     .exact g
    have a2:=nv d hdW (by omega);have:=mpn hy a2;omega
   .by_cases hx0:0<x
    .have r2:ev (ln (pt a) P) (pt d)<0:=by have:=aa hx0 h1;refine ko.1 λg=> ?_;have:=mpp hy g;omega
     have hy0:0<y:=by
      rcases bl 0 y with g|g
      .exact g
      .have:y=0:=by omega
       subst y;have:=aa hx0 h1;omega
     refine hn ⟨c,d,hcd,h1,r2,?_⟩;rw[aX];refine jC hy0 ?_;have e2:y*(-(ev (ln (pt a) P) (pt d))*ev (lin a b) (pt c)+ev (ln (pt a) P) (pt c)*ev (lin a b) (pt d))=ev (ln (pt a) P) (pt c)*(x*ev (lin a b) (pt c)+y*ev (lin a b) (pt d)):=by generalize ev (ln (pt a) P) (pt c)=rc at*;generalize ev (ln (pt a) P) (pt d)=rd at*;generalize ev (lin a b) (pt c)=ac at*;generalize ev (lin a b) (pt d)=ad at*;grind
     rw[e2];exact aa h1 hα
    .have x0:x=0:=by omega
     subst x;have hy0:0<y:=by omega
     have r0:ev (ln (pt a) P) (pt d)=0:=by
      rcases cp.1 (show y*ev (ln (pt a) P) (pt d)=0 by omega)with g|g
      .omega
      .exact g
     have a2:=nv d hdW (by omega);have:=mpn hy a2;omega
  rw[hin P hP,hT]at hs;cases hs
 have hl:((W.flatMap λc=>W.map λd=>(c,d)).filter λq=>decide (side q.1 q.2/\0<ev (ln (pt a) P) (pt q.1)/\ev (ln (pt a) P) (pt q.2)<0/\0<ev (lin a b) (cmb (-(ev (ln (pt a) P) (pt q.2))) (pt q.1) (ev (ln (pt a) P) (pt q.1)) (pt q.2))))≠[] :=by obtain⟨c,d,h1,h2⟩:=hcross;exact IX (fF.2 ⟨cQ.2 ⟨c,Nt.mem h1,bR.2 ⟨d,Nt.mem (Nt.symm h1),rfl⟩⟩,decide_eq_true ⟨h1,h2⟩⟩)
 obtain⟨⟨u,v⟩,huv,hmin⟩:=BB (λq:V×V=>ev (lin a b) (cmb (-(ev (ln (pt a) P) (pt q.2))) (pt q.1) (ev (ln (pt a) P) (pt q.1)) (pt q.2))) (λq:V×V=>ev (ln (pt a) P) (pt q.1)-ev (ln (pt a) P) (pt q.2)) hl λq hq=>by grind
 have hs:=of_decide_eq_true (fF.1 huv).2;dsimp only at hs hmin;obtain⟨suv,ru,rv,aq⟩:=hs;have uW:=Nt.mem suv;have vW:=Nt.mem (Nt.symm suv);have qd:(cmb (-(ev (ln (pt a) P) (pt v))) (pt u) (ev (ln (pt a) P) (pt u)) (pt v)).d=ev (ln (pt a) P) (pt u)-ev (ln (pt a) P) (pt v):=by show-(ev (ln (pt a) P) (pt v))*1+ev (ln (pt a) P) (pt u)*1=_;omega
 have qr:ev (ln (pt a) P) (cmb (-(ev (ln (pt a) P) (pt v))) (pt u) (ev (ln (pt a) P) (pt u)) (pt v))=0:=by rw[aX,nV,eS];omega
 have qk:ev (lin v u) (cmb (-(ev (ln (pt a) P) (pt v))) (pt u) (ev (ln (pt a) P) (pt u)) (pt v))=0:=by rw[aX,bq,cH];omega
 have ka:0<ev (lin v u) (pt a):=by have:=Wk u v a P (lin a b);rw[this,bq,dU,Int.zero_sub,<-nV]at aq;rw[iV];rw[eS]at aq;exact jC p1 aq
 have av:ev (lin a b) (pt v)<=0:=by refine Ce.1 λg=> ?_;have:=hW v vW g;omega
 have au:0<ev (lin a b) (pt u):=by rw[aX]at aq;have:=mpn (show 0<=ev (ln (pt a) P) (pt u) by omega) av;exact jC (show 0< -(ev (ln (pt a) P) (pt v)) by omega) (by omega)
 have αX:∀w:V,0<ev (ln (pt a) P) (pt w)->0<=ev (lin a w) (pt u)->0<ev (lin a b) (pt w):=λw h1 h2=>by have:=fan (a:=a) (b:=b) (u:=u) (P:=P) (w:=pt w);rw[Zf a w u]at this;have g1:=mpp h2 (show 0<=ev (lin a b) P by omega);have g2:=aa h1 au;exact jC ru (by omega)
 have hX:(W.filter λw=>decide (0<ev (ln (pt a) P) (pt w))&&decide (0<=ev (lin v u) (pt w))&&decide (0<=ev (lin a w) (pt u)))≠[] :=by refine IX (a:=u) (fF.2 ⟨uW,?_⟩);rw[decide_eq_true ru,cH,cH];rfl
 have memX:∀{w:V},w∈(W.filter λw=>decide (0<ev (ln (pt a) P) (pt w))&&decide (0<=ev (lin v u) (pt w))&&decide (0<=ev (lin a w) (pt u)))↔(w∈W/\0<ev (ln (pt a) P) (pt w)/\0<=ev (lin v u) (pt w)/\0<=ev (lin a w) (pt u)):=λ{w}=>by grind
 obtain⟨x1,hx1,hm1⟩:=BB (λw:V=>ev (ln (pt a) P) (pt w)) (λw:V=>ev (lin a b) (pt w)) hX λw hw=>by grind
 have ang:∀w r:V,ev (lin a b) P*ev (lin a w) (pt r)=ev (lin a b) (pt w)*ev (ln (pt a) P) (pt r)-ev (lin a b) (pt r)*ev (ln (pt a) P) (pt w):=λw r=>around;have hX2:((W.filter λw=>decide (0<ev (ln (pt a) P) (pt w))&&decide (0<=ev (lin v u) (pt w))&&decide (0<=ev (lin a w) (pt u))).filter λw=>decide (ev (lin a x1) (pt w)=0))≠[] :=
  IX (a:=x1) (fF.2 ⟨hx1,by rw[cH];rfl⟩)
 obtain⟨x,hx2,hm2⟩:=Be (λw:V=> -(ev (lin a b) (pt w))) hX2;obtain⟨hx,hx0⟩:=fF.1 hx2;have hx0:ev (lin a x1) (pt x)=0:=of_decide_eq_true hx0;obtain⟨xW,xr,xk,xs⟩:=memX.1 hx;obtain⟨x1W,x1r,x1k,x1s⟩:=memX.1 hx1;have ax:=αX x xr xs;have ax1:=αX x1 x1r x1s;have eq1:ev (lin a b) (pt x1)*ev (ln (pt a) P) (pt x)=ev (lin a b) (pt x)*ev (ln (pt a) P) (pt x1):=by have:=ang x1 x;rw[hx0,dU]at this;omega
 refine⟨N,u,v,x,P,_,hN0,hP,hin,Nt,p1,hW,suv,ru,rv,au,?_,ka,xW,xr,xk,ax,xs,?_,by omega,qr,qk,aq,⟨_,_,by omega,ru,rfl⟩⟩
 .intro c d hcd rc rd p hpd hpr hpa ⟨x',y',hx',hy',hp⟩;have cW:=Nt.mem hcd;have dW:=Nt.mem (Nt.symm hcd);have eρ:=hpr;rw[hp,aX]at eρ;have prop:∀f:P3,ev (ln (pt a) P) (pt c)*ev f p=y'*ev f (cmb (-(ev (ln (pt a) P) (pt d))) (pt c) (ev (ln (pt a) P) (pt c)) (pt d)):=λf=>by rw[hp,aX,aX];grind
  have pα:=prop (lin a b);have pd:=prop ⟨0,0,1⟩;have ed:∀r:P3,ev ⟨0,0,1⟩ r=r.d:=λr=>by unfold ev;simp
  rw[ed,ed]at pd;have cd':(cmb (-(ev (ln (pt a) P) (pt d))) (pt c) (ev (ln (pt a) P) (pt c)) (pt d)).d=ev (ln (pt a) P) (pt c)-ev (ln (pt a) P) (pt d):=by show-(ev (ln (pt a) P) (pt d))*1+ev (ln (pt a) P) (pt c)*1=_;omega
  have hca:0<ev (lin a b) (cmb (-(ev (ln (pt a) P) (pt d))) (pt c) (ev (ln (pt a) P) (pt c)) (pt d)):=
   jC hy' (by rw[<-pα];exact aa rc hpa)
  have hm:=hmin (c,d) (fF.2 ⟨cQ.2 ⟨c,cW,bR.2 ⟨d,dW,rfl⟩⟩,decide_eq_true ⟨hcd,rc,rd,hca⟩⟩);dsimp only at hm;rw[<-cd',<-qd]at hm;have v1:=BT (a:=a) (b:=b) hpr (lin v u);have v2:=BT (a:=a) (b:=b) qr (lin v u);rw[qk,dU]at v2;have hqd:0<(cmb (-(ev (ln (pt a) P) (pt v))) (pt u) (ev (ln (pt a) P) (pt u)) (pt v)).d:=by rw[qd];omega
  generalize cmb (-(ev (ln (pt a) P) (pt v))) (pt u) (ev (ln (pt a) P) (pt u)) (pt v)=q at*;generalize cmb (-(ev (ln (pt a) P) (pt d))) (pt c) (ev (ln (pt a) P) (pt c)) (pt d)=q' at*;refine Ce.1 λhk=> ?_;have e3:ev (lin a b) P*(ev (lin a b) q*ev (lin v u) p)=ev (lin a b) P*(ev (lin v u) (pt a)*(ev (lin a b) q*p.d-ev (lin a b) p*q.d)):=by generalize ev (lin a b) P=A at*;generalize ev (lin v u) (pt a)=K at*;generalize ev (lin a b) q=aq' at*;generalize ev (lin a b) p=ap at*;generalize ev (lin v u) P=KP at*;generalize ev (lin v u) p=kp at*;grind
  have e4:=mY (show ev (lin a b) P≠0 by omega) e3;have g1:=aa aq hk;have g2:0<ev (lin a b) q*p.d-ev (lin a b) p*q.d:=jC ka (by omega);have g3:=dG hm (show 0<=y' by omega);have g4:ev (ln (pt a) P) (pt c)*(ev (lin a b) q*p.d-ev (lin a b) p*q.d)<=0:=by
   have a1:ev (ln (pt a) P) (pt c)*(ev (lin a b) q*p.d-ev (lin a b) p*q.d)=ev (lin a b) q*(ev (ln (pt a) P) (pt c)*p.d)-(ev (ln (pt a) P) (pt c)*ev (lin a b) p)*q.d:=by grind
   rw[a1,pα,pd];have a2:ev (lin a b) q*(y'*q'.d)=y'*(ev (lin a b) q*q'.d):=by grind
   have a3:y'*ev (lin a b) q'*q.d=y'*(ev (lin a b) q'*q.d):=by grind
   rw[a2,a3];omega
  have:=aa rc g2;omega
 .intro w wW wr wk ws;have hw:=memX.2 ⟨wW,wr,wk,ws⟩;have aw:=αX w wr ws;have h1:=hm1 w hw;have e1:=ang x w;have e2:ev (lin a b) (pt x1)*(ev (lin a b) (pt x)*ev (ln (pt a) P) (pt w)-ev (lin a b) (pt w)*ev (ln (pt a) P) (pt x))=ev (lin a b) (pt x)*(ev (ln (pt a) P) (pt w)*ev (lin a b) (pt x1)-ev (ln (pt a) P) (pt x1)*ev (lin a b) (pt w)):=by generalize ev (lin a b) (pt x1)=A1 at*;generalize ev (lin a b) (pt x)=A at*;generalize ev (lin a b) (pt w)=Aw at*;generalize ev (ln (pt a) P) (pt x1)=R1 at*;generalize ev (ln (pt a) P) (pt x)=R at*;generalize ev (ln (pt a) P) (pt w)=Rw at*;grind
  constructor
  .have g:=mpp (show 0<=ev (lin a b) (pt x) by omega) (show 0<=ev (ln (pt a) P) (pt w)*ev (lin a b) (pt x1)-ev (ln (pt a) P) (pt x1)*ev (lin a b) (pt w) by omega);rw[<-e2]at g;have g2:0<=ev (lin a b) (pt x)*ev (ln (pt a) P) (pt w)-ev (lin a b) (pt w)*ev (ln (pt a) P) (pt x):=by rw[eS]at g;exact nnl ax1 g
   rw[<-e1]at g2;rw[eS]at g2;exact nnl p1 g2
  .intro h0;rw[h0,dU]at e1;rw[<-e1,dU]at e2;have z:ev (ln (pt a) P) (pt w)*ev (lin a b) (pt x1)-ev (ln (pt a) P) (pt x1)*ev (lin a b) (pt w)=0:=by
    rcases cp.1 e2.symm with g|g
    .omega
    .exact g
   have e3:=ang x1 w;have z2:ev (lin a x1) (pt w)=0:=by
    have:ev (lin a b) P*ev (lin a x1) (pt w)=0:=by rw[e3,eS (ev (lin a b) (pt x1)),eS (ev (lin a b) (pt w))];exact z
    rcases cp.1 this with g|g
    .omega
    .exact g
   grind
def xp{a b x w:V}(h0:ev (lin a x) (pt w)=0)(f:P3):ev (lin a b) (pt x)*ev f (pt w)=(ev (lin a b) (pt x)-ev (lin a b) (pt w))*ev f (pt a)+ev (lin a b) (pt w)*ev f (pt x):=by unfold ev lin pt at*;grind
def aBu{a b x c d:V}(hA:ev (lin a b) (pt x)≠0)(c0:ev (lin a x) (pt c)=0)(d0:ev (lin a x) (pt d)=0):
  cmb (ev (lin a b) (pt d)) (pt c) (-(ev (lin a b) (pt c))) (pt d)=cmb (ev (lin a b) (pt d)-ev (lin a b) (pt c)) (pt a) 0 (pt a):=by
 have rc1:=xp (b:=b) c0 ⟨1,0,0⟩;have rc2:=xp (b:=b) c0 ⟨0,1,0⟩;have rd1:=xp (b:=b) d0 ⟨1,0,0⟩;have rd2:=xp (b:=b) d0 ⟨0,1,0⟩;have ex:∀w:V,ev ⟨1,0,0⟩ (pt w)=w.x:=λw=>by unfold ev pt;simp
 have ey:∀w:V,ev ⟨0,1,0⟩ (pt w)=w.y:=λw=>by unfold ev pt;simp
 rw[ex,ex,ex]at rc1 rd1;rw[ey,ey,ey]at rc2 rd2;clear c0 d0 ex ey;generalize ev (lin a b) (pt x)=A at*;generalize ev (lin a b) (pt c)=C at*;generalize ev (lin a b) (pt d)=D at*;unfold cmb pt;simp only[P3.mk.injEq];refine⟨?_,?_,by omega⟩
 .apply mY hA;grind
 .apply mY hA;grind
def Xm{a x c d:V}{z:P3}{x1 y1 s:Int}(he:cmb x1 (pt c) y1 (pt d)=cmb s (cmb 1 (pt a) 1 (pt x)) 0 z):cmb x1 (pt c) y1 (pt d)=cmb s (pt a) s (pt x):=by rw[he];unfold cmb;grind
def Vd(H:Filled W side ins){a b:V}(hab:side a b)(hL:Lft ins a b):∃x,side a x/\0<ev (lin a b) (pt x):=by
 have Nt:=H.net;have hne:=Nt.ne hab;refine cu λhno=> ?_;obtain⟨N,u,v,x,P,q,hN0,hP,hin,S⟩:=see H hab hL;obtain⟨p0,p1,p2,p3⟩:=lH.1 hP;have hra:ev (ln (pt a) P) (pt a)=0:=GE _ _;have hka:=S.ka;have hax:=S.ax;have hrx:=S.rx;have hkx:=S.kx;have hane:a≠x:=λe=>by grind
 have vr:∀s t:Int,0<s->0<t->0<ev (ln (pt a) P) (cmb s (pt a) t (pt x)):=λs t hs ht=>by rw[aX,hra];have:=aa ht hrx;omega
 have vk:∀s t:Int,0<s->0<t->0<ev (lin v u) (cmb s (pt a) t (pt x)):=λs t hs ht=>by rw[aX];have:=aa hs hka;have:=mpp (show 0<=t by omega) hkx;omega
 have vg:∀s t:Int,ev (lin a x) (cmb s (pt a) t (pt x))=0:=λs t=>by rw[aX,bq,cH];omega
 have tie:∀w∈W,ev (lin a x) (pt w)=0->0<ev (lin a b) (pt w)->0<=ev (lin v u) (pt w)->ev (lin a b) (pt x)<=ev (lin a b) (pt w):=by
  intro w hw h0 h1 h2;have e1:=S.ang (w:=x) (pt w);rw[h0,dU]at e1;have rw':0<ev (ln (pt a) P) (pt w):=S.thinR w hw h1;have eu:=S.ang (w:=x) (pt u);have ew:=S.ang (w:=w) (pt u);have m1:=mpp (show 0<=ev (lin a b) P by omega) S.ux;have e2:ev (lin a b) (pt x)*(ev (lin a b) (pt w)*ev (ln (pt a) P) (pt u)-ev (lin a b) (pt u)*ev (ln (pt a) P) (pt w))=ev (lin a b) (pt w)*(ev (lin a b) (pt x)*ev (ln (pt a) P) (pt u)-ev (lin a b) (pt u)*ev (ln (pt a) P) (pt x)):=by generalize ev (lin a b) (pt x)=A at*;generalize ev (lin a b) (pt w)=Aw at*;generalize ev (ln (pt a) P) (pt x)=R at*;generalize ev (ln (pt a) P) (pt w)=Rw at*;generalize ev (ln (pt a) P) (pt u)=Ru at*;generalize ev (lin a b) (pt u)=Au at*;grind
  have g1:=mpp (show 0<=ev (lin a b) (pt w) by omega) (show 0<=ev (lin a b) (pt x)*ev (ln (pt a) P) (pt u)-ev (lin a b) (pt u)*ev (ln (pt a) P) (pt x) by omega);rw[<-e2,eS]at g1;have g2:=nnl hax g1;rw[<-ew,eS]at g2;exact(S.least w hw rw' h2 (nnl p1 g2)).2 h0
 have hopen:∀c d,side c d->∀x1 y1 s t:Int,0<=x1->0<=y1->0<s->0<t->cmb x1 (pt c) y1 (pt d)≠cmb s (pt a) t (pt x):=by
  intro c d hcd x1 y1 s t hx1 hy1 hs ht he;have zr:=vr s t hs ht;have zk:=vk s t hs ht;have zg:=vg s t;have ed:=congrArg P3.d he;simp only[cmb,pt]at ed;have eα:=congrArg (ev (lin a b)) he;rw[aX,aX,bq]at eα;have m1:=aa ht hax;rw[<-he]at zr zk zg;have hz:=zg;rw[aX]at hz;have n1:¬(0<x1/\ev (lin a x) (pt c)<0):=λ⟨h1,h2⟩=>S.wedge hcd h1 hy1 zr zk (by omega) h2;have n2:¬(0<y1/\ev (lin a x) (pt d)<0):=λ⟨h1,h2⟩=>by rw[kH]at zr zk zg;exact S.wedge (Nt.symm hcd) h1 hx1 zr zk (by omega) h2
  have t1:0<=x1*ev (lin a x) (pt c):=by
   rcases bl 0 x1 with g|g
   .exact mpp hx1 (by omega)
   .grind
  have t2:0<=y1*ev (lin a x) (pt d):=by
   rcases bl 0 y1 with g|g
   .exact mpp hy1 (by omega)
   .grind
  have kr:=zk;rw[aX]at kr;have alone:∀{w:V} {k:Int},w∈W->0<k->k*ev (lin a x) (pt w)=0->k*ev (lin a b) (pt w)=t*ev (lin a b) (pt x)->0<k*ev (lin v u) (pt w)->k=s+t->False:=by
   intro w k hw hk h1 h2 h3 h4;have g0:ev (lin a x) (pt w)=0:=by
    rcases cp.1 h1 with g|g
    .omega
    .exact g
   have:=tie w hw g0 (jC hk (by omega)) (by have:=jC hk h3;omega);have q1:=dG this (show 0<=k by omega);rw[h2,h4,o6]at q1;have:=aa hs hax;omega
  by_cases hx0:x1=0
  .subst x1;exact alone (Nt.mem (Nt.symm hcd)) (show 0<y1 by omega) (by omega) (by omega) (by omega) (by omega)
  by_cases hy0:y1=0
  .subst y1;exact alone (Nt.mem hcd) (show 0<x1 by omega) (by omega) (by omega) (by omega) (by omega)
  have c0:ev (lin a x) (pt c)=0:=by
   rcases cp.1 (show x1*ev (lin a x) (pt c)=0 by omega)with g|g
   .omega
   .exact g
  have d0:ev (lin a x) (pt d)=0:=by
   rcases cp.1 (show y1*ev (lin a x) (pt d)=0 by omega)with g|g
   .omega
   .exact g
  have fin:∀{c d:V} {x1 y1:Int},side c d->0<x1->0<y1->ev (lin a x) (pt c)=0->ev (lin a x) (pt d)=0->x1*ev (lin a b) (pt c)+y1*ev (lin a b) (pt d)=t*ev (lin a b) (pt x)->x1+y1=s+t->ev (lin a b) (pt c)<=ev (lin a b) (pt d)->False:=by
   intro c d x1 y1 hcd hx1 hy1 c0 d0 hs1 hs2 hle;have hca:c≠a:=λe=>by subst e;rw[bq]at hs1;exact hno ⟨d,hcd,jC hy1 (by omega)⟩
   have hda:d≠a:=λe=>by subst e;rw[bq]at hs1;exact hno ⟨c,Nt.symm hcd,jC hx1 (by omega)⟩
   rcases bl 0 (ev (lin a b) (pt c))with g|g
   ·
    have hlt:ev (lin a b) (pt c)<ev (lin a b) (pt x):=by
     have q1:=dG hle (show 0<=y1 by omega);have q2:(s+t)*ev (lin a b) (pt c)<=t*ev (lin a b) (pt x):=by rw[<-hs2,o6];omega
     have q3:=aa hs hax;refine ko.1 λh=> ?_;have q4:=dG h (show 0<=s+t by omega);have q5:(s+t)*ev (lin a b) (pt x)=s*ev (lin a b) (pt x)+t*ev (lin a b) (pt x):=o6 _ _ _;omega
    have hk:0<=ev (lin v u) (pt c):=by have r:=xp (b:=b) c0 (lin v u);have q1:=mpp (show 0<=ev (lin a b) (pt x)-ev (lin a b) (pt c) by omega) (show 0<=ev (lin v u) (pt a) by omega);have q2:=mpp (show 0<=ev (lin a b) (pt c) by omega) hkx;exact nnl hax (by grind)
    have:=tie c (Nt.mem hcd) c0 g hk;omega
   ·
    have hd:0<ev (lin a b) (pt d):=by have:=mpn (show 0<=x1 by omega) g;exact jC hy1 (by omega)
    have k:a=c\/a=d:=Nt.clear hcd (Nt.mem hab) (ev (lin a b) (pt d)) (-(ev (lin a b) (pt c))) (ev (lin a b) (pt d)-ev (lin a b) (pt c)) (by omega) (by omega) (aBu (by omega) c0 d0) (by omega);grind
  rcases vm (ev (lin a b) (pt c)) (ev (lin a b) (pt d))with h|h
  .exact fin (x1:=x1) (y1:=y1) hcd (by omega) (by omega) c0 d0 (by omega) (by omega) h
  .exact fin (x1:=y1) (y1:=x1) (Nt.symm hcd) (by omega) (by omega) d0 c0 (by omega) (by omega) h
 have hG:∀c d,side c d->fZ [ln (pt a) P,lin x a,lin v u] ⟨c,d⟩:=by
  intro c d hcd;refine GD λx1 y1 hx1 hy1 hxy hq=> ?_;have e1:∀g:P3,x1*ev g (pt c)+y1*ev g (pt d)=ev g (cmb x1 (pt c) y1 (pt d)):=λg=>(aX _ _ _ _ _).symm;simp only[aj,cG,or_false,forall_eq_or_imp,forall_eq,e1]at hq;obtain⟨h1,h2,h3⟩:=hq;rw[iV]at h2;have h2':=h2;rw[aX]at h2';by_cases hc:x1*ev (lin a x) (pt c)<0
  .have hx0:0<x1:=by
    rcases bl 0 x1 with g|g
    .exact g
    .grind
   exact S.wedge hcd hx0 hy1 h1 h3 (by omega) (w8 hx0 hc)
  .have hd:y1*ev (lin a x) (pt d)<0:=by omega
   have hy0:0<y1:=by
    rcases bl 0 y1 with g|g
    .exact g
    .grind
   rw[kH]at h1 h2 h3;exact S.wedge (Nt.symm hcd) hy0 hx1 h1 h3 (by omega) (w8 hy0 hd)
 have hγP:ev (lin a x) P<0:=by have:=S.ang (w:=x) P;rw[show ev (ln (pt a) P) P=0 from Ax _ _,dU]at this;have:=aa p1 hrx;exact w8 p1 (by omega)
 have hL2:=iW hne;have hpt:∃z,In [ln (pt a) P,lin x a,lin v u] z/\In (thin a b N) z:=by
  let K:Int:=1+(ev (mG a b N) (pt x)).natAbs
  have hK:0<K:=by show 0<1+((ev (mG a b N) (pt x)).natAbs:Int);omega
  have hKdef:ev (mG a b N) (pt x)<=K-1/\ -(K-1)<=ev (mG a b N) (pt x):=by show _<=1+((ev (mG a b N) (pt x)).natAbs:Int)-1/\_;omega
  have hFa:1<=ev (mG a b N) P:=by rw[k9];omega
  generalize K=K at*;obtain⟨M,hM⟩:∃M:Int,0<=M/\0<M*ev (lin v u) (pt a)+(K*ev (lin v u) P+ev (lin v u) (pt x))/\0<M*bj a b+(K*(ev (aW b a) P-N*ev (lin a b) P)+(ev (aW b a) (pt x)-N*ev (lin a b) (pt x))):=by
   refine⟨1+(K*ev (lin v u) P+ev (lin v u) (pt x)).natAbs+(K*(ev (aW b a) P-N*ev (lin a b) P)+(ev (aW b a) (pt x)-N*ev (lin a b) (pt x))).natAbs,by omega,?_,?_⟩
   .have:=dG (show 1<=ev (lin v u) (pt a) by omega) (show 0<=1+((K*ev (lin v u) P+ev (lin v u) (pt x)).natAbs:Int)+((K*(ev (aW b a) P-N*ev (lin a b) P)+(ev (aW b a) (pt x)-N*ev (lin a b) (pt x))).natAbs:Int) by omega);omega
   .have:=dG (show 1<=bj a b by omega) (show 0<=1+((K*ev (lin v u) P+ev (lin v u) (pt x)).natAbs:Int)+((K*(ev (aW b a) P-N*ev (lin a b) P)+(ev (aW b a) (pt x)-N*ev (lin a b) (pt x))).natAbs:Int) by omega);omega
  obtain⟨hM0,hM1,hM2⟩:=hM;have hzd:0<(cmb 1 (cmb M (pt a) K P) 1 (pt x)).d:=by simp only[cmb,pt];have:=aa hK p0;omega
  refine⟨cmb 1 (cmb M (pt a) K P) 1 (pt x),⟨hzd,?_⟩,?_⟩
  .simp only[aj,cG,or_false,forall_eq_or_imp,forall_eq];refine⟨?_,?_,?_⟩
   .rw[aX,aX,hra,show ev (ln (pt a) P) P=0 from Ax _ _];omega
   .rw[iV,aX,aX,bq,cH];have:=fk hK hγP;omega
   .rw[aX,aX];omega
  .rw[lH];refine⟨hzd,?_,?_,?_⟩
   .rw[aX,aX,bq];have:=aa hK p1;omega
   .have g:0<ev (mG a b N) (cmb 1 (cmb M (pt a) K P) 1 (pt x)):=by
     rw[aX,aX];have z:ev (mG a b N) (pt a)=0:=by rw[k9,kK,bq];omega
     rw[z];have:=dG hFa (show 0<=K by omega);omega
    rw[k9]at g;omega
   .rw[aX,aX,aX,aX,pZ,AC,bq];grind
 obtain⟨z,hz1,hz2⟩:=hpt;have hzi:=hin z hz2;refine hno ⟨x,H.max a (Nt.mem hab) x S.mem hane hopen ?_,hax⟩;rw[<-hzi];refine H.same _ _ (by simp only[cmb,pt];omega) hz1.1 λc d hcd hm=> ?_;obtain⟨x1,y1,s,t,hx1,hy1,hxy,hs,ht,he⟩:=hm;rcases bl 0 t with ht0|ht0
 .obtain⟨f,hf,g⟩:=hG c d hcd x1 y1 hx1 hy1 hxy;have eF:=congrArg (ev f) he;rw[aX,aX]at eF;change x1*ev f (pt c)+y1*ev f (pt d)<=0 at g;change x1*ev f (pt c)+y1*ev f (pt d)=_ at eF;have g1:=aa ht0 (hz1.2 f hf);have g2:0<=s*ev f (cmb 1 (pt a) 1 (pt x)):=mpp hs (by
   simp only[aj,cG,or_false]at hf;rcases hf with rfl|rfl|rfl
   .grind
   .rw[iV,vg];omega
   grind)
  omega
 .have t0:t=0:=by omega
  subst t0;have hs0:0<s:=by
   have:=congrArg P3.d he;simp only[cmb,pt]at this;rcases bl 0 s with g|g
   .exact g
   .omega
  exact hopen c d hcd x1 y1 s s hx1 hy1 hs0 hs0 (Xm he)
end
end Geo
end
section
namespace Geo
section
variable {W:List V} {side:V->V->Prop} {ins:P3->Bool}
structure Tri(W:List V)(side:V->V->Prop)(ins:P3->Bool)(a b c:V):Prop where
 ab:side a b
 bc:side b c
 ca:side c a
 left:0<ev (lin a b) (pt c)
 empty:∀w∈W,0<=ev (lin a b) (pt w)->0<=ev (lin b c) (pt w)->0<=ev (lin c a) (pt w)->w=a\/w=b\/w=c
 mid:ins ⟨a.x+b.x+c.x,a.y+b.y+c.y,3⟩=true
def ctr(a b c:V):P3:=⟨a.x+b.x+c.x,a.y+b.y+c.y,3⟩
def Tri.rot{a b c:V}(h:Tri W side ins a b c):Tri W side ins b c a:=by
 refine⟨h.bc,h.ca,h.ab,by rw[gI];exact h.left,λw hw h1 h2 h3=> ?_,?_⟩
 .rcases h.empty w hw h3 h1 h2 with e|e|e
  .grind
  .exact .inl e
  grind
 .have:=h.mid;grind
def Bd{a b c:V}(h:0<ev (lin a b) (pt c)):In [lin a b,lin b c,lin c a] (ctr a b c):=by
 refine⟨by show(0:Int)<3;omega,?_⟩;have e:∀f:P3,ev f (ctr a b c)=ev f (pt a)+ev f (pt b)+ev f (pt c):=λf=>by unfold ev ctr pt;grind
 have e1:ev (lin c a) (pt b)=ev (lin a b) (pt c):=by unfold ev lin pt;grind
 simp only[aj,cG,or_false,forall_eq_or_imp,forall_eq];refine⟨?_,?_,?_⟩
 .rw[e,bq,cH];omega
 .rw[e,bq,cH,gI a b c];omega
 .rw[e,bq,cH,e1];omega
def XM(N:Net W side){a b c:V}(hab:side a b)(hbc:side b c)(hca:side c a)(hD:0<ev (lin a b) (pt c))(hv:∀w∈W,0<=ev (lin a b) (pt w)->0<=ev (lin b c) (pt w)->0<=ev (lin c a) (pt w)->w=a\/w=b\/w=c):
  ∀u v,side u v->fZ [lin a b,lin b c,lin c a] ⟨u,v⟩:=by
 have sector:∀x,side a x->¬(0<ev (lin a b) (pt x)/\0<ev (lin c a) (pt x)):=by
  rintro x hax ⟨h1,h2⟩;by_cases h3:0<=ev (lin b c) (pt x)
  .rcases hv x (N.mem (N.symm hax)) (by omega) h3 (by omega)with e|e|e<;>subst e
   .rw[bq]at h1;omega
   .rw[cH]at h1;omega
   .rw[bq]at h2;omega
  ·
   have hp:ev (lin b c) (cmb (-(ev (lin b c) (pt x))) (pt a) (ev (lin a b) (pt c)) (pt x))=0:=by rw[aX,gI a b c,nV,eS];omega
   have g:=qv (a:=b) (b:=c) (c:=a) hp;rw[gI a b c]at g;have p1:=aa hD h1;have p2:=aa hD h2;have v1:ev (lin c a) (cmb (-(ev (lin b c) (pt x))) (pt a) (ev (lin a b) (pt c)) (pt x))=ev (lin a b) (pt c)*ev (lin c a) (pt x):=by rw[aX,cH];omega
   have v2:ev (lin a b) (cmb (-(ev (lin b c) (pt x))) (pt a) (ev (lin a b) (pt c)) (pt x))=ev (lin a b) (pt c)*ev (lin a b) (pt x):=by rw[aX,bq];omega
   rw[v1,v2]at g;have:cmb (ev (lin a b) (pt c)* -(ev (lin b c) (pt x))) (pt a) (ev (lin a b) (pt c)*ev (lin a b) (pt c)) (pt x)=cmb (ev (lin a b) (pt c)*ev (lin c a) (pt x)) (pt b) (ev (lin a b) (pt c)*ev (lin a b) (pt x)) (pt c):=by rw[g];unfold cmb;simp only[P3.mk.injEq];refine⟨?_,?_,?_⟩<;>grind
   rcases N.apart hax hbc _ _ _ _ (aa hD (by omega)) (aa hD hD) p2 p1 this with⟨rfl,rfl⟩|⟨rfl,rfl⟩
   .exact N.ne hab rfl
   .exact N.ne hca rfl
 have K:Corner W side a b c 0:=by
  refine⟨hab,N.symm hca,hD,sector,i9 _,λw hw ha h1 h2=> ?_⟩;refine Ce.1 λh3=> ?_;rcases hv w hw h1 (by omega) h2 with e|e|e
  .exact ha e
  .rw[e,bq]at h3;omega
  .rw[e,cH]at h3;omega
 intro u v huv x y hx hy hxy;obtain⟨f,hf,g⟩:=K.free N huv x y hx hy hxy;simp only[aj,cG,or_false]at hf;rcases hf with rfl|rfl|rfl
 .grind
 .grind
 .have e3:∀w:V,ev (over b c 0) (pt w)=ev (lin b c) (pt w):=λw=>by rw[lI];omega
  grind
def Tri.free(N:Net W side){a b c:V}(h:Tri W side ins a b c):∀u v,side u v->fZ [lin a b,lin b c,lin c a] ⟨u,v⟩:=XM N h.ab h.bc h.ca h.left h.empty
open Classical in
def AM(H:Filled W side ins){a b:V}(hab:side a b)(hL:Lft ins a b):∃c,Tri W side ins a b c:=by
 have N:=H.net;have hne:=N.ne hab;have hL2:=iW hne;obtain⟨x0,hx0,hα0⟩:=Vd H hab hL;have hl:(W.filter λx=>decide (side a x/\0<ev (lin a b) (pt x)))≠[] :=IX (fF.2 ⟨N.mem (N.symm hx0),by grind⟩);obtain⟨c,hc,hm⟩:=BB (λx:V=> -(ev (aW a b) (pt x))) (λx:V=>ev (lin a b) (pt x)) hl (by grind);obtain⟨hac,hD⟩:=of_decide_eq_true (fF.1 hc).2;have ang:∀x:V,bj a b*ev (lin a c) (pt x)=ev (aW a b) (pt c)*ev (lin a b) (pt x)-ev (lin a b) (pt c)*ev (aW a b) (pt x):=λx=>by unfold bj ev aW lin pt;grind
 have hn:∀x,side a x->¬(0<ev (lin a b) (pt x)/\0<ev (lin c a) (pt x)):=by rintro x hx ⟨h1,h2⟩;have:=hm x (fF.2 ⟨N.mem (N.symm hx),by grind⟩);have e1:=ang x;rw[iV]at h2;have:=fk hL2 (show ev (lin a c) (pt x)<0 by omega);rw[nV,nV]at*;have e2:ev (lin a b) (pt c)*ev (aW a b) (pt x)=ev (aW a b) (pt x)*ev (lin a b) (pt c):=eS _ _;omega
 obtain⟨e1,e2,e3,e4⟩:=ear H hab hac hD hn hL;refine⟨c,hab,e4,N.symm hac,hD,e1,e3 _ ?_⟩;obtain⟨c0,c1⟩:=Bd hD;refine⟨c0,λf hf=> ?_⟩;simp only[aj,cG,or_false]at hf;rcases hf with rfl|rfl|rfl
 .exact c1 _ (by simp)
 .exact c1 _ (by simp)
 .have:=c1 (lin b c) (by simp);rw[lI];show 0<ev (lin b c) (ctr a b c)-0*3;omega
def UZ(N:Net W side){a b c c':V}(h:Tri W side ins a b c)(h':Tri W side ins a b c'):c=c':=by
 refine cu λhne=> ?_;have cW:=N.mem h.ca;have cW':=N.mem h'.ca;have d:=h.left;have d':=h'.left;have hca:c≠a:=N.ne h.ca;have hca':c'≠a:=N.ne h'.ca;have hcb:c≠b:=λe=>N.ne h.bc e.symm;have hcb':c'≠b:=λe=>N.ne h'.bc e.symm;have n1:¬(0<=ev (lin b c) (pt c')/\0<=ev (lin c a) (pt c')):=λ⟨h1,h2⟩=>by
  rcases h.empty c' cW' (by omega) h1 h2 with e|e|e
  .exact hca' e
  .exact hcb' e
  grind
 have n2:¬(0<=ev (lin b c') (pt c)/\0<=ev (lin c' a) (pt c)):=λ⟨h1,h2⟩=>by
  rcases h'.empty c cW (by omega) h1 h2 with e|e|e
  .exact hca e
  .exact hcb e
  grind
 have s1:ev (lin b c') (pt c)= -ev (lin b c) (pt c'):=by unfold ev lin pt;grind
 have s2:ev (lin c' a) (pt c)= -ev (lin c a) (pt c'):=by unfold ev lin pt;grind
 have key:∀{c c':V},side c a->side b c->side c' a->side b c'->c≠c'->0<ev (lin a b) (pt c)->0<ev (lin a b) (pt c')->ev (lin b c) (pt c')<0->0<ev (lin c a) (pt c')->False:=by
  intro c c' hca hbc hca' hbc' hne d d' h1 h2;have hp:ev (lin b c) (cmb (-(ev (lin b c) (pt c'))) (pt a) (ev (lin a b) (pt c)) (pt c'))=0:=by rw[aX,gI a b c,nV,eS];omega
  have g:=qv (a:=b) (b:=c) (c:=a) hp;rw[gI a b c]at g;have v1:ev (lin c a) (cmb (-(ev (lin b c) (pt c'))) (pt a) (ev (lin a b) (pt c)) (pt c'))=ev (lin a b) (pt c)*ev (lin c a) (pt c'):=by rw[aX,cH];omega
  have v2:ev (lin a b) (cmb (-(ev (lin b c) (pt c'))) (pt a) (ev (lin a b) (pt c)) (pt c'))=ev (lin a b) (pt c)*ev (lin a b) (pt c'):=by rw[aX,bq];omega
  rw[v1,v2]at g;have:cmb (ev (lin a b) (pt c)* -(ev (lin b c) (pt c'))) (pt a) (ev (lin a b) (pt c)*ev (lin a b) (pt c)) (pt c')=cmb (ev (lin a b) (pt c)*ev (lin c a) (pt c')) (pt b) (ev (lin a b) (pt c)*ev (lin a b) (pt c')) (pt c):=by rw[g];unfold cmb;simp only[P3.mk.injEq];refine⟨?_,?_,?_⟩<;>grind
  rcases N.apart (N.symm hca') hbc _ _ _ _ (aa d (by omega)) (aa d d) (aa d h2) (aa d d') this with⟨e,e'⟩|⟨e,e'⟩
  .grind
  .exact N.ne hbc' e'.symm
 by_cases g:ev (lin b c) (pt c')<0
 .refine key h.ca h.bc h'.ca h'.bc hne d d' g ?_;omega
 .have g3:ev (lin b c') (pt c)<0:=by omega
  exact key h'.ca h'.bc h.ca h.bc (by grind) d' d g3 (by omega)
end
end Geo
end
section
namespace Geo
section
variable {W:List V} {side:V->V->Prop} {ins:P3->Bool}
def Net.ray(N:Net W side){a b v:V}(hab:side a b)(hav:side a v)(h0:ev (lin a b) (pt v)=0)(h1:0<=ev (aW a b) (pt v)):v=b:=by
 have hL:=iW (N.ne hab);have g:=ke h0;by_cases h2:ev (aW a b) (pt v)<=bj a b
 .rcases N.clear hab (N.mem (N.symm hav)) (bj a b*(pt v).d-ev (aW a b) (pt v)) (ev (aW a b) (pt v)) (bj a b) (by show 0<=bj a b*1-_;omega) h1 (by rw[g];unfold cmb pt;simp) hL with e|e
  .exact absurd e.symm (N.ne hav)
  .exact e
 .rcases N.clear hav (N.mem (N.symm hab)) (ev (aW a b) (pt v)-bj a b) (bj a b) (ev (aW a b) (pt v)) (by omega) (by omega) (by unfold cmb pt at g|-;grind) (by omega)with e|e
  .exact absurd e.symm (N.ne hab)
  grind
def uC(s t:Int)(a b:V):(cmb s (pt a) t (pt b)).d=s+t:=by unfold cmb pt;simp
def Net.off(N:Net W side){a b u v:V}(hab:side a b)(huv:side u v):Off a b ⟨u,v⟩\/(u=a/\v=b)\/(u=b/\v=a):=by
 have ray:∀{a b v:V},side a b->side a v->v=b\/(ev (lin a b) (pt v)≠0\/ev (aW a b) (pt v)<0):=λ{a b v} hab hav=>by
  by_cases h0:ev (lin a b) (pt v)=0
  .by_cases h1:0<=ev (aW a b) (pt v)
   .exact .inl (N.ray hab hav h0 h1)
   omega
  omega
 have ray':∀{a b v:V},side a b->side b v->v=a\/(ev (lin a b) (pt v)≠0\/ev (aW b a) (pt v)<0):=λ{a b v} hab hbv=>by
  rcases ray (N.symm hab) hbv with e|e|e
  .exact .inl e
  .exact .inr (.inl (by rw[iV]at e;omega))
  omega
 by_cases hm:fY ⟨u,v⟩ (pt a) (pt b)
 .obtain⟨x,y,s,t,hx,hy,hxy,hs,ht,e⟩:=hm;have hd:=congrArg P3.d e;rw[uC,uC]at hd;have one:u=a\/u=b\/v=a\/v=b:=by
   rcases bl 0 x with hx'|hx'
   .rcases bl 0 y with hy'|hy'
    .rcases N.same hab huv hx' hy' hs ht e with⟨e1,_⟩|⟨e1,_⟩
     .exact .inl e1
     grind
    .have y0:y=0:=by omega
     subst y0;rcases N.clear hab (N.mem huv) s t x hs ht (by rw[<-e];unfold cmb;simp) hx' with e1|e1
     .exact .inl e1
     grind
   .have x0:x=0:=by omega
    subst x0;rcases N.clear hab (N.mem (N.symm huv)) s t y hs ht (by rw[<-e];unfold cmb;simp) (by omega)with e1|e1
    .grind
    grind
  rcases one with rfl|rfl|rfl|rfl
  .rcases ray hab huv with e1|e1
   .grind
   .exact .inl ⟨N.ne huv,.inr (.inl ⟨rfl,e1⟩)⟩
  .rcases ray' hab huv with e1|e1
   .grind
   .exact .inl ⟨N.ne huv,.inr (.inr (.inr (.inl ⟨rfl,e1⟩)))⟩
  .rcases ray hab (N.symm huv)with e1|e1
   .grind
   .exact .inl ⟨N.ne huv,.inr (.inr (.inl ⟨rfl,e1⟩))⟩
  .rcases ray' hab (N.symm huv)with e1|e1
   .grind
   .exact .inl ⟨N.ne huv,.inr (.inr (.inr (.inr ⟨rfl,e1⟩)))⟩
 .exact .inl ⟨N.ne huv,.inl hm⟩
open Classical in
def Net.thin(N:Net W side){a b:V}(hab:side a b):∃N0:Int,1<=N0/\∀n,N0<=n->∀u v,side u v->fZ (thin a b n) ⟨u,v⟩:=by
 obtain⟨N0,h1,h2⟩:=L5 (N.ne hab) (l:=(W.flatMap λu=>W.map λv=>(⟨u,v⟩:S)).filter λe=>decide (side e.a e.b)) λe he=>by have:=of_decide_eq_true (fF.1 he).2;exact N.off hab this
 refine⟨N0,h1,λn hn u v huv=>h2 n hn ⟨u,v⟩ (fF.2 ⟨?_,decide_eq_true huv⟩)⟩;exact cQ.2 ⟨u,N.mem huv,bR.2 ⟨v,N.mem (N.symm huv),rfl⟩⟩
def qe{a b:V}{n m:Int}(hnm:n<=m){q:P3}(h:In (thin a b m) q):In (thin a b n) q:=by obtain⟨h0,h1,h2,h3⟩:=lH.1 h;have:=lg hnm (show 0<=ev (lin a b) q by omega);exact lH.2 ⟨h0,h1,by omega,by omega⟩
open Classical in
def D5{a b c:V}(hne:a≠b)(n:Int){h:Int}(hc:0<ev (lin a b) (pt c))(hh:h<ev (lin a b) (pt c)):∃q,In (thin a b n) q/\In [lin a b,lin c a,over b c h] q:=by obtain⟨q,h1,h2⟩:=Lft.near (ins:=λp=>decide (In (thin a b n) p)) hne ⟨n,λm hm q hq=>decide_eq_true (qe hm hq)⟩ hc hh;grind
def xH{a b:V}(hne:a≠b)(n:Int):∃q,In (thin a b n) q:=by
 have hL2:=iW hne;have e9:(b.x-a.x)*(b.x-a.x)-(b.y-a.y)* -(b.y-a.y)=bj a b:=by unfold bj;grind
 obtain⟨M0,hM0,hI⟩:=ni hne (x:= -(b.y-a.y)) (y:=b.x-a.x) (by omega) n;exact⟨_,hI _ (i9 _)⟩
structure Calm(W:List V)(side:V->V->Prop)(ins:P3->Bool):Prop where
 net:Net W side
 same:∀p q:P3,0<p.d->0<q.d->(∀u v,side u v->¬fY ⟨u,v⟩ p q)->ins p=ins q
def Filled.calm(H:Filled W side ins):Calm W side ins:=⟨H.net,H.same⟩
def Calm.const(H:Calm W side ins){F:List P3}(hF:∀u v,side u v->fZ F ⟨u,v⟩){p q:P3}(hp:In F p)(hq:In F q):ins p=ins q:=
 H.same p q hp.1 hq.1 λu v huv=>(hF u v huv).no hp hq
def x9(H:Calm W side ins){a b:V}(hab:side a b)(h:∀n:Int,∃q,In (Geo.thin a b n) q/\ins q=true):Lft ins a b:=by obtain⟨N0,h1,h2⟩:=H.net.thin hab;obtain⟨q,hq,hi⟩:=h N0;refine⟨N0,λn hn p hp=> ?_⟩;rw[<-hi];exact H.const (h2 N0 (i9 _)) (qe hn hp) hq
def Lft.not{a b:V}(hne:a≠b)(h:Lft ins a b):¬Lft (λp=> !ins p) a b:=by obtain⟨n,h⟩:=h;rintro⟨m,h'⟩;obtain⟨q,hq⟩:=xH hne (max n m);grind
def aAQ(H:Calm W side ins){a b:V}(hab:side a b):Lft ins a b\/Lft (λp=> !ins p) a b:=by
 obtain⟨N0,h1,h2⟩:=H.net.thin hab;obtain⟨q,hq⟩:=xH (H.net.ne hab) N0;by_cases hi:ins q=true
 .exact .inl ⟨N0,λn hn p hp=>by rw[<-hi];exact H.const (h2 N0 (i9 _)) (qe hn hp) hq⟩
 .exact .inr ⟨N0,λn hn p hp=>by show(!ins p)=true;rw[<-H.const (h2 N0 (i9 _)) hq (qe hn hp)];grind⟩
def Tri.lft(H:Filled W side ins){a b c:V}(h:Tri W side ins a b c):Lft ins a b:=by
 have N:=H.net;refine x9 H.calm h.ab λn=> ?_;obtain⟨q,hq,hq'⟩:=D5 (N.ne h.ab) n h.left (h:=0) h.left;refine⟨q,hq,?_⟩;have:=h.mid;rw[<-this];refine H.const (h.free N) ⟨hq.1,λf hf=> ?_⟩ (Bd h.left);simp only[aj,cG,or_false]at hf;rcases hf with rfl|rfl|rfl
 .exact hq'.2 _ (by simp)
 .have:=hq'.2 (over b c 0) (by simp);rw[lI]at this;omega
 .exact hq'.2 _ (by simp)
end
end Geo
end
section
namespace Geo
def WH{a b v:V}{s t k:Int}(h1:ao a 4000=true)(h2:ao b 4000=true)(hs:0<=s)(ht:0<=t)(hk:0<k)(h:cmb s (pt a) t (pt b)=cmb k (pt v) 0 (pt v)):onS ⟨a,b⟩ v=true:=by
 have hv:bG ⟨a,b⟩=true:=by unfold bG;simp[h1,h2]
 rw[gT hv];simp only[cmb,pt,P3.mk.injEq]at h;have box:∀p q r:Int,s*p+t*q=k*r->min p q<=r/\r<=max p q:=λp q r h=>by
  have e:k=s+t:=by omega
  have l1:k*min p q<=k*r:=by have:=dG (Int.min_le_left p q) hs;have:=dG (Int.min_le_right p q) ht;rw[<-h,e,o6];omega
  have l2:k*r<=k*max p q:=by have:=dG (Int.le_max_left p q) hs;have:=dG (Int.le_max_right p q) ht;rw[<-h,e,o6];omega
  simp_all
 refine⟨?_,?_⟩
 .unfold fW;grind
 .have:k*cross (sub b a) (sub v a)=0:=by
   have e:k=s+t:=by omega
   subst e;unfold cross sub;dsimp only;grind
  rcases cp.1 this with g|g
  .omega
  .exact g
def aBt{a b c d:V}(hne:c≠d)(h1:ev (lin c d) (pt a)=0)(h2:ev (lin c d) (pt b)=0):ev (lin a b) (pt c)=0:=by
 have g1:=ke h1;have g2:=ke h2;have hL:=iW hne;have e:bj c d*(bj c d*ev (lin a b) (pt c))=0:=by generalize ev (aW c d) (pt a)=α at*;generalize ev (aW c d) (pt b)=β at*;generalize bj c d=L at*;unfold cmb pt at g1 g2;simp only[P3.mk.injEq]at g1 g2;unfold ev lin pt;dsimp only;grind
 rcases cp.1 e with g|g
 .omega
 .rcases cp.1 g with g|g
  .omega
  .exact g
structure Segs(W:List V)(side:V->V->Prop):Prop where
 symm:∀{a b},side a b->side b a
 ne:∀{a b},side a b->a≠b
 mem:∀{a b},side a b->a∈W
 near:∀v∈W,ao v 4000=true
 clear:∀{a b v},side a b->v∈W->onS ⟨a,b⟩ v=true->v=a\/v=b
 cross:∀{a b c d},side a b->side c d->cC ⟨a,b⟩ ⟨c,d⟩≠2
def Lx{a b c d:V}{s t:Int}(hs:0<s)(ht:0<t)(h:s*ev (lin a b) (pt c)+t*ev (lin a b) (pt d)=0)(hc:ev (lin a b) (pt c)≠0):turn a b c*turn a b d<0:=by
 unfold turn;rw[wg,<-dO,<-dO];rcases kU hc with g|g
 .have:=fk hs g;exact .inr ⟨g,Sb (a:=t) (by omega) (by omega)⟩
 .have:=aa hs g;refine .inl ⟨g,ko.1 λh'=> ?_⟩;have:=mpp (show 0<=t by omega) h';omega
section
variable {W:List V} {side:V->V->Prop}
def Segs.clear'(H:Segs W side){a b v:V}(hab:side a b)(hv:v∈W)(s t k:Int)(hs:0<=s)(ht:0<=t)(h:cmb s (pt a) t (pt b)=cmb k (pt v) 0 (pt v))(hk:0<k):v=a\/v=b:=
 H.clear hab hv (WH (H.near _ (H.mem hab)) (H.near _ (H.mem (H.symm hab))) hs ht hk h)
def Segs.beyond(H:Segs W side){a b c d:V}(hab:side a b)(hcd:side c d)(hc:ev (lin a b) (pt c)=0)(hd:ev (lin a b) (pt d)=0)
  (h1:ev (aW a b) (pt c)<ev (aW a b) (pt d)) {x y s t:Int} (hx:0<x) (hy:0<y) (hs:0<s) (ht:0<t) (h:cmb x (pt a) y (pt b)=cmb s (pt c) t (pt d)):a=c/\b=d:=by
 have hL:=iW (H.ne hab);have gc:=ke hc;have gd:=ke hd;have wc:=H.mem hcd;have wd:=H.mem (H.symm hcd);have e1:x*ev (aW a b) (pt a)+y*ev (aW a b) (pt b)=s*ev (aW a b) (pt c)+t*ev (aW a b) (pt d):=by rw[<-aX,<-aX,h]
 rw[kK,pZ]at e1;have ed:=congrArg P3.d h;rw[uC,uC]at ed;have one:∀v:V,(pt v).d=1:=λ_=>rfl;rw[one]at gc gd;have p1:=aa hy hL;have c0:ev (aW a b) (pt c)<bj a b:=ko.1 λg=>by
  have:=dG g (show 0<=s by omega);have:=Sc (show bj a b<ev (aW a b) (pt d) by omega) ht;have e:(x+y)*bj a b=(s+t)*bj a b:=by rw[ed]
  rw[o6,o6]at e;have:=aa hx hL;omega
 have d0:0<ev (aW a b) (pt d):=ko.1 λg=>by have:=mpn (show 0<=t by omega) g;have:=fk hs (show ev (aW a b) (pt c)<0 by omega);omega
 have hac:a=c:=by
  rcases bl (ev (aW a b) (pt c)) 0 with g|g
  .rcases H.clear' hcd (H.mem hab) (ev (aW a b) (pt d)) (-(ev (aW a b) (pt c))) (ev (aW a b) (pt d)-ev (aW a b) (pt c)) (by omega) (by omega) (by
    unfold cmb pt at gc gd|-;simp only[P3.mk.injEq]at gc gd|-;have hL0:bj a b≠0:=by omega
    refine⟨?_,?_,?_⟩
    .refine mY hL0 ?_;grind
    .refine mY hL0 ?_;grind
    .omega) (by omega)with e|e
   .exact e
   .rw[<-e,kK]at d0;omega
  .rcases H.clear' hab wc (bj a b-ev (aW a b) (pt c)) (ev (aW a b) (pt c)) (bj a b) (by omega) g (by rw[ym]at gc;rw[gc];unfold cmb pt;simp) hL with e|e
   .exact e.symm
   .rw[e,pZ]at c0;omega
 refine⟨hac,?_⟩;rcases bl (bj a b) (ev (aW a b) (pt d))with g|g
 .rcases H.clear' hcd (H.mem (H.symm hab)) (ev (aW a b) (pt d)-bj a b) (bj a b) (ev (aW a b) (pt d)) (by omega) (by omega) (by unfold cmb pt at gd|-;grind) (by omega)with e|e
  .exact absurd (by grind) (H.ne hab)
  .exact e
 .rcases H.clear' hab wd (bj a b-ev (aW a b) (pt d)) (ev (aW a b) (pt d)) (bj a b) (by omega) (by omega) (by rw[ym]at gd;rw[gd];unfold cmb pt;simp) hL with e|e
  .grind
  grind
def Segs.net(H:Segs W side):Net W side:=by
 refine⟨H.symm,H.ne,H.mem,λhab hv s t k hs ht h hk=>H.clear' hab hv s t k hs ht h hk,?_⟩;intro a b c d hab hcd x y s t hx hy hs ht h;have na:=H.near _ (H.mem hab);have nb:=H.near _ (H.mem (H.symm hab));have nc:=H.near _ (H.mem hcd);have nd:=H.near _ (H.mem (H.symm hcd));have f1:s*ev (lin a b) (pt c)+t*ev (lin a b) (pt d)=0:=by rw[<-aX,<-h,aX,bq,cH];omega
 have f2:x*ev (lin c d) (pt a)+y*ev (lin c d) (pt b)=0:=by rw[<-aX,h,aX,bq,cH];omega
 by_cases hc:ev (lin a b) (pt c)=0
 .have hd:ev (lin a b) (pt d)=0:=by
   rw[hc,dU,vw]at f1;rcases cp.1 f1 with g|g
   .omega
   .exact g
  rcases bl (ev (aW a b) (pt c)) (ev (aW a b) (pt d))with g|g
  .exact .inl (H.beyond hab hcd hc hd g hx hy hs ht h)
  .rcases bl (ev (aW a b) (pt d)) (ev (aW a b) (pt c))with g'|g'
   .obtain⟨e1,e2⟩:=H.beyond hab (H.symm hcd) hd hc g' hx hy ht hs (by rw[h,kH]);grind
   .exfalso;have gc:=ke hc;have gd:=ke hd;rw[show ev (aW a b) (pt d)=ev (aW a b) (pt c) by omega]at gd;have hL:=iW (H.ne hab);have one:∀v:V,(pt v).d=1:=λ_=>rfl;rw[one]at gc gd;rw[gc]at gd;simp only[P3.mk.injEq,pt]at gd;have q1:=mY (by grind) gd.1;have q2:=mY (by grind) gd.2.1;refine H.ne hcd ?_;cases c;simp_all
 .exfalso;have ha:ev (lin c d) (pt a)≠0:=λg=>by
   have g2:ev (lin c d) (pt b)=0:=by
    rw[g,dU,vw]at f2;rcases cp.1 f2 with g|g
    .omega
    .exact g
   have k1:=aBt (a:=a) (b:=b) (H.ne hcd) g g2;exact hc k1
  have hd:ev (lin a b) (pt d)≠0:=λg=>by
   rw[g,dU,nT]at f1;rcases cp.1 f1 with g|g
   .omega
   .exact hc g
  refine H.cross hab hcd ((oC ⟨a,b⟩ ⟨c,d⟩).cross (by simp[bG,na,nb,nc,nd]) ?_ ⟨Lx hs ht f1 hc,Lx hx hy f2 ha⟩);rintro p hp ⟨o1,o2⟩;have z1:ev (lin a b) (pt p)=0:=by rw[dO];exact((gT (by simp[bG,na,nb])).1 o1).2
  simp only[aj,cG,or_false]at hp;have z2:ev (lin c d) (pt p)=0:=by rw[dO];exact((gT (by simp[bG,nc,nd])).1 o2).2
  rcases hp with rfl|rfl|rfl|rfl
  .exact ha z2
  .rw[z2,dU,nT]at f2;rcases cp.1 f2 with g|g
   .omega
   .exact ha g
  .exact hc z1
  omega
end
end Geo
end
namespace Geo
def ZJ{a b:V}{p:P3}(hne:a≠b)(h0:ev (lin a b) p=0)(x1:min a.x b.x*p.d<=p.x)(x2:p.x<=max a.x b.x*p.d)(y1:min a.y b.y*p.d<=p.y)(y2:p.y<=max a.y b.y*p.d):
  ∃x y k:Int,0<=x/\0<=y/\0<k/\x+y=k*p.d/\cmb x (pt a) y (pt b)=⟨k*p.x,k*p.y,k*p.d⟩:=by
 have hL:=iW hne;have g:=ke h0;have one:∀u v q:Int,min u v*p.d<=q->q<=max u v*p.d->0<=(v-u)*(q-u*p.d)/\0<=(v-u)*(v*p.d-q):=λu v q h1 h2=>by
  rcases vm u v with h|h
  .rw[Int.min_eq_left h]at h1;rw[Int.max_eq_right h]at h2;exact⟨mpp (by omega) (by omega),mpp (by omega) (by omega)⟩
  .rw[Int.min_eq_right h]at h1;rw[Int.max_eq_left h]at h2;exact⟨mnn (by omega) (by omega),mnn (by omega) (by omega)⟩
 obtain⟨u1,u2⟩:=one _ _ _ x1 x2;obtain⟨v1,v2⟩:=one _ _ _ y1 y2;have ea:ev (aW a b) p=(b.x-a.x)*(p.x-a.x*p.d)+(b.y-a.y)*(p.y-a.y*p.d):=by unfold ev aW;grind
 have eb:bj a b*p.d-ev (aW a b) p=(b.x-a.x)*(b.x*p.d-p.x)+(b.y-a.y)*(b.y*p.d-p.y):=by unfold ev aW bj;grind
 exact⟨bj a b*p.d-ev (aW a b) p,ev (aW a b) p,bj a b,by omega,by omega,hL,by omega,g⟩
def Gj{e:S}{p:Pt}(hp:0<p.den)(hne:e.a≠e.b)(h:onP e p=true):∃x y k:Int,0<=x/\0<=y/\0<k/\x+y=k*p.den/\cmb x (pt e.a) y (pt e.b)=⟨k*p.x,k*p.y,k*p.den⟩:=by rw[HW e p hp]at h;unfold onR at h;simp only[bn,decide_eq_true_eq,beq_iff_eq,mq]at h;obtain⟨⟨⟨⟨h1,h2⟩,h3⟩,h4⟩,h5⟩:=h;exact ZJ (p:=p3 p) hne (by rw[<-h5];unfold fK cross sub toV ev lin p3;grind) h1 h2 h3 h4
def OL{e:S}{v:V}(hv:bG e=true)(hne:e.a≠e.b)(h:onS e v=true):∃x y k:Int,0<=x/\0<=y/\0<k/\x+y=k/\cmb x (pt e.a) y (pt e.b)=cmb k (pt v) 0 (pt v):=by obtain⟨x,y,k,h1,h2,h3,h4,h5⟩:=Gj (p:=fD v) (by show(0:Int)<1;omega) hne ((Md e v).2 ((gT hv).1 h));refine⟨x,y,k,h1,h2,h3,by rw[h4];show k*1=k;omega,?_⟩;rw[h5];unfold cmb pt fD;simp
def Mc{a b v:V}(ha:ao a 4000=true)(hb:ao b 4000=true):onS ⟨b,a⟩ v=onS ⟨a,b⟩ v:=by
 have v1:bG ⟨a,b⟩=true:=by simp[bG,ha,hb]
 have v2:bG ⟨b,a⟩=true:=by simp[bG,ha,hb]
 rw[fg,gT v1,gT v2];have e1:fW ⟨b,a⟩ v=fW ⟨a,b⟩ v:=by unfold fW;dsimp only;rw[Int.min_comm,Int.max_comm,Int.min_comm b.y,Int.max_comm b.y]
 have e2:cross (sub a b) (sub v b)= -cross (sub b a) (sub v a):=Kf b a v;grind
def ue{p:Pt}:∀{l:List S} {ins:Bool},(∃e∈l,onP e p=true)->dZ p l ins=1
 |[],_,⟨e,he,_⟩=>by cases he
 |e::l,ins,⟨e',he',ho⟩=>by
  unfold dZ;cases h:onP e p with
  |true=>rfl
  |false=>
   rcases aj.1 he' with rfl|he'
   .grind
   .exact ue ⟨e',he',ho⟩
def Zn{k:Int}(hk:0<k)(p:P3)(e:S):hit ⟨k*p.x,k*p.y,k*p.d⟩ e=hit p e:=by
 have e1:∀w,dn ⟨k*p.x,k*p.y,k*p.d⟩ w=dn p w:=λw=>decide_eq_decide.2 (by rw[show w.y*(k*p.d)=k*(w.y*p.d) by grind];simp_all)
 have e2:decide (0<ev (lin e.a e.b) ⟨k*p.x,k*p.y,k*p.d⟩)=decide (0<ev (lin e.a e.b) p):=decide_eq_decide.2 (by rw[show ev (lin e.a e.b) ⟨k*p.x,k*p.y,k*p.d⟩=k*ev (lin e.a e.b) p by unfold ev;grind];exact⟨λh=>Sb h (by omega),λh=>aa hk h⟩)
 unfold hit;grind
def N9{k:Int}(hk:0<k)(r:aE)(p:P3):br r ⟨k*p.x,k*p.y,k*p.d⟩=br r p:=by
 unfold br
 congr 1
 exact lk λe _=>Zn hk p e
def half(c:S):P3:=cmb 1 (pt c.a) 1 (pt c.b)
def Oh(c:S):∃k:Int,0<k/\half c=⟨k*(p3 (gD c)).x,k*(p3 (gD c)).y,k*(p3 (gD c)).d⟩:=by
 unfold gD;split
 .refine⟨2,by omega,?_⟩;unfold half cmb pt p3;grind
 .refine⟨1,by omega,?_⟩;unfold half cmb pt p3;grind
def Uu(c:S):0<(gD c).den:=by unfold gD;grind
def Va{r:aE}(hr:VR r){c:S}(ha:ao c.a 2000=true)(hb:ao c.b 2000=true)(h:∀e∈aH r,∀x y s:Int,0<=x->0<=y->0<s->cmb x (pt e.a) y (pt e.b)≠cmb s (pt c.a) s (pt c.b)):
  bP r (gD c)=if br r (half c)then 2 else 0:=by
 obtain⟨k,hk,e⟩:=Oh c;rw[qZ hr (C9 ha hb) λe' he'=> ?_,e,N9 hk];refine o7.2 λho=> ?_;have hne:=hr.mD he';obtain⟨x,y,m,h1,h2,h3,h4,h5⟩:=Gj (Uu c) hne ho;refine h e' he' (k*x) (k*y) m (mpp (by omega) h1) (mpp (by omega) h2) h3 ?_;unfold half at e;unfold cmb p3 at*;grind
def OU{r:aE}(hr:VR r){c:S}(ha:ao c.a 2000=true)(hb:ao c.b 2000=true)(h:bP r (gD c)≠1):bP r (gD c)=if br r (half c)then 2 else 0:=by obtain⟨k,hk,e⟩:=Oh c;rw[qZ hr (C9 ha hb) λe' he'=> ?_,e,N9 hk];refine o7.2 λho=>h ?_;unfold bP;rw[(iB _).2 hr,C9 ha hb];exact ue ⟨e',he',ho⟩
end Geo
namespace Geo
structure Most(s:Shape)(v:List V)(acc:List S)(i k:Nat):Prop where
 chord:∀d∈acc,pk s d=true
 apart:acc.Pairwise λd e=>cZ d e≠2
 most:∀a b,a<b->b<v.length->(a<i\/(a=i/\b<k))->pk s ⟨nth v a,nth v b⟩=true->(⟨nth v a,nth v b⟩:S)∈acc\/∃d∈acc,cZ d ⟨nth v a,nth v b⟩=2
def Vh{s:Shape}{v:List V}{acc:List S}{i k:Nat}(h:Most s v acc i k):Most s v (vA s v acc i k) i (k+1):=by
 have up:∀{acc':List S},(∀d∈acc,d∈acc')->((pk s ⟨nth v i,nth v k⟩=true)->(⟨nth v i,nth v k⟩:S)∈acc'\/∃d∈acc',cZ d ⟨nth v i,nth v k⟩=2)->
   ∀a b,a<b->b<v.length->(a<i\/(a=i/\b<k+1))->pk s ⟨nth v a,nth v b⟩=true->(⟨nth v a,nth v b⟩:S)∈acc'\/∃d∈acc',cZ d ⟨nth v a,nth v b⟩=2:=by
  intro acc' hs hn a b hab hb hl hc;by_cases he:a=i/\b=k
  .grind
  .rcases h.most a b hab hb (by omega) hc with h1|⟨d,h1,h2⟩
   .grind
   grind
 unfold vA;cases hc:pk s ⟨nth v i,nth v k⟩&&(acc.all λd=>cZ d ⟨nth v i,nth v k⟩ !=2)with
 |true=>
  rw[if_pos rfl];rw[bn,bf]at hc;refine⟨λd hd=> ?_,?_,by grind⟩
  .rcases bi.1 hd with hd|hd
   .exact h.chord d hd
   grind
  .rw[SY];refine⟨h.apart,by grind,λd hd e he=> ?_⟩;grind
 |false=>
  refine⟨h.chord,h.apart,up (λd hd=>hd) λh1=> ?_⟩;grind
def MM{s:Shape}{v:List V}{acc:List S}{i:Nat}(h:Most s v acc i (i+1)):∀m,Most s v (qH s v acc i m) i (i+1+m)
 |0=>h
 |m+1=>Vh (MM h m)
def NU(s:Shape)(v:List V):∀i,Most s v (oM s v i) i (i+1)
 |0=>⟨(λd hd=>by cases hd),tT,(by grind)⟩
 |i+1=>by
  have h:=MM (NU s v i) (v.length-(i+1));exact⟨h.chord,h.apart,λa b h1 h2 h3=>h.most a b h1 h2 (by omega)⟩
def EZ(s:Shape)(v:List V):Most s v (nL s v) v.length (v.length+1):=NU s v v.length
end Geo
namespace Geo
def FC{s t:S}(h:cC s t=2):(bG s&&bG t)=true/\(∀p,p∈ends s t->¬cB s t p)/\turn s.a s.b t.a*turn s.a s.b t.b<0/\turn t.a t.b s.a*turn t.a t.b s.b<0:=by
 have M:=oC s t;have hv:(bG s&&bG t)=true:=by
  cases hv:(bG s&&bG t)with
  |true=>rfl
  |false=>have:=M.none hv;omega
 have hn:∀p,p∈ends s t->¬cB s t p:=by
  intro p hp ho;by_cases hu:∀p q,p∈[s.a,s.b,t.a,t.b]->q∈[s.a,s.b,t.a,t.b]->cB s t p->cB s t q->p=q
  .have:=M.touch hv hu ⟨p,hp,ho⟩;omega
  .refine hu λp q hp hq o1 o2=>cu λhne=> ?_;have:=M.over p q hp hq hne o1 o2;omega
 refine⟨hv,hn,cu λhc=> ?_⟩;have:=M.else_ hv hn hc;omega
def za{s t:S}{p:V}(hp:p∈ends s t)(ho:cB s t p):cC s t≠2:=λh=>(FC h).2.1 p hp ho
def Kg(a b c:V):turn b a c= -turn a b c:=by unfold turn;rw[show cross (sub a b) (sub c b)= -cross (sub b a) (sub c a) by have:=Kf a b c;omega];unfold sgn;grind
def xJ{a b:V}{t:S}(h:cC ⟨b,a⟩ t=2):cC ⟨a,b⟩ t=2:=by
 obtain⟨h1,h2,h3,h4⟩:=FC h;have hva:ao a 4000=true/\ao b 4000=true:=by simp[bG]at h1;grind
 have hv:(bG ⟨a,b⟩&&bG t)=true:=by simp[bG]at h1|-;grind
 refine(oC ⟨a,b⟩ t).cross hv (λp hp ho=>h2 p ?_ ?_) ⟨?_,?_⟩
 .rw[kF];grind
 .obtain⟨o1,o2⟩:=ho;exact⟨by rw[Mc hva.1 hva.2];exact o1,o2⟩
 .rw[Kg b a,Kg b a,Int.neg_mul_neg];exact h3
 grind
def eY(B:List S)(a b:V):Prop:=(⟨a,b⟩:S)∈B\/(⟨b,a⟩:S)∈B
def Nq{W:List V}{B:List S}(hn:∀v∈W,ao v 4000=true)(hw:∀e∈B,e.a∈W/\e.b∈W/\e.a≠e.b)(hc:∀e∈B,∀v∈W,onS e v=true->v=e.a\/v=e.b)(hx:∀e∈B,∀d∈B,cC e d≠2):Segs W (eY B):=by
 refine⟨λh=>h.symm,λh=> ?_,λh=> ?_,hn,λh hv ho=> ?_,λh h' hm=> ?_⟩
 .rcases h with h|h
  .grind
  grind
 .rcases h with h|h
  .grind
  grind
 .rcases h with h|h
  .grind
  .rw[Mc (hn _ (hw _ h).1) (by grind)]at ho;grind
 .rcases h with h|h<;>rcases h' with h'|h'
  .grind
  .exact hx _ h _ h' (by rw[l6]at hm|-;exact xJ hm)
  .exact hx _ h _ h' (xJ hm)
  .exact hx _ h _ h' (by have:=xJ hm;rw[l6]at this|-;exact xJ this)
def VR.nocross{r:aE}(h:VR r){e d:S}(he:e∈aH r)(hd:d∈aH r):cC e d≠2:=by
 obtain⟨_,i,hi,rfl⟩:=mem_edges.1 he;obtain⟨_,k,hk,rfl⟩:=mem_edges.1 hd;have vi:=jX h.near i hi;have main:∀i k,i<r.length->k<r.length->i<k->cC (bO r i) (bO r k)≠2:=λi k hi hk hik=>by
  have vi:=jX h.near i hi;have vk:=jX h.near k hk;by_cases e1:k=i+1
  .have e2:(bO r i).b=(bO r k).a:=by show nth r ((i+1) % r.length)=nth r k;rw[dp (by omega),e1]
   exact za (p:=(bO r i).b) (by rw[kF];simp) ⟨jI vi,by rw[e2];exact fP vk⟩
  .by_cases e1:i=0/\k=r.length-1
   .have e2:(bO r k).b=(bO r i).a:=by show nth r ((k+1) % r.length)=nth r i;rw[e1.1,e1.2,show r.length-1+1=r.length by omega,kV]
    exact za (p:=(bO r i).a) (by rw[kF];simp) ⟨fP vi,by rw[<-e2];exact jI vk⟩
   .have:=h.apart i k hik hk (by omega) e1;omega
 rcases yn i k with g|g|g
 .grind
 .subst g;exact za (p:=(bO r i).a) (by rw[kF];simp) ⟨fP vi,fP vi⟩
 .rw[l6];grind
def AS{α:Type}{R:α->α->Prop}(hs:∀a b,R a b->R b a):∀{l:List α},l.Pairwise R->∀a∈l,∀b∈l,a=b\/R a b
 |[],_,a,ha,_,_=>by cases ha
 |x::l,h,a,ha,b,hb=>by
  rw[gh]at h;rcases aj.1 ha with e|ha'<;>rcases aj.1 hb with e'|hb'
  .grind
  .grind
  .grind
  .exact AS hs h.2 a ha' b hb'
def VS.nocross{s:Shape}(h:VS s){e d:S}(he:e∈bQ s)(hd:d∈bQ s):cC e d≠2:=by
 obtain⟨r,hr,he⟩:=cQ.1 he;obtain⟨q,hq,hd⟩:=cQ.1 hd;rcases AS (λa b h=>by rw[rj];exact h) h.pair r hr q hq with rfl|g
 .exact(h.ring hr).nocross he hd
 .unfold dr at g;grind
def Dq{s:Shape}{e:S}(he:e∈bQ s):e.a∈bz s/\e.b∈bz s:=by obtain⟨r,hr,he⟩:=cQ.1 he;obtain⟨h1,h2⟩:=iC he;exact⟨kY.2 ⟨r,hr,h1⟩,kY.2 ⟨r,hr,h2⟩⟩
structure Tg(s:Shape)(D:List S):Prop where
 vs:VS s
 chord:∀d∈D,gJ s d=true
 ends:∀d∈D,d.a∈bz s/\d.b∈bz s/\d.a≠d.b
 apart:∀d∈D,∀e∈D,cC d e≠2
 most:∀a∈bz s,∀b∈bz s,a≠b->gJ s ⟨a,b⟩=true->gJ s ⟨b,a⟩=true->(⟨a,b⟩:S)∈D\/(⟨b,a⟩:S)∈D\/∃d∈D,cC d ⟨a,b⟩=2
 once:D.Pairwise λd e=>d≠e/\d≠⟨e.b,e.a⟩
def sides(s:Shape)(D:List S):V->V->Prop:=eY (bQ s++D)
def Tg.segs{s:Shape}{D:List S}(T:Tg s D):Segs (bz s) (sides s D):=by
 have h:=T.vs;have hn:∀v∈bz s,ao v 4000=true:=λv hv=>jr (js h hv) (by omega);have ed:∀e∈bQ s,∀d∈D,cC e d≠2:=λe he d hd hm=>by have:=T.chord d hd;unfold gJ at this;rw[bn,bf]at this;unfold cP at this;grind
 refine Nq hn (λe he=> ?_) (λe he v hv ho=> ?_) (λe he d hd=> ?_)
 .rcases bi.1 he with he|he
  .exact⟨(Dq he).1,(Dq he).2,h.mD he⟩
  .exact T.ends e he
 .rcases bi.1 he with he|he
  .exact h.touch hv he ho
  .exact Da h (T.chord e he) hv ho
 .rcases bi.1 he with he|he<;>rcases bi.1 hd with hd|hd
  .exact h.nocross he hd
  .grind
  .rw[l6];grind
  .exact T.apart e he d hd
end Geo
namespace Geo
def dB(s:Shape)(p:P3):Bool:=br s.outer p&&s.holes.all λh=> !(br h p)
def JH{a b p:V}{y k:Int}(hk:0<k)(h:cmb 0 (pt a) y (pt b)=cmb k (pt p) 0 (pt p)):p=b:=by
 simp only[cmb,pt,P3.mk.injEq]at h;have e:y=k:=by omega
 subst e;have q1:=mY (by grind) (show y*b.x=y*p.x by omega);have q2:=mY (by grind) (show y*b.y=y*p.y by omega);cases p;cases b;grind
def NE{a b u w:V}(h1:turn a b u*turn a b w<0)(h2:turn u w a*turn u w b<0):∃x y s t:Int,0<x/\0<y/\0<s/\0<t/\cmb x (pt a) y (pt b)=cmb s (pt u) t (pt w):=by
 unfold turn at h1 h2;rw[wg,<-dO,<-dO]at h1 h2;have g:=gc a b (pt u) (pt w);rw[<-aAP]at g;have e:ev (lin u w) (pt b)-ev (lin u w) (pt a)=ev (lin a b) (pt u)-ev (lin a b) (pt w):=by unfold ev lin pt;grind
 rcases h1 with⟨p1,p2⟩|⟨p1,p2⟩
 .exact⟨_,_,_,_,by omega,by omega,by omega,by omega,g⟩
 .refine⟨-(ev (lin u w) (pt b)),ev (lin u w) (pt a),ev (lin a b) (pt w),-(ev (lin a b) (pt u)),by omega,by omega,by omega,by omega,?_⟩;unfold cmb at g|-;grind
def W8{e c:S}(ve:bG e=true)(vc:bG c=true)(hne:e.a≠e.b)(hcne:c.a≠c.b)
  (hno:∀x y s t:Int,0<=x->0<=y->0<s->0<t->cmb x (pt e.a) y (pt e.b)≠cmb s (pt c.a) t (pt c.b)) (hte:∀p,p=c.a\/p=c.b->onS e p=true->p=e.a\/p=e.b):cP e c=true:=by
 have A:∀p,cB e c p->p=c.a\/p=c.b:=by
  rintro p ⟨o1,o2⟩;obtain⟨x,y,k,h1,h2,h3,h4,h5⟩:=OL ve hne o1;obtain⟨s,t,m,g1,g2,g3,g4,g5⟩:=OL vc hcne o2;rcases bl 0 s with hs|hs
  .rcases bl 0 t with ht|ht
   .refine absurd ?_ (hno (m*x) (m*y) (k*s) (k*t) (mpp (by omega) h1) (mpp (by omega) h2) (aa h3 hs) (aa h3 ht));unfold cmb pt at*;grind
   .have:t=0:=by omega
    subst this;exact .inl (JH g3 (by rw[kH];exact g5))
  .have:s=0:=by omega
   subst this;exact .inr (JH g3 g5)
 have M:=oC e c;have hv:(bG e&&bG c)=true:=by rw[ve,vc];rfl
 unfold cP;by_cases hp:∃p,p∈ends e c/\cB e c p
 .obtain⟨p,hp,ho⟩:=hp;have c1:=A p ho;have c2:=hte p c1 ho.1;have k1:cC e c=1:=by
   refine M.touch hv (λq r hq hr oq or=>cu λhqr=> ?_) ⟨p,hp,ho⟩;have q1:=A q oq;have r1:=A r or;have q2:=hte q q1 oq.1;have r2:=hte r r1 or.1;have:(e.a=c.a/\e.b=c.b)\/(e.a=c.b/\e.b=c.a):=by grind
   rcases this with⟨w1,w2⟩|⟨w1,w2⟩
   .exact hno 1 1 1 1 (by omega) (by omega) (by omega) (by omega) (by rw[w1,w2])
   .exact hno 1 1 1 1 (by omega) (by omega) (by omega) (by omega) (by rw[w1,w2,kH])
  have k2:um e c=true:=by rw[zX];grind
  grind
 .have k0:cC e c=0:=by refine M.else_ hv (λp hp' ho=>hp ⟨p,hp',ho⟩) λ⟨h1,h2⟩=> ?_;obtain⟨x,y,s,t,hx,hy,hs,ht,g⟩:=NE h1 h2;grind
  rw[k0];rfl
def NH{s:Shape}(h:VS s){u w:V}(hu:u∈bz s)(hw:w∈bz s)(hne:u≠w)(hno:∀e∈bQ s,∀x y s t:Int,0<=x->0<=y->0<s->0<t->cmb x (pt e.a) y (pt e.b)≠cmb s (pt u) t (pt w))
  (hi:dB s (cmb 1 (pt u) 1 (pt w))=true):gJ s ⟨u,w⟩=true:=by
 have nu:=js h hu;have nw:=js h hw;unfold gJ;rw[bn,bf];refine⟨λe he=>W8 (Jl h he) (by unfold bG;rw[jr nu (by omega),jr nw (by omega)];rfl) (h.mD he) hne (hno e he) λp hp ho=> ?_,?_⟩
 .refine h.touch ?_ he ho;grind
 .rw[beq_iff_eq,wY];have mem:∀r∈aD s,∀e∈aH r,e∈bQ s:=λr hr e he=>cQ.2 ⟨r,hr,he⟩;have wm:∀r∈aD s,bP r (gD ⟨u,w⟩)=if br r (half ⟨u,w⟩)then 2 else 0:=λr hr=>
   Va (h.ring hr) nu nw (by grind)
  unfold dB at hi;rw[bn,bf]at hi;refine⟨(lz s).2 h,?_,λq hq=> ?_⟩
  .rw[wm _ bo];exact if_pos hi.1
  .rw[wm _ (bk _ hq)];have:=hi.2 q hq;exact if_neg (by unfold half;grind)
def NI{s:Shape}(h:VS s){c:S}(ha:c.a∈bz s)(hb:c.b∈bz s)(hc:gJ s c=true):dB s (half c)=true:=by
 unfold gJ at hc;rw[bn,beq_iff_eq,wY]at hc;have na:=js h ha;have nb:=js h hb;unfold dB;rw[bn,bf];refine⟨?_,λq hq=> ?_⟩
 .have:=OU h.outer na nb (by omega);grind
 .have:=OU (h.ring (bk _ hq)) na nb (by grind);grind
def Kd:∀l:List S,cU (l.map λ_=>false)=false
 |[] =>rfl
 |e::l=>by show(false !=cU (l.map λ_=>false))=false;rw[Kd l];rfl
def OA{r:aE}(h2:2<=r.length)(hn:∀v∈r,-2000<=v.x/\v.x<=2000/\ -2000<=v.y/\v.y<=2000){q:P3}(hq:0<q.d)(h:2000*q.d<q.x\/q.x< -(2000*q.d)\/2000*q.d<q.y\/q.y< -(2000*q.d)):br r q=false:=by
 have flat:∀q:P3,0<q.d->(2000*q.d<q.y\/q.y< -(2000*q.d))->br r q=false:=by
  intro q hq h;have dnq:∀v∈r,dn q v=decide (2000*q.d<q.y):=λv hv=>decide_eq_decide.2 (by obtain⟨_,_,h3,h4⟩:=hn v hv;have l1:=lg h3 (show 0<=q.d by omega);have l2:=lg h4 (show 0<=q.d by omega);omega)
  have:∀e∈aH r,hit q e=false:=λe he=>by obtain⟨ha,hb⟩:=iC he;unfold hit;grind
  unfold br;rw[lk (g:=λ_=>false) this];exact Kd _
 by_cases hy:2000*q.d<q.y\/q.y< -(2000*q.d)
 .grind
 .have hx:2000*q.d<q.x\/q.x< -(2000*q.d):=by omega
  rw[sH (q:=⟨q.x,q.y+4001*q.d,q.d⟩) h2 hq hq λe he=> ?_]
  .grind
  .rintro⟨x,y,s,t,hx0,hy0,hxy,hs,ht,g⟩;obtain⟨ha,hb⟩:=iC he;simp only[cmb,pt,P3.mk.injEq]at g;have a1:=hn _ ha;have b1:=hn _ hb;have l1:=dG a1.1 hx0;have l2:=dG a1.2.1 hx0;have l3:=dG b1.1 hy0;have l4:=dG b1.2.1 hy0;have hst:0<s+t:=by
    refine ko.1 λh=> ?_;have:s=0:=by omega
    have:t=0:=by omega
    subst s t;omega
   rcases hx with hx|hx
   .have:=Sc hx hst;grind
   .have:=Sc hx hst;grind
def Ey{r:aE}(h:VR r):∀v∈r,-2000<=v.x/\v.x<=2000/\ -2000<=v.y/\v.y<=2000:=λv hv=>by have:=E8 h.near hv;unfold ao at this;grind
def FH{s:Shape}(h:VS s){p q:P3}(hp:0<p.d)(hq:0<q.d)(hm:∀e∈bQ s,¬fY e p q):dB s p=dB s q:=by
 have key:∀r∈aD s,br r p=br r q:=λr hr=>sH (by have:=(h.ring hr).three;omega) hp hq λe he=>hm e (cQ.2 ⟨r,hr,he⟩);unfold dB;rw[key _ bo]
 congr 1
 rw[fg,bf,bf];constructor
 .intro g r hr;rw[<-key r (bk _ hr)];exact g r hr
 .intro g r hr;rw[key r (bk _ hr)];exact g r hr
def Tg.filled{s:Shape}{D:List S}(T:Tg s D):Filled (bz s) (sides s D) (dB s):=by
 have h:=T.vs;refine⟨T.segs.net,λp q hp hq hm=> ?_,λu hu w hw hne hno hi=> ?_,⟨2000,by omega,λq hq hf=> ?_⟩⟩
 .exact FH h hp hq λe he=>hm e.a e.b (.inl (fT _ he))
 .have c1:gJ s ⟨u,w⟩=true:=NH h hu hw hne (λe he x y k m hx hy hk hm'=>hno e.a e.b (.inl (fT _ he)) x y k m hx hy hk hm') hi;have c2:gJ s ⟨w,u⟩=true:=NH h hw hu hne.symm (λe he x y k m hx hy hk hm'=>by rw[kH k m];exact hno e.a e.b (.inl (fT _ he)) x y m k hx hy hm' hk) (by rw[kH];exact hi)
  rcases T.most u hu w hw hne c1 c2 with g|g|⟨d,hd,hm⟩
  .exact .inl (by grind)
  .exact .inr (by grind)
  .exfalso;obtain⟨_,_,m1,m2⟩:=FC hm;obtain⟨x,y,k,m,hx,hy,hk,hm',g⟩:=NE m1 m2;exact hno d.a d.b (.inl (fB _ hd)) x y k m (by omega) (by omega) hk hm' g
 .unfold dB;rw[OA (by have:=h.outer.three;omega) (Ey h.outer) hq hf];rfl
def yl(acc:List (Nat×Nat))(i k:Nat):Prop:=acc.Nodup/\∀p∈acc,p.1<i\/(p.1=i/\p.2<k)
def WG{s:Shape}{v:List V}{acc:List (Nat×Nat)}{i k:Nat}(h:yl acc i k):yl (pq s v acc i k) i (k+1):=by
 unfold pq;split
 .refine⟨?_,λp hp=> ?_⟩
  .rw[nR];refine⟨h.1,by simp,λa ha b hb e=> ?_⟩;obtain rfl:=bZ.1 hb;subst e;have:=h.2 _ ha;simp at this
  .rcases bi.1 hp with hp|hp
   .have:=h.2 p hp;omega
   grind
 .exact⟨h.1,λp hp=>by have:=h.2 p hp;omega⟩
def Mb{s:Shape}{v:List V}{acc:List (Nat×Nat)}{i:Nat}(h:yl acc i (i+1)):∀m,yl (rowP s v acc i m) i (i+1+m)
 |0=>h
 |m+1=>WG (Mb h m)
def OG(s:Shape)(v:List V):∀i,yl (eM s v i) i (i+1)
 |0=>⟨List.nodup_nil,λp hp=>by cases hp⟩
 |i+1=>by
  have:=Mb (s:=s) (v:=v) (OG s v i) (v.length-(i+1));exact⟨this.1,λp hp=>by have:=this.2 p hp;omega⟩
def Pu{s:Shape}(h:VS s){v:List V}(hv:∀x,x∈v↔x∈bz s)(hn:v.Nodup):Tg s (nL s v):=by
 obtain⟨e,F⟩:=GG h (by grind) hn;have O:=OG s v v.length;have hD:∀d∈nL s v,∃p∈dN s v,d=dD v p:=by grind
 have ends:∀d∈nL s v,d.a∈bz s/\d.b∈bz s/\d.a≠d.b:=λd hd=>by obtain⟨p,hp,rfl⟩:=hD d hd;have:=F.lt p hp;exact⟨(hv _).1 (eC (by omega)),(hv _).1 (eC this.2),λg=>by have:=mA hn (by omega) this.2 g;omega⟩
 refine⟨h,λd hd=> ?_,ends,λd hd d' hd'=> ?_,λa ha b hb hab c1 c2=> ?_,?_⟩
 .obtain⟨p,hp,rfl⟩:=hD d hd;exact F.chord p hp
 .have vd:∀d∈nL s v,bG d=true:=λd hd=>by obtain⟨h1,h2,_⟩:=ends d hd;unfold bG;rw[jr (js h h1) (by omega),jr (js h h2) (by omega)];rfl
  have ap:(nL s v).Pairwise λd e=>cC d e≠2:=(EZ s v).apart.imp λ{a b} h=>by rw[pV];exact h
  rcases AS (λa b h=>by rw[l6];exact h) ap d hd d' hd' with rfl|g
  .exact za (p:=d.a) (by rw[kF];simp) ⟨fP (vd d hd),fP (vd d hd)⟩
  .exact g
 .obtain⟨i,hi,rfl⟩:=fN.1 ((hv a).2 ha);obtain⟨k,hk,rfl⟩:=fN.1 ((hv b).2 hb);rcases yn i k with g|g|g
  .rcases(EZ s v).most i k g hk (.inl hi) (by rw[<-FR h ha hb hab];exact c1)with m|⟨d,hd,m⟩
   .exact .inl m
   .exact .inr (.inr ⟨d,hd,by rw[pV];exact m⟩)
  .grind
  .rcases(EZ s v).most k i g hi (.inl hk) (by rw[<-FR h hb ha hab.symm];exact c2)with m|⟨d,hd,m⟩
   .grind
   .refine .inr (.inr ⟨d,hd,?_⟩);rw[<-pV]at m;rw[l6]at m|-;exact xJ m
 .rw[<-e,i8];have O1:=O.1;refine(Cf.1 O1).imp ?_;rintro p q ⟨hp,hq,hne⟩;have lp:=F.lt p hp;have lq:=F.lt q hq;refine⟨λg=> ?_,λg=> ?_⟩
  .unfold dD at g;simp only[S.mk.injEq]at g;have i1:=mA hn (by omega) (by omega) g.1;have i2:=mA hn (by omega) (by omega) g.2;grind
  .unfold dD at g;simp only[S.mk.injEq]at g;have i1:=mA hn (by omega) (by omega) g.1;have i2:=mA hn (by omega) (by omega) g.2;omega
end Geo
section
namespace Geo
def Jt{a b c:V}(hne:c≠a)(n:Int){h:Int}(hc:0<ev (lin a b) (pt c))(hh:h<ev (lin a b) (pt c)):∃q,In (thin c a n) q/\In [lin a b,lin c a,over b c h] q:=by
 have hL2:=iW hne;have e9:(a.x-c.x)*(a.x-c.x)-(a.y-c.y)* -(a.y-c.y)=bj c a:=by unfold bj;grind
 obtain⟨M0,hM0,hI⟩:=ni hne (x:= -(a.y-c.y)) (y:=a.x-c.x) (by omega) n;have e1:∀M:Int,ev (lin a b) (ce c a M (-(a.y-c.y)) (a.x-c.x))=M*ev (lin a b) (pt c)+ev (lin a b) ⟨-(a.y-c.y),a.x-c.x,0⟩:=λM=>by unfold ev lin ce pt;grind
 generalize hk:ev (lin a b) ⟨-(a.y-c.y),a.x-c.x,0⟩=k at e1;have hP:=hI (M0+k.natAbs) (by omega);have hβ:0<ev (lin a b) (ce c a (M0+k.natAbs) (-(a.y-c.y)) (a.x-c.x)):=by rw[e1];have:=dG (show 1<=ev (lin a b) (pt c) by omega) (show 0<=M0+(k.natAbs:Int) by omega);omega
 generalize ce c a (M0+k.natAbs) (-(a.y-c.y)) (a.x-c.x)=P at*;obtain⟨p0,p1,p2,p3⟩:=lH.1 hP;have e0:ev (lin b c) (pt a)=ev (lin a b) (pt c):=gI a b c;refine⟨cmb (1+(ev (over b c h) P).natAbs) (pt a) 1 P,?_,by simp only[cmb,pt];omega,?_⟩
 .rw[lH,aX,aX,aX,cH,pZ,kK];have g1:=mpp (show 0<=1+((ev (over b c h) P).natAbs:Int) by omega) (show 0<=bj c a by omega);have g2:n*(1*ev (lin c a) P)=n*ev (lin c a) P:=by rw[IW]
  refine⟨by simp only[cmb,pt];omega,by omega,?_,?_⟩<;>rw[dU,vw]at* <;>omega
 .simp only[aj,cG,or_false,forall_eq_or_imp,forall_eq];refine⟨?_,?_,?_⟩
  .rw[aX,bq];omega
  .rw[aX,cH];omega
  .rw[aX];have ho:1<=ev (over b c h) (pt a):=by rw[lI,e0];show 1<=ev (lin a b) (pt c)-h*1;omega
   have:=dG ho (show 0<=1+((ev (over b c h) P).natAbs:Int) by omega);omega
section
variable {W:List V} {side:V->V->Prop} {ins:P3->Bool}
def Corner.both(H:Calm W side ins){a b c:V}{h:Int}(K:Corner W side a b c h)(hab:side a b)(hac:side a c)(hc:0<ev (lin a b) (pt c))(hh:h<ev (lin a b) (pt c)):Lft ins a b↔Lft ins c a:=by
 have N:=H.net;have key:∀{q1 q2:P3},In [lin a b,lin c a,over b c h] q1->In [lin a b,lin c a,over b c h] q2->ins q1=ins q2:=λh1 h2=>H.const (λu v huv=>K.free N huv) h1 h2;constructor
 .rintro⟨n0,hn⟩;obtain⟨q1,g1,g2⟩:=D5 (N.ne hab) n0 hc hh;refine x9 H (N.symm hac) λn=> ?_;obtain⟨q2,k1,k2⟩:=Jt (N.ne (N.symm hac)) n hc hh;grind
 .rintro⟨n0,hn⟩;obtain⟨q1,g1,g2⟩:=Jt (N.ne (N.symm hac)) n0 hc hh;refine x9 H hab λn=> ?_;obtain⟨q2,k1,k2⟩:=D5 (N.ne hab) n hc hh;grind
open Classical in
def Wo(_N:Net W side){a b c:V}(hab:side a b)(hac:side a c)(hc:0<ev (lin a b) (pt c))(hs:∀x,side a x->¬(0<ev (lin a b) (pt x)/\0<ev (lin c a) (pt x))):∃h,h<ev (lin a b) (pt c)/\Corner W side a b c h:=by
 have top:∀w∈W,w≠a->0<=ev (lin a b) (pt w)->0<=ev (lin c a) (pt w)->ev (lin b c) (pt w)<ev (lin a b) (pt c):=by
  intro w _ hwa h1 h2;have:=FS a b c (pt w);rw[show(pt w).d=1 from rfl,ym]at this;refine ko.1 λg=>hwa ?_;have z1:ev (lin a b) (pt w)=0:=by omega
  have z2:ev (lin c a) (pt w)=0:=by omega
  have z3:ev (lin b c) (pt w)=ev (lin a b) (pt c):=by omega
  have q1:=SO a b c ⟨1,0,0⟩ (pt w);have q2:=SO a b c ⟨0,1,0⟩ (pt w);rw[z1,z2,z3,tU,tU,nT,nT]at q1 q2;have r1:=mY (by omega) q1;have r2:=mY (by omega) q2;simp only[ev,pt]at r1 r2;cases w;cases a;simp only[V.mk.injEq];simp only at r1 r2;omega
 obtain⟨M,hM⟩:∃h,0<=h/\h<ev (lin a b) (pt c)/\∀w∈W,w≠a->0<=ev (lin a b) (pt w)->0<=ev (lin c a) (pt w)->ev (lin b c) (pt w)<=h:=by
  by_cases hl:(W.filter λw=>decide (w≠a/\0<=ev (lin a b) (pt w)/\0<=ev (lin c a) (pt w)))=[]
  .refine⟨0,i9 _,hc,λw hw h1 h2 h3=> ?_⟩;have:w∈(W.filter λw=>decide (w≠a/\0<=ev (lin a b) (pt w)/\0<=ev (lin c a) (pt w))):=by grind
   grind
  .obtain⟨w,hw,hm⟩:=Be (λw=>ev (lin b c) (pt w)) hl;obtain⟨w1,w2⟩:=fF.1 hw;have w3:=of_decide_eq_true w2;have:=top w w1 w3.1 w3.2.1 w3.2.2;refine⟨max 0 (ev (lin b c) (pt w)),by omega,by omega,λu hu h1 h2 h3=> ?_⟩;grind
 exact⟨M,hM.2.1,hab,hac,hc,hs,hM.1,hM.2.2⟩
def K7(H:Calm W side ins){a b c:V}(hab:side a b)(hac:side a c)(hc:0<ev (lin a b) (pt c))(hs:∀x,side a x->x=b\/x=c):Lft ins a b↔Lft ins c a:=by
 obtain⟨h,hh,K⟩:=Wo H.net hab hac hc λx hx ⟨h1,h2⟩=>by
  rcases hs x hx with rfl|rfl
  .rw[cH]at h1;omega
  .rw[bq]at h2;omega
 exact K.both H hab hac hc hh
end
end Geo
end
section
namespace Geo
structure T3 where
 a:V
 b:V
 c:V
deriving DecidableEq
def T3.sides(t:T3):List S:=[⟨t.a,t.b⟩,⟨t.b,t.c⟩,⟨t.c,t.a⟩]
def T3.rot(t:T3):T3:=⟨t.b,t.c,t.a⟩
section
variable {W:List V} {side:V->V->Prop} {ins:P3->Bool}
structure All3(W:List V)(side:V->V->Prop)(ins:P3->Bool)(TL:List T3):Prop where
 tri:∀t∈TL,Tri W side ins t.a t.b t.c
 all:∀a b c,Tri W side ins a b c->(⟨a,b,c⟩:T3)∈TL\/(⟨b,c,a⟩:T3)∈TL\/(⟨c,a,b⟩:T3)∈TL
 once:TL.Pairwise λt u=>t≠u/\t≠u.rot/\t≠u.rot.rot
def uK{t:T3}{e:S}:e∈t.sides↔(e.a=t.a/\e.b=t.b)\/(e.a=t.b/\e.b=t.c)\/(e.a=t.c/\e.b=t.a):=by cases e;unfold T3.sides;grind
def All3.perm(H:Filled W side ins){TL:List T3}(A:All3 W side ins TL){DS:List S}(hn:DS.Nodup)(hm:∀e:S,e∈DS↔side e.a e.b/\Lft ins e.a e.b):(TL.flatMap T3.sides).Perm DS:=by
 have N:=H.net;refine(List.perm_ext_iff_of_nodup ?_ hn).2 λe=> ?_
 .rw[ol,IY,IZ];refine⟨λl hl=> ?_,?_⟩
  .obtain⟨t,ht,rfl⟩:=bR.1 hl;have h:=A.tri t ht;have n2:=N.ne h.bc;unfold T3.sides;simp_all
  .rw[i8];refine(Cf.1 A.once).imp ?_;rintro t u ⟨ht,hu,h1,h2,h3⟩ e he e' he' rfl;have T:=A.tri t ht;have U:=A.tri u hu;have key:∀{a b c x:V},Tri W side ins a b c->Tri W side ins a b x->c=x:=λh h'=>UZ N h h';cases t;cases u;rw[uK]at he he';rcases he with⟨e1,e2⟩|⟨e1,e2⟩|⟨e1,e2⟩<;>rcases he' with⟨f1,f2⟩|⟨f1,f2⟩|⟨f1,f2⟩<;>rw[e1]at f1<;>rw[e2]at f2<;>subst f1<;>subst f2
   .grind
   .have:=key T U.rot;subst this;exact h2 rfl
   .have:=key T U.rot.rot;subst this;exact h3 rfl
   .have:=key T.rot U;subst this;exact h3 rfl
   .have:=key T.rot U.rot;grind
   .have:=key T.rot U.rot.rot;subst this;exact h2 rfl
   .have:=key T.rot.rot U;subst this;exact h2 rfl
   .have:=key T.rot.rot U.rot;subst this;exact h3 rfl
   .have:=key T.rot.rot U.rot.rot;grind
 .rw[hm,cQ];constructor
  .rintro⟨t,ht,he⟩;have T:=A.tri t ht;rcases uK.1 he with⟨e1,e2⟩|⟨e1,e2⟩|⟨e1,e2⟩<;>rw[e1,e2]
   .exact⟨T.ab,T.lft H⟩
   .exact⟨T.bc,T.rot.lft H⟩
   .exact⟨T.ca,T.rot.rot.lft H⟩
  .rintro⟨h1,h2⟩;obtain⟨c,T⟩:=AM H h1 h2;rcases A.all _ _ _ T with g|g|g
   .exact⟨_,g,uK.2 (by grind)⟩
   .exact⟨_,g,uK.2 (by grind)⟩
   .exact⟨_,g,uK.2 (by grind)⟩
def Kj(f:S->Int):∀TL:List T3,((TL.flatMap T3.sides).map f).sum=(TL.map λt=>f ⟨t.a,t.b⟩+f ⟨t.b,t.c⟩+f ⟨t.c,t.a⟩).sum
 |[] =>rfl
 |t::TL=>by
  have:=Kj f TL;rw[fG,dR,yt,this,cv,Ca];unfold T3.sides;grind
def All3.sum(H:Filled W side ins){TL:List T3}(A:All3 W side ins TL){DS:List S}(hn:DS.Nodup)(hm:∀e:S,e∈DS↔side e.a e.b/\Lft ins e.a e.b)(f:S->Int):
  (TL.map λt=>f ⟨t.a,t.b⟩+f ⟨t.b,t.c⟩+f ⟨t.c,t.a⟩).sum=(DS.map f).sum:=by
 rw[<-Kj];exact Kz ((A.perm H hn hm).map f)
open Classical in
def Ls(N:Net W side)(ins:P3->Bool)(hW:W.Nodup):∃TL,All3 W side ins TL:=by
 refine⟨(W.flatMap λa=>W.flatMap λb=>W.map λc=>(⟨a,b,c⟩:T3)).filter λt=>decide (Tri W side ins t.a t.b t.c/\bg t.a t.b=true/\bg t.a t.c=true),λt ht=> ?_,λa b c h=> ?_,?_⟩
 .grind
 .have wa:=N.mem h.ab;have wb:=N.mem h.bc;have wc:=N.mem h.ca;have n1:=N.ne h.ab;have n2:=N.ne h.bc;have n3:=N.ne h.ca;have inl:∀{a b c:V},a∈W->b∈W->c∈W->Tri W side ins a b c->bg a b=true->bg a c=true->(⟨a,b,c⟩:T3)∈(W.flatMap λa=>W.flatMap λb=>W.map λc=>(⟨a,b,c⟩:T3)).filter λt=>decide (Tri W side ins t.a t.b t.c/\bg t.a t.b=true/\bg t.a t.c=true):=
   by grind
  by_cases g1:bg a b=true
  .by_cases g2:bg a c=true
   .grind
   .have g3:=AA (by grind) n3.symm;exact .inr (.inr (inl wc wa wb h.rot.rot g3 (tu g3 g1)))
  .have g3:=AA (by grind) n1;by_cases g2:bg b c=true
   .exact .inr (.inl (inl wb wc wa h.rot g2 g3))
   .have g4:=AA (by grind) n2;exact .inr (.inr (inl wc wa wb h.rot.rot (tu g4 g3) g4))
 .have nd:(W.flatMap λa=>W.flatMap λb=>W.map λc=>(⟨a,b,c⟩:T3)).Nodup:=by
   rw[ol]at hW|-;rw[IY,IZ];refine⟨λl hl=> ?_,?_⟩
   .grind
   .grind
  refine(Cf.1 (ol.1 (nd.filter _))).imp ?_;rintro t u ⟨ht,hu,hne⟩;have T:=(of_decide_eq_true (fF.1 ht).2).2;have U:=(of_decide_eq_true (fF.1 hu).2).2;refine⟨hne,λe=> ?_,λe=> ?_⟩
  .rw[e]at T;have:=tu U.1 T.2;unfold T3.rot at this;rw[wT]at this;cases this
  .rw[e]at T;have:=tu U.2 T.1;unfold T3.rot at this;rw[wT]at this;cases this
end
end Geo
end
section
namespace Geo
def swp(e:S):S:=⟨e.b,e.a⟩
def Nd(e:S):swp (swp e)=e:=rfl
section
variable {W:List V} {side:V->V->Prop} {ins:P3->Bool}
def PS(H:Calm W side ins){a b:V}(hab:side a b):∃N0:Int,1<=N0/\∀n,N0<=n->(∀u v,side u v->fZ (thin a b n) ⟨u,v⟩)/\∀q,In (thin a b n) q->(Lft ins a b↔ins q=true):=by
 obtain⟨N0,h1,h2⟩:=H.net.thin hab;refine⟨N0,h1,λn hn=>⟨h2 n hn,λq hq=>⟨λ⟨m,hm⟩=> ?_,λhi=>x9 H hab λm=> ?_⟩⟩⟩
 .obtain⟨p,hp⟩:=xH (H.net.ne hab) (max n m);rw[H.const (h2 n hn) hq (qe (by omega) hp)];grind
 .obtain⟨p,hp⟩:=xH (H.net.ne hab) (max n m);exact⟨p,qe (by omega) hp,by rw[<-hi];exact H.const (h2 n hn) (qe (by omega) hp) hq⟩
end
def VR.wn{r:aE}(h:VR r):(aH r).Nodup:=by unfold aH;rw[if_neg (by have:=h.three;omega),ol,i8];refine(Cf.1 (ol.1 List.nodup_range)).imp ?_;rintro i k ⟨hi,hk,hne⟩ e;exact hne (h.inj (by grind) (by grind) (congrArg S.a e))
def VR.ZT{r:aE}(h:VR r){e:S}(he:e∈aH r):swp e∉aH r:=by
 intro hs;have h3:=h.three;obtain⟨_,i,hi,rfl⟩:=mem_edges.1 he;obtain⟨_,k,hk,e⟩:=mem_edges.1 hs;have e1:nth r ((i+1) % r.length)=nth r k:=congrArg S.a e;have e2:nth r i=nth r ((k+1) % r.length):=congrArg S.b e;have m1:=bw (i+1) (show 0<r.length by omega);have m2:=bw (k+1) (show 0<r.length by omega);have i1:=h.inj m1 hk e1;have i2:=h.inj hi m2 e2;by_cases g1:i+1<r.length
 .rw[dp g1]at i1;by_cases g2:k+1<r.length
  .rw[dp g2]at i2;omega
  .rw[show k+1=r.length by omega,kV]at i2;omega
 .rw[show i+1=r.length by omega,kV]at i1;rw[dp (by omega)]at i2;omega
def VR.calm{r:aE}(h:VR r):Calm r (eY (aH r)) (br r):=by refine⟨(Nq (λv hv=>jr (E8 h.near hv) (by omega)) (λe he=>⟨(iC he).1,(iC he).2,h.mD he⟩) (λe he v hv ho=>h.Kh hv he ho) (λe he d hd=>h.nocross he hd)).net,λp q hp hq hm=> ?_⟩;exact sH (by have:=h.three;omega) hp hq λe he=>hm e.a e.b (.inl he)
def VR.flip{r:aE}(h:VR r){a b:V}(he:(⟨a,b⟩:S)∈aH r):Lft (br r) a b↔¬Lft (br r) b a:=by
 have C:=h.calm;have hab:eY (aH r) a b:= .inl he;have hne:=C.net.ne hab;obtain⟨n1,_,h1⟩:=PS C hab;obtain⟨n2,_,h2⟩:=PS C (C.net.symm hab);obtain⟨p,q,hp,hq,hpq⟩:=Geo.flip (r:=r) (by have:=h.three;omega) h.wn hne he (N:=max n1 n2) (by omega) λe he' hn=>by
  have hs:eY (aH r) e.a e.b:= .inl he';refine⟨?_,(h1 _ (by omega)).1 _ _ hs,(h2 _ (by omega)).1 _ _ hs⟩;rcases C.net.off hab hs with g|⟨g1,g2⟩|⟨g1,g2⟩
  .exact g
  .exact absurd (by cases e;grind) hn
  .exfalso;refine h.ZT he ?_;have:swp ⟨a,b⟩=e:=by cases e;simp only at g1 g2;unfold swp;rw[g1,g2]
   grind
 grind
def VR.around{r:aE}(h:VR r){i:Nat}(hi:i<r.length){x:V}(hx:eY (aH r) (nth r ((i+1) % r.length)) x):x=nth r ((i+1+1) % r.length)\/x=nth r i:=by
 have hm:=bw (i+1) (show 0<r.length by omega);rcases hx with hx|hx
 .obtain⟨_,k,hk,e⟩:=mem_edges.1 hx;have e1:=h.inj hm hk (congrArg S.a e);have e2:x=nth r ((k+1) % r.length):=congrArg S.b e;refine .inl ?_;rw[e2,<-e1,kX]
 .obtain⟨_,k,hk,e⟩:=mem_edges.1 hx;have e1:=h.inj hm (bw (k+1) (by grind)) (congrArg S.b e);have e2:x=nth r k:=congrArg S.a e;refine .inr ?_;rw[e2]
  congr 1
  by_cases g1:i+1<r.length<;>by_cases g2:k+1<r.length
  .rw[dp g1,dp g2]at e1;omega
  .rw[dp g1,show k+1=r.length by omega,kV]at e1;omega
  .rw[dp g2,show i+1=r.length by omega,kV]at e1;omega
  .omega
def xo{r:aE}(h:VR r){i:Nat}(hi:i<r.length):bO r i∈aH r:=mem_edges.2 ⟨by have:=h.three;omega,i,hi,rfl⟩
def VR.next{r:aE}(h:VR r){i:Nat}(hi:i<r.length):Lft (br r) (bO r i).a (bO r i).b↔Lft (br r) (bO r ((i+1) % r.length)).a (bO r ((i+1) % r.length)).b:=by
 have C:=h.calm;have hm:=bw (i+1) (show 0<r.length by omega);have t:=h.turn' i hi;have ei:bO r i=⟨nth r i,nth r ((i+1) % r.length)⟩:=rfl;have ek:bO r ((i+1) % r.length)=⟨nth r ((i+1) % r.length),nth r ((i+1+1) % r.length)⟩:=by show(⟨_,nth r (((i+1) % r.length+1) % r.length)⟩:S)=_;rw[kX]
 have m1:=xo h hi;have m2:=xo h hm;have ar:=λx=>h.around hi (x:=x);rw[ei]at m1|-;rw[ek]at m2|-;unfold Geo.turn at t;rw[Ne,mq,<-dO]at t;generalize nth r i=u at*;generalize nth r ((i+1) % r.length)=v at*;generalize nth r ((i+1+1) % r.length)=w at*;rcases kU t with g|g
 .have g':0<ev (lin v u) (pt w):=by rw[iV];omega
  have:=K7 C (.inr m1) (.inl m2) g' (by grind);rw[h.flip m1,h.flip m2,this]
 .have g':0<ev (lin v w) (pt u):=by rw[gI];exact g
  exact(K7 C (.inl m2) (.inr m1) g' ar).symm
def VR.FY{r:aE}(h:VR r):∀i,i<r.length->(Lft (br r) (bO r i).a (bO r i).b↔Lft (br r) (bO r 0).a (bO r 0).b)
 |0,_=>Iff.rfl
 |i+1,hi=>by
  have:=h.next (i:=i) (by omega);rw[dp hi]at this;rw[<-this];exact h.FY i (by omega)
def OV{s:Shape}{D:List S}(T:Tg s D){a b:V}(hab:sides s D a b)(hi:dB s (cmb 1 (pt a) 1 (pt b))=true)
  (ho:∀e∈bQ s,∀x y k:Int,0<=x->0<=y->0<k->cmb x (pt e.a) y (pt e.b)≠cmb k (pt a) k (pt b)):Lft (dB s) a b:=by
 have H:=T.filled;have hne:=H.net.ne hab;have hL:=iW hne;refine x9 H.calm hab λn=> ?_;obtain⟨N0,_,h2⟩:=H.net.thin hab;obtain⟨q,hq⟩:=xH hne (max n N0);refine⟨q,qe (by omega) hq,?_⟩;rw[<-hi];refine FH T.vs hq.1 (by simp[cmb,pt]) λe he hm=> ?_;obtain⟨x,y,t,k,hx,hy,hxy,ht,hk,g⟩:=hm;rcases bl 0 t with ht'|ht'
 .obtain⟨f,hf,hle⟩:=h2 (max n N0) (by omega) e.a e.b (.inl (fT _ he)) x y hx hy hxy;have e1:x*ev f (pt e.a)+y*ev f (pt e.b)=t*ev f q+k*(ev f (pt a)+ev f (pt b)):=by rw[<-aX,g,aX,aX,IW,IW]
  dsimp only at hle;have p1:=aa ht' (hq.2 f hf);have p2:0<=ev f (pt a)+ev f (pt b):=by
   unfold thin at hf;simp only[aj,cG,or_false]at hf;rcases hf with rfl|rfl|rfl
   .rw[bq,cH];omega
   .rw[k9,k9,bq,cH,kK,pZ];omega
   .rw[n8,n8,bq,cH,kK,pZ,AC];omega
  have:=mpp hk p2;omega
 .have:t=0:=by omega
  subst this;have hd:=congrArg P3.d g;simp only[cmb,pt]at hd;refine ho e he x y k hx hy (by omega) ?_;rw[g];unfold cmb;grind
def mo{s:Shape}{D:List S}(T:Tg s D){d e:S}(hd:d∈D)(he:e∈bQ s):e≠d/\e≠swp d:=by
 have h:=T.vs;have hc:=T.chord d hd;obtain⟨d1,d2,d3⟩:=T.ends d hd;have vd:bG d=true:=by unfold bG;rw[jr (js h d1) (by omega),jr (js h d2) (by omega)];rfl
 have ve:=Jl h he;unfold gJ at hc;rw[bn,bf]at hc;have ht:=hc.1 e he;have k:cB e d e.a->cB e d e.b->False:=λo1 o2=>by have:=(oC e d).over e.a e.b (by simp) (by simp) (h.mD he) o1 o2;unfold cP at ht;grind
 refine⟨λg=> ?_,λg=> ?_⟩
 .subst g;exact k ⟨fP ve,fP ve⟩ ⟨jI ve,jI ve⟩
 .subst g;exact k ⟨fP ve,jI vd⟩ ⟨jI ve,fP vd⟩
def NB{s:Shape}{D:List S}(T:Tg s D){a b:V}(hd:(⟨a,b⟩:S)∈D\/(⟨b,a⟩:S)∈D):∀e∈bQ s,∀x y k:Int,0<=x->0<=y->0<k->cmb x (pt e.a) y (pt e.b)≠cmb k (pt a) k (pt b):=by
 intro e he x y k hx hy hk g;have N:=T.segs.net;have hab:sides s D a b:=hd.imp (by grind) (by grind);have hs:sides s D e.a e.b:= .inl (fT _ he);have vt:∀{v:V} {y:Int},v∈bz s->cmb k (pt a) k (pt b)=cmb y (pt v) 0 (pt v)->0<y->False:=λ{v y} hv g hy=>by
  rcases N.clear hab hv k k y (by omega) (by omega) g hy with rfl|rfl
  .have:=uX (a:=v) (b:=b) (s:=k) hk (by rw[g];have:=congrArg P3.d g;simp only[cmb,pt]at this|-;grind);exact N.ne hab this.symm
  .have:=uX (a:=v) (b:=a) (s:=k) hk (by rw[kH,g];have:=congrArg P3.d g;simp only[cmb,pt]at this|-;grind);exact N.ne hab this
 have hd0:=congrArg P3.d g;rw[uC,uC]at hd0;have ev:=Dq he;rcases bl 0 x with hx'|hx'
 .rcases bl 0 y with hy'|hy'
  .rcases N.apart hs hab _ _ _ _ hx' hy' hk hk g with⟨e1,e2⟩|⟨e1,e2⟩<;>rcases hd with hd|hd
   .exact(mo T hd he).1 (by cases e;grind)
   .exact(mo T hd he).2 (by cases e;simp only at e1 e2;rw[e1,e2];rfl)
   .exact(mo T hd he).2 (by cases e;simp only at e1 e2;rw[e1,e2];rfl)
   .exact(mo T hd he).1 (by cases e;grind)
  .have:y=0:=by omega
   subst this;exact vt ev.1 (by rw[<-g];unfold cmb;simp) hx'
 .have:x=0:=by omega
  subst this;exact vt ev.2 (by rw[<-g];unfold cmb;simp) (show 0<y by omega)
def NC{s:Shape}{D:List S}(T:Tg s D){d:S}(hd:d∈D):Lft (dB s) d.a d.b/\Lft (dB s) d.b d.a:=by obtain⟨d1,d2,_⟩:=T.ends d hd;have hi:=NI T.vs d1 d2 (T.chord d hd);refine⟨OV T (.inl (fB _ hd)) hi (NB T (.inl hd)),OV T (.inr (fB _ hd)) ?_ (NB T (.inr hd))⟩;rw[kH];exact hi
end Geo
end
namespace Geo
def jQ(E D:List S):List S:=E++(D++D.map swp)
def Ff{l:List S}(h:l.Nodup):(l.map swp).Nodup:=by rw[ol]at h|-;rw[i8];exact h.imp λ{a b} hne e=>hne (by rw[<-Nd a,e,Nd])
def kg{l:List S}{e:S}:e∈l.map swp↔swp e∈l:=by rw[bR];exact⟨λ⟨d,hd,e⟩=>by rw[<-e];exact hd,λh=>⟨swp e,h,rfl⟩⟩
def Dr{s:Shape}{D E:List S}(T:Tg s D)(hE:E.Nodup)(hs:∀e∈E,e∈bQ s\/swp e∈bQ s):(jQ E D).Nodup:=by
 have off:∀e∈E,∀d∈D,e≠d/\e≠swp d:=λe he d hd=>by
  rcases hs e he with g|g
  .exact mo T hd g
  .have:=mo T hd g;exact⟨by grind,λh=>this.1 (by rw[h];rfl)⟩
 have hD:D.Nodup:=ol.2 (T.once.imp (by grind));unfold jQ;rw[nR,nR];refine⟨hE,⟨hD,Ff hD,λa ha b hb e=> ?_⟩,λa ha b hb e=> ?_⟩
 .subst e;rw[kg]at hb;rcases AS (R:=λd e:S=>d≠swp e) (λa b h e=>h (by rw[e];rfl)) (T.once.imp λ{a b} h=>h.2) _ ha _ hb with g|g
  .exact(T.ends a ha).2.2 (congrArg S.a g)
  .exact g rfl
 grind
def Ad{s:Shape}{D E:List S}(T:Tg s D)(hm:∀e:S,e∈E↔eY (bQ s) e.a e.b/\Lft (dB s) e.a e.b)(e:S):e∈jQ E D↔sides s D e.a e.b/\Lft (dB s) e.a e.b:=by
 unfold jQ;rw[bi,bi,kg,hm];constructor
 .rintro(⟨h1,h2⟩|h|h)
  .exact⟨h1.imp (by grind) (by grind),h2⟩
  .exact⟨.inl (fB _ h),(NC T h).1⟩
  .exact⟨.inr (fB _ h),(NC T h).2⟩
 .rintro⟨h1,h2⟩;rcases h1 with h|h<;>rcases bi.1 h with h|h
  .exact .inl ⟨.inl h,h2⟩
  .simp_all
  .exact .inl ⟨.inr h,h2⟩
  .exact .inr (.inr h)
def XT(f:S->Int)(E D:List S):((jQ E D).map f).sum=(E.map f).sum+(D.map λd=>f d+f (swp d)).sum:=by unfold jQ;rw[dR,dR,yt,yt,di,Nf];rfl
def En{α:Type}{f:α->Int}:∀{l:List α},(∀x∈l,f x=0)->(l.map f).sum=0
 |[],_=>rfl
 |x::l,h=>by rw[cv,Ca,h x (by grind),En (by grind)];rfl
def Ju{α:Type}{f:α->Int}:∀{l:List α},(∀x∈l,0<=f x)->0<=(l.map f).sum
 |[],_=>i9 _
 |x::l,h=>by
  have:=Ju λy hy=>h y (bk _ hy);grind
def Wl(a b c:V):cross a b+cross b c+cross c a=ev (lin a b) (pt c):=by unfold cross ev lin pt;grind
def VR.alone{r:aE}(h:VR r):VS ⟨r,[]⟩:=by refine⟨Nat.zero_le _,h,by grind,?_,by grind,by grind,by grind,by grind,by grind⟩;have:=h.most;unfold gH aD;grind
def VR.left{r:aE}(h:VR r){e:S}(he:e∈aH r):Lft (br r) e.a e.b:=by
 obtain⟨_,i,hi,rfl⟩:=mem_edges.1 he;rw[h.FY i hi];refine cu λhn=> ?_;have hv:=h.alone;have hvs:bz ⟨r,[]⟩=r:=by unfold bz aD;simp
 have hes:bQ ⟨r,[]⟩=aH r:=by unfold bQ aD;simp
 have T:=Pu hv (v:=r) (by grind) h.nodup;have H:=T.filled;have hi':dB ⟨r,[]⟩=br r:=by funext p;unfold dB;simp
 obtain⟨TL,A⟩:=Ls H.net (dB ⟨r,[]⟩) hv.nodup;have no:∀e∈aH r,¬Lft (br r) e.a e.b:=λe he=>by obtain⟨_,i,hi,rfl⟩:=mem_edges.1 he;rw[h.FY i hi];exact hn
 have hm:∀e:S,e∈(aH r).map swp↔eY (bQ ⟨r,[]⟩) e.a e.b/\Lft (dB ⟨r,[]⟩) e.a e.b:=λe=>by
  rw[kg,hi',hes];constructor
  .intro g;refine⟨.inr g,cu λhx=>no _ g ?_⟩;exact(h.flip (a:=e.b) (b:=e.a) g).2 hx
  .rintro⟨g|g,g2⟩
   .grind
   .exact g
 have nd:=Dr T (Ff h.wn) λe he=> .inr (by rw[hes];exact kg.1 he);have S1:=A.sum H nd (Ad T hm) (λe=>cross e.a e.b);rw[XT,En (f:=λd:S=>cross d.a d.b+cross (swp d).a (swp d).b) λd _=>by unfold cross swp;grind,di]at S1;have e1:((aH r).map ((λe:S=>cross e.a e.b)∘swp)).sum= -Geo.area r:=by
  rw[Dv (by omega)];have:((aH r).map λe=>cross e.a e.b+((λe:S=>cross e.a e.b)∘swp) e).sum=0:=En λd _=>by simp only[Cb,cross,swp];grind
  rw[Nf]at this;omega
 have S2:0<=(TL.map λt=>cross t.a t.b+cross t.b t.c+cross t.c t.a).sum:=Ju λt ht=>by rw[Wl];have:=(A.tri t ht).left;omega
 have:=h.area;grind
def VR.right{r:aE}(h:VR r){e:S}(he:e∈aH r):¬Lft (br r) e.b e.a:=(h.flip he).1 (h.left he)
end Geo
section
namespace Geo
def Lu{r:aE}(hr:VR r){v:V}(hw:ao v 2000=true)(h:dL r v≠1):dL r v=if br r (pt v)then 2 else 0:=by
 have h4:=jr hw (show(2000:Int)<=4000 by omega);have hp:c6 (fD v)=true:=by rw[DF];exact h4
 unfold dL at h|-;rw[h4]at h|-;rw[qZ hr hp λe he=> ?_]
 .rfl
 refine o7.2 λho=>h ?_;unfold bP;rw[(iB _).2 hr,hp];exact ue ⟨e,he,ho⟩
def PT{r:aE}(hr:VR r){v:V}(hw:ao v 2000=true)(h:dL r v=2):br r (pt v)=true:=by have:=Lu hr hw (by omega);grind
def Zj{r:aE}(hr:VR r){v:V}(hw:ao v 2000=true)(h:dL r v=0):br r (pt v)=false:=by have:=Lu hr hw (by omega);grind
section
variable {s:Shape} {D:List S}
def uI{r:aE}(hr:r∈aD s){v:V}(hv:v∈r):v∈bz s:=kY.2 ⟨r,hr,hv⟩
def pJ{r:aE}(hr:r∈aD s){e:S}(he:e∈aH r):sides s D e.a e.b:= .inl (fT _ (cQ.2 ⟨r,hr,he⟩))
def rn(T:Tg s D){r q:aE}(hr:r∈aD s)(hq:q∈aD s)(hrq:r≠q){v:V}(hv:v∈r){e:S}(he:e∈aH q):v≠e.a/\v≠e.b:=by obtain⟨h1,h2⟩:=iC he;have:=zH (aD s) T.vs.nodup r hr q hq;grind
def EF(T:Tg s D){r q:aE}(hr:r∈aD s)(hq:q∈aD s)(hrq:r≠q){a b:V}(ha:a∈r)(hab:sides s D a b):∃N0:Int,∀n,N0<=n->∀p,In (thin a b n) p->br q p=br q (pt a):=by
 have N:=T.segs.net;obtain⟨N0,_,h2⟩:=N.thin hab;refine⟨N0,λn hn p hp=>(sH (by have:=(T.vs.ring hq).three;omega) (show(0:Int)<1 by omega) hp.1 λe he hm=> ?_).symm⟩;obtain⟨x,y,k,t,hx,hy,hxy,hk,ht,g⟩:=hm;have hs:sides s D e.a e.b:=pJ hq he;rcases bl 0 t with ht'|ht'
 .obtain⟨f,hf,hle⟩:=h2 n hn e.a e.b hs x y hx hy hxy;dsimp only at hle;have e1:x*ev f (pt e.a)+y*ev f (pt e.b)=k*ev f (pt a)+t*ev f p:=by rw[<-aX,g,aX]
  have p1:=aa ht' (hp.2 f hf);have p2:0<=ev f (pt a):=by
   have hL:=iW (N.ne hab);unfold thin at hf;simp only[aj,cG,or_false]at hf;rcases hf with rfl|rfl|rfl
   .rw[bq];omega
   .rw[k9,bq,kK];omega
   .rw[n8,bq,pZ,AC];omega
  have:=mpp hk p2;omega
 .have:t=0:=by omega
  subst this;have hd:=congrArg P3.d g;simp only[cmb,pt]at hd;have hov:=rn T hr hq hrq ha he;rcases N.clear hs (uI hr ha) x y k hx hy (by rw[g];unfold cmb;simp) (by omega)with e1|e1
  .grind
  grind
def VY(T:Tg s D){r q:aE}(hr:r∈aD s)(hq:q∈aD s)(hrq:r≠q){e:S}(he:e∈aH r):br q (pt e.a)=br q (pt e.b):=by
 have N:=T.segs.net;refine sH (by have:=(T.vs.ring hq).three;omega) (show(0:Int)<1 by omega) (show(0:Int)<1 by omega) λd hd hm=> ?_;obtain⟨h1,h2⟩:=iC he;have o1:=rn T hr hq hrq h1 hd;have o2:=rn T hr hq hrq h2 hd;rcases N.off (pJ hr he) (pJ hq hd)with⟨_,g⟩|⟨g,_⟩|⟨g,_⟩
 .rcases g with g|⟨g,_⟩|⟨g,_⟩|⟨g,_⟩|⟨g,_⟩
  .exact g hm
  .grind
  .grind
  .grind
  grind
 .grind
 grind
def NQ(T:Tg s D){r q:aE}(hr:r∈aD s)(hq:q∈aD s)(hrq:r≠q):∀i,i<r.length->br q (pt (nth r i))=br q (pt (nth r 0))
 |0,_=>rfl
 |i+1,hi=>by
  have:=VY T hr hq hrq (e:=bO r i) (xo (T.vs.ring hr) (by omega));rw[show(bO r i).b=nth r (i+1) by show nth r ((i+1) % r.length)=_;rw[dp hi],show(bO r i).a=nth r i from rfl]at this;rw[<-this];exact NQ T hr hq hrq i (by omega)
def GA(T:Tg s D){r:aE}(hr:r∈s.holes){v:V}(hv:v∈r):dL s.outer v=2:=by obtain⟨i,hi,rfl⟩:=qi hr;have:=T.vs.ins i hi;unfold bK at this;grind
def xn(T:Tg s D){r:aE}(hr:r∈s.holes):r≠s.outer:=by intro e;have h:=T.vs;have hv:nth r 0∈r:=fN.2 ⟨0,by have:=(h.ring (bk _ hr)).three;omega,rfl⟩;obtain⟨i,hi,rfl⟩:=qi hr;have ap:=h.apo i hi;rw[e]at ap hv;exact wR h.outer ap hv (xo h.outer (i:=0) (by grind)) (by rw[<-e];exact fP (jX (h.hole i hi).near 0 (by grind)))
def K4(T:Tg s D){q:aE}(hq:q∈s.holes){v:V}(hv:v∈s.outer):br q (pt v)=false:=by
 have h:=T.vs;have N:=T.segs.net;have hq':q∈aD s:=bk _ hq;have ho':s.outer∈aD s:=bo;have hne:=(xn T hq).symm;have h3:=h.outer.three;have all:=NQ T ho' hq' hne;have li:=qY (r:=s.outer) (by omega);have low:br q (pt (nth s.outer (dM s.outer)))=false:=by
  have hv0:nth s.outer (dM s.outer)∈s.outer:=eC li;have least:∀a∈s.outer,(nth s.outer (dM s.outer)).y<=a.y:=λa ha=>by obtain⟨i,hi,rfl⟩:=fN.1 ha;have:=uB s.outer s.outer.length i hi;unfold leV at this;unfold dM;omega
  have below:∀u∈q,(nth s.outer (dM s.outer)).y<=u.y:=λu hu=>by obtain⟨_,_,⟨a,ha,hay⟩,_⟩:=U2 (by omega) (GA T hq hu);grind
  have fr:=Ey h.outer _ hv0;generalize nth s.outer (dM s.outer)=v0 at*;rw[sH (q:=⟨v0.x,v0.y-5000,1⟩) (by have:=(h.ring hq').three;omega) (show(0:Int)<1 by omega) (by grind) λe he hm=> ?_]
  .exact OA (by have:=(h.ring hq').three;omega) (Ey (h.ring hq')) (by grind) (by grind)
  .obtain⟨x,y,k,t,hx,hy,hxy,hk,ht,g⟩:=hm;obtain⟨e1,e2⟩:=iC he;have b1:=dG (below _ e1) hx;have b2:=dG (below _ e2) hy;have hov:=rn T ho' hq' hne hv0 he;have gy:=congrArg P3.y g;have gd:=congrArg P3.d g;simp only[cmb,pt]at gy gd;have t0:t=0:=by
    have m1:x*v0.y+y*v0.y=k*v0.y+t*v0.y:=by rw[<-o6,<-o6];congr 1;omega
    have m2:t*(v0.y-5000)=t*v0.y-t*5000:=Int.mul_sub _ _ _;omega
   subst t0;rcases N.clear (pJ hq' he) (uI ho' hv0) x y k hx hy (by rw[g];unfold cmb;simp) (by omega)with e1|e1
   .grind
   grind
 obtain⟨i,hi,rfl⟩:=fN.1 hv;grind
def Mu(T:Tg s D){r q:aE}(hr:r∈s.holes)(hq:q∈s.holes)(hrq:r≠q){v:V}(hv:v∈r):br q (pt v)=false:=by
 have h:=T.vs;have hw:ao v 2000=true:=js h (uI (bk _ hr) hv);refine Zj (h.ring (bk _ hq)) hw ?_;obtain⟨i,hi,rfl⟩:=qi hr;obtain⟨k,hk,rfl⟩:=qi hq;have key:bK (aA s.holes i) (aA s.holes k) 0=true:=by
  rcases yn i k with g|g|g
  .exact h.out2 k i g hk
  .grind
  .exact h.out1 i k g hi
 unfold bK at key;grind
def Gw{α:Type}{P:α->Int->Prop}:∀{l:List α},(∀x∈l,∃N0:Int,∀n,N0<=n->P x n)->∃N0:Int,∀n,N0<=n->∀x∈l,P x n
 |[],_=>⟨0,by grind⟩
 |x::l,h=>by
  obtain⟨n1,h1⟩:=h x (by grind);obtain⟨n2,h2⟩:=Gw λy hy=>h y (bk _ hy);refine⟨max n1 n2,λn hn y hy=> ?_⟩;grind
def KA(T:Tg s D){a b:V}(ha:a∈s.outer)(hab:sides s D a b):∃N0:Int,∀n,N0<=n->∀p,In (thin a b n) p->dB s p=br s.outer p:=by
 obtain⟨N0,h0⟩:=Gw (l:=s.holes) (P:=λq n=>∀p,In (thin a b n) p->br q p=br q (pt a)) λq hq=>EF T bo (bk _ hq) (xn T hq).symm ha hab;refine⟨N0,λn hn p hp=> ?_⟩;unfold dB;have:(s.holes.all λh=> !(br h p))=true:=by rw[bf];intro q hq;rw[h0 n hn q hq p hp,K4 T hq ha];rfl
 grind
def LU(T:Tg s D){r:aE}(hr:r∈s.holes){a b:V}(ha:a∈r)(hab:sides s D a b):∃N0:Int,∀n,N0<=n->∀p,In (thin a b n) p->dB s p= !(br r p):=by
 have hr':r∈aD s:=bk _ hr;obtain⟨N1,h1⟩:=EF T hr' bo (xn T hr) ha hab;obtain⟨N0,h0⟩:=Gw (l:=s.holes) (P:=λq n=>r≠q->∀p,In (thin a b n) p->br q p=br q (pt a)) λq hq=>by
  by_cases g:r=q
  .simp_all
  .obtain⟨m,hm⟩:=EF T hr' (bk _ hq) g ha hab;exact⟨m,by grind⟩
 refine⟨max N0 N1,λn hn p hp=> ?_⟩;unfold dB;rw[h1 n (by omega) p hp,PT T.vs.outer (js T.vs (uI hr' ha)) (GA T hr ha),kC,fg,bf];refine⟨λg=>g r hr,λg q hq=> ?_⟩;by_cases e:r=q
 .grind
 .rw[h0 n (by omega) q hq e p hp,Mu T hr hq e ha];rfl
def z8{ins ins':P3->Bool}{a b:V}(h:∃N0:Int,∀n,N0<=n->∀p,In (thin a b n) p->ins p=ins' p):Lft ins a b↔Lft ins' a b:=by
 obtain⟨N0,h⟩:=h;constructor<;>rintro⟨m,g⟩
 .exact⟨max N0 m,by grind⟩
 .exact⟨max N0 m,by grind⟩
def OQ{W:List V}{side:V->V->Prop}{ins:P3->Bool}(H:Calm W side ins){a b:V}(hab:side a b):Lft (λp=> !ins p) a b↔¬Lft ins a b:=by
 constructor
 .intro h g;exact g.not (H.net.ne hab) h
 .intro h;rcases aAQ H hab with g|g
  .grind
  .exact g
def ww(T:Tg s D){e:S}(he:e∈aH s.outer):Lft (dB s) e.a e.b/\¬Lft (dB s) e.b e.a:=by obtain⟨h1,h2⟩:=iC he;have hs:sides s D e.a e.b:=pJ bo he;rw[z8 (KA T h1 hs),z8 (KA T h2 hs.symm)];exact⟨T.vs.outer.left he,T.vs.outer.right he⟩
def xM(T:Tg s D){r:aE}(hr:r∈s.holes){e:S}(he:e∈aH r):Lft (dB s) e.b e.a/\¬Lft (dB s) e.a e.b:=by obtain⟨h1,h2⟩:=iC he;have hs:sides s D e.a e.b:=pJ (bk _ hr) he;have hv:=T.vs.ring (bk _ hr);have C:=hv.calm;rw[z8 (LU T hr h2 hs.symm),z8 (LU T hr h1 hs),OQ C (.inl he),OQ C (.inr he)];exact⟨hv.right he,λg=>g (hv.left he)⟩
def iK(s:Shape):List S:=aH s.outer++(s.holes.flatMap aH).map swp
def xN(s:Shape):bQ s=aH s.outer++s.holes.flatMap aH:=by unfold bQ aD;grind
def sJ(T:Tg s D)(e:S):e∈iK s↔eY (bQ s) e.a e.b/\Lft (dB s) e.a e.b:=by
 unfold iK eY;rw[bi,kg,xN,bi,bi,cQ,cQ,cQ];constructor
 .rintro(h|⟨r,hr,h⟩)
  .exact⟨.inl (.inl h),(ww T h).1⟩
  .exact⟨.inr (.inr ⟨r,hr,h⟩),(xM T hr h).1⟩
 .rintro⟨(h|⟨r,hr,h⟩)|(h|⟨r,hr,h⟩),g⟩
  .exact .inl h
  .exact absurd g (xM T hr h).2
  .exact absurd g (ww T h).2
  .exact .inr ⟨r,hr,h⟩
def VS.wn(h:VS s):(bQ s).Nodup:=by
 have hn:=h.nodup;have e:(bQ s).map S.a=bz s:=by
  unfold bQ bz;have key:∀l:List aE,(∀r∈l,VR r)->(l.flatMap aH).map S.a=l.flatten:=by
   intro l;induction l with
   |nil=>intro _;rfl
   |cons r l ih=>
    intro hl;rw[fG,dR,mX,ih (by grind),MN (by have:=(hl r (by grind)).three;omega)]
  exact key _ λr hr=>h.ring hr
 rw[ol,<-e,i8]at hn;exact ol.2 (hn.imp (by grind))
def KX(T:Tg s D):(iK s).Nodup:=by have hn:=T.vs.wn;rw[xN,nR]at hn;unfold iK;rw[nR];refine⟨hn.1,Ff hn.2.1,λa ha b hb e=> ?_⟩;subst e;rw[kg,cQ]at hb;obtain⟨r,hr,hb⟩:=hb;have e1:=(iC ha).1;have e2:=(iC hb).2;exact xn T hr (zH (aD s) T.vs.nodup r (bk _ hr) s.outer bo _ e2 e1)
end
end Geo
end
end Go.Proofs.YtdaeofhdgabhjaaGreat
