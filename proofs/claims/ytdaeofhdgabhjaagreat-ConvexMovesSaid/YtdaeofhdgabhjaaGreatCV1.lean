/- What the statement stands on: contracts of functions, plain laws. Part 1 of 6, no condition of its own. (G1 G2 G3 G4 G5 G6 G7 G8 G9 H1 H2 H3 H4 H9 H6 H7 H8 I1 I2 I3 I4 I5 I6 I7 I8 I9 I10 H5 I11 I12 I13 I14 I15 I16) -/

set_option linter.all false
set_option maxRecDepth 100000
set_option maxHeartbeats 8000000
open Int renaming lt_or_gt_of_ne->lK,mul_le_mul_left->Hm,mul_zero->dw,lt_or_le->bo,mul_pos_of_neg_of_neg->vG,mul_nonneg->cM,mul_neg_of_neg_of_pos->lL,mul_eq_zero->dd,le_total->vJ,mul_le_mul_of_nonneg_right->lM,zero_mul->yP,mul_one->yQ,dvd_iff_tmod_eq_zero->R6,add_zero->nD,mul_pos->bV,mul_le_mul_of_nonneg_left->dg,lt_trichotomy->vM,pos_of_mul_pos_right->SA,mul_neg_of_pos_of_neg->gQ,le_of_lt->yU,zero_add->vN,mul_neg->mJ,mul_nonpos_of_nonpos_of_nonneg->Hw,neg_mul->nH,not_le->ki,le_refl->iz,mul_comm->fu,sub_neg->Hy,one_mul->Hz,eq_of_mul_eq_mul_left->mK,not_lt->CP,add_mul->rI,mul_lt_mul_of_pos_left->SB
open Bool renaming and_eq_true->bm,true_and->oc,false_eq_true->qB,not_true->yO,eq_iff_iff->eY,or_eq_true->je,and_true->Hq,eq_false_iff->vO
open List renaming mem_cons->bO,not_mem_nil->cl,foldl_cons->vH,pairwise_cons->gX,Pairwise.nil->rE,mem_filter->fB,length_nil->mH,length_cons->gY,range->bP,all_eq_true->bZ,mem_range->bz,not_any_eq_all_not->R5,getElem_of_mem->jf,perm_append_comm->vK,getD_eq_getElem?_getD->de,getElem?_append_left->mI,getElem?_drop->vL,getElem?_append_right->kM,nodup_iff_pairwise_ne->oe,pairwise_iff_getElem->nB,getElem?_eq_getElem->eZ,flatten_cons->lN,mem_append->bq,flatMap_cons->fX,mem_flatMap->dI,mem_flatten->kh,nodup_append->nC,Perm.refl->CL,mem_map->bM,map_cons->cT,sum_cons->yS,map_append->dQ,mem_singleton->bh,pairwise_append->R7,all_map->CM,mem_cons_self->cE,mem_cons_of_mem->cB,mem_append_left->gZ,map_map->cv,any_eq_true->lO,ext_getElem->rH,length_map->cL,getElem_map->iZ,getElem_range->qC,map_congr_left->iy,pairwise_map->ia,Pairwise.imp_of_mem->yV,ne_nil_of_mem->H0,mem_append_right->fY,Pairwise.and_mem->CQ,pairwise_flatten->SC,sum_append->yW
open Classical renaming byContradiction->eW
open Nat renaming mod_lt->bk,mod_eq_of_lt->dj,mod_self->kK,gcd->bw,lt_trichotomy->yR,mod_add_mod->kN,add_mod_right->od,add_assoc->rG,gcd_dvd_right->Hn,lt_or_ge->nF,gcd_dvd_left->Ho,dvd_trans->Hp,le_refl->bQ,sub_add_cancel->Hs
open Function renaming comp->yT
open Decidable renaming not_not->R9
namespace Go.Proofs.YtdaeofhdgabhjaaGreat.Geo
end Go.Proofs.YtdaeofhdgabhjaaGreat.Geo
open Go.Proofs.YtdaeofhdgabhjaaGreat.Geo
namespace Go.Proofs.YtdaeofhdgabhjaaGreat
@[reducible]def aA{α:Sort _}(a:α)(f:α->Prop):Prop:=f a
namespace Geo
structure V where
 x:Int
 y:Int
deriving DecidableEq,Inhabited
structure S where
 a:V
 b:V
deriving DecidableEq,Inhabited
def sub(p q:V):V:=⟨p.x-q.x,p.y-q.y⟩
def cross(p q:V):Int:=p.x*q.y-p.y*q.x
def sgn(n:Int):Int:=if 0<n then 1 else if n<0 then-1 else 0
def turn(a b c:V):Int:=sgn (cross (sub b a) (sub c a))
def bf(p q:V):Bool:=decide (p.y<q.y)||(p.y==q.y&&decide (p.x<q.x))
def ag(p:V)(m:Int):Bool:=decide (-m<=p.x)&&decide (p.x<=m)&&decide (-m<=p.y)&&decide (p.y<=m)
def aj(s:S):Bool:=ag s.a 4000&&ag s.b 4000
def fA(s:S)(p:V):Bool:=decide (min s.a.x s.b.x<=p.x)&&decide (p.x<=max s.a.x s.b.x)&&decide (min s.a.y s.b.y<=p.y)&&decide (p.y<=max s.a.y s.b.y)
def onS(s:S)(p:V):Bool:=aj s&&fA s p&&turn s.a s.b p==0
def nU(n:Int):sgn n=0↔n=0:=by unfold sgn;grind
def FK(n:Int):0<sgn n↔0<n:=by unfold sgn;grind
def Yn(n:Int):sgn n<0↔n<0:=by unfold sgn;grind
def wJ(m n:Int):sgn m*sgn n<0↔(0<m/\n<0)\/(m<0/\0<n):=by unfold sgn;grind
def eE(x y:Int):Int:=if x<y then-1 else if y<x then 1 else 0
def bi(p q:V):Int:=if eE p.y q.y=0 then eE p.x q.x else eE p.y q.y
def mg(s t:S)(d:Int):Int:=
 let a0:=cross (sub t.a s.a) (sub t.b t.a)
 let b0:=cross (sub t.a s.a) (sub s.b s.a)
 let a:=if d<0 then-a0 else a0
 let b:=if d<0 then-b0 else b0
 let e:=if d<0 then-d else d
 if a<0\/e<a\/b<0\/e<b then 0 else if a=0\/a=e\/b=0\/b=e then 1 else 2
def loS(s:S):V:=if bf s.b s.a then s.b else s.a
def hiS(s:S):V:=if bf s.b s.a then s.a else s.b
def eC(s t:S):V:=if bf (loS s) (loS t)then loS t else loS s
def eQ(s t:S):V:=if bf (hiS t) (hiS s)then hiS t else hiS s
def bn(s t:S):Int:=
 if !(aj s&&aj t)then 0
 else if cross (sub s.b s.a) (sub t.b t.a)≠0 then mg s t (cross (sub s.b s.a) (sub t.b t.a))
 else if s.a=s.b/\onS t s.a=true then 1
 else if t.a=t.b/\onS s t.a=true then 1
 else if s.a=s.b\/t.a=t.b\/turn s.a s.b t.a≠0 then 0
 else if bi (eC s t) (eQ s t)=0 then 1
 else if bi (eC s t) (eQ s t)= -1 then 3
 else 0
def br(s t:S)(p:V):Prop:=onS s p=true/\onS t p=true
structure MeetIs(s t:S)(k:Int):Prop where
 none:(aj s&&aj t)=false->k=0
 over:∀p q,p∈[s.a,s.b,t.a,t.b]->q∈[s.a,s.b,t.a,t.b]->p≠q->br s t p->br s t q->k=3
 touch:(aj s&&aj t)=true->(∀p q,p∈[s.a,s.b,t.a,t.b]->q∈[s.a,s.b,t.a,t.b]->br s t p->br s t q->p=q)->(∃p,p∈[s.a,s.b,t.a,t.b]/\br s t p)->k=1
 cross:(aj s&&aj t)=true->(∀p,p∈[s.a,s.b,t.a,t.b]->¬br s t p)->(turn s.a s.b t.a*turn s.a s.b t.b<0/\turn t.a t.b s.a*turn t.a t.b s.b<0)->k=2
 else_:(aj s&&aj t)=true->(∀p,p∈[s.a,s.b,t.a,t.b]->¬br s t p)->¬(turn s.a s.b t.a*turn s.a s.b t.b<0/\turn t.a t.b s.a*turn t.a t.b s.b<0)->k=0
def Aq(d b v w:Int)(hd:0<d)(h:d*w=b*v)(hv:v≠0):(min 0 v<=w/\w<=max 0 v)↔(0<=b/\b<=d):=by
 rcases lK hv with hv|hv
 .have e1:w<=0↔0<=b:=by
   rw[<-Hm hd,dw,h];constructor
   .intro h1;rcases bo b 0 with h2|h2
    .have:=vG h2 hv;omega
    .exact h2
   .intro h1;have:=cM h1 (show(0:Int)<= -v by omega);grind
  have e2:v<=w↔b<=d:=by
   rw[<-Hm hd,h];constructor
   .simp_all
   .simp_all
  omega
 .have e1:0<=w↔0<=b:=by
   rw[<-Hm hd,dw,h];constructor
   .intro h1;rcases bo b 0 with h2|h2
    .have:=lL h2 hv;omega
    .exact h2
   .intro h1;exact cM h1 (by omega)
  have e2:w<=v↔b<=d:=by rw[<-Hm hd,h];exact Int.mul_le_mul_right hv
  omega
def ni(s:S)(p:V)(d b:Int)(hd:0<d)(hx:d*(p.x-s.a.x)=b*(s.b.x-s.a.x))(hy:d*(p.y-s.a.y)=b*(s.b.y-s.a.y))(hv:s.a≠s.b):
  fA s p=true↔(0<=b/\b<=d):=by
 obtain⟨⟨ax,ay⟩,⟨bx,b_y⟩⟩:=s;obtain⟨px,py⟩:=p;simp only[fA,bm,decide_eq_true_eq]at*;simp only[ne_eq,V.mk.injEq,not_and]at hv;by_cases h1:bx-ax=0
 .have h2:b_y-ay≠0:=by intro h2;grind
  rw[h1,dw]at hx;have h3:px-ax=0:=by
   rcases dd.1 hx with h|h
   .omega
   .exact h
  have:=Aq d b _ _ hd hy h2;omega
 .by_cases h2:b_y-ay=0
  .rw[h2,dw]at hy;have h3:py-ay=0:=by
    rcases dd.1 hy with h|h
    .omega
    .exact h
   have:=Aq d b _ _ hd hx h1;omega
  .have e1:=Aq d b _ _ hd hx h1;have e2:=Aq d b _ _ hd hy h2;omega
def gH{s:S}{p:V}(hv:aj s=true):onS s p=true↔(fA s p=true/\cross (sub s.b s.a) (sub p s.a)=0):=by unfold onS turn;rw[hv];simp only[oc,bm,beq_iff_eq,nU]
def fH{s:S}(hv:aj s=true):onS s s.a=true:=by rw[gH hv];refine⟨?_,by simp[cross,sub]⟩;simp[fA];omega
def jE{s:S}(hv:aj s=true):onS s s.b=true:=by rw[gH hv];refine⟨?_,by simp only[cross,sub];grind⟩;simp[fA];omega
def q1{d a b sa sb ta tb:Int}(h:d*(ta-sa)=a*(sb-sa)-b*(tb-ta))(e:a=0):d*(sa-ta)=b*(tb-ta):=by grind
def q2{d a b sa sb ta tb:Int}(h:d*(ta-sa)=a*(sb-sa)-b*(tb-ta))(e:a=d):d*(sb-ta)=b*(tb-ta):=by grind
def q3{d a b sa sb ta tb:Int}(h:d*(ta-sa)=a*(sb-sa)-b*(tb-ta))(e:b=0):d*(ta-sa)=a*(sb-sa):=by grind
def q4{d a b sa sb ta tb:Int}(h:d*(ta-sa)=a*(sb-sa)-b*(tb-ta))(e:b=d):d*(tb-sa)=a*(sb-sa):=by grind
def z13{d a b sa sb ta tb:Int}(h:d*(ta-sa)=a*(sb-sa)-b*(tb-ta))(e:a=0)(f:b=0):d*(ta-sa)=0:=by grind
def z14{d a b sa sb ta tb:Int}(h:d*(ta-sa)=a*(sb-sa)-b*(tb-ta))(e:a=0)(f:b=d):d*(tb-sa)=0:=by grind
def z23{d a b sa sb ta tb:Int}(h:d*(ta-sa)=a*(sb-sa)-b*(tb-ta))(e:a=d)(f:b=0):d*(ta-sb)=0:=by grind
def z24{d a b sa sb ta tb:Int}(h:d*(ta-sa)=a*(sb-sa)-b*(tb-ta))(e:a=d)(f:b=d):d*(tb-sb)=0:=by grind
def Xn(s t:S)(hs:aj s=true)(ht:aj t=true)(hd:cross (sub s.b s.a) (sub t.b t.a)≠0):
  MeetIs s t (mg s t (cross (sub s.b s.a) (sub t.b t.a))):=by
 have hsab:s.a≠s.b:=by intro h;apply hd;rw[h];simp[cross,sub]
 have htab:t.a≠t.b:=by intro h;apply hd;rw[h];simp[cross,sub]
 obtain⟨a0,ha0⟩:∃a,a=cross (sub t.a s.a) (sub t.b t.a):=⟨_,rfl⟩;obtain⟨b0,hb0⟩:∃a,a=cross (sub t.a s.a) (sub s.b s.a):=⟨_,rfl⟩;obtain⟨d0,hd0⟩:∃a,a=cross (sub s.b s.a) (sub t.b t.a):=⟨_,rfl⟩;have f1:cross (sub t.b t.a) (sub s.a t.a)=a0:=by rw[ha0];simp only[cross,sub];grind
 have f2:cross (sub t.b t.a) (sub s.b t.a)=a0-d0:=by rw[ha0,hd0];simp only[cross,sub];grind
 have f3:cross (sub s.b s.a) (sub t.a s.a)= -b0:=by rw[hb0];simp only[cross,sub];grind
 have f4:cross (sub s.b s.a) (sub t.b s.a)=d0-b0:=by rw[hb0,hd0];simp only[cross,sub];grind
 have gx:d0*(t.a.x-s.a.x)=a0*(s.b.x-s.a.x)-b0*(t.b.x-t.a.x):=by rw[ha0,hb0,hd0];simp only[cross,sub];grind
 have gy:d0*(t.a.y-s.a.y)=a0*(s.b.y-s.a.y)-b0*(t.b.y-t.a.y):=by rw[ha0,hb0,hd0];simp only[cross,sub];grind
 rw[<-hd0]at hd;obtain⟨a,b,d,hdp,hx,hy,hab⟩:∃a b d:Int,0<d/\d*(t.a.x-s.a.x)=a*(s.b.x-s.a.x)-b*(t.b.x-t.a.x)/\d*(t.a.y-s.a.y)=a*(s.b.y-s.a.y)-b*(t.b.y-t.a.y)/\((d0<0/\a= -a0/\b= -b0/\d= -d0)\/(¬d0<0/\a=a0/\b=b0/\d=d0)):=by
  by_cases h:d0<0
  .exact⟨-a0,-b0,-d0,by omega,by grind,by grind,by grind⟩
  .exact⟨a0,b0,d0,by omega,gx,gy,by grind⟩
 have hK:mg s t d0=if a<0\/d<a\/b<0\/d<b then 0 else if a=0\/a=d\/b=0\/b=d then 1 else 2:=by unfold mg;simp only[<-ha0,<-hb0];rcases hab with⟨h,rfl,rfl,rfl⟩|⟨h,rfl,rfl,rfl⟩<;>simp only[h,if_true,if_false]
 have c1:br s t s.a↔(a=0/\0<=b/\b<=d):=by
  unfold br;rw[gH ht,f1];have e:a0=0↔a=0:=by clear gx gy hx hy;omega
  rw[e];constructor
  .rintro⟨_,h1,h2⟩;exact⟨h2,(ni t s.a d b hdp (q1 hx h2) (q1 hy h2) htab).1 h1⟩
  .rintro⟨h2,h3⟩;exact⟨fH hs,(ni t s.a d b hdp (q1 hx h2) (q1 hy h2) htab).2 h3,h2⟩
 have c2:br s t s.b↔(a=d/\0<=b/\b<=d):=by
  unfold br;rw[gH ht,f2];have e:a0-d0=0↔a=d:=by clear gx gy hx hy;omega
  rw[e];constructor
  .rintro⟨_,h1,h2⟩;exact⟨h2,(ni t s.b d b hdp (q2 hx h2) (q2 hy h2) htab).1 h1⟩
  .rintro⟨h2,h3⟩;exact⟨jE hs,(ni t s.b d b hdp (q2 hx h2) (q2 hy h2) htab).2 h3,h2⟩
 have c3:br s t t.a↔(b=0/\0<=a/\a<=d):=by
  unfold br;rw[gH hs,f3];have e: -b0=0↔b=0:=by clear gx gy hx hy;omega
  rw[e];constructor
  .rintro⟨⟨h1,h2⟩,_⟩;exact⟨h2,(ni s t.a d a hdp (q3 hx h2) (q3 hy h2) hsab).1 h1⟩
  .rintro⟨h2,h3⟩;exact⟨⟨(ni s t.a d a hdp (q3 hx h2) (q3 hy h2) hsab).2 h3,h2⟩,fH ht⟩
 have c4:br s t t.b↔(b=d/\0<=a/\a<=d):=by
  unfold br;rw[gH hs,f4];have e:d0-b0=0↔b=d:=by clear gx gy hx hy;omega
  rw[e];constructor
  .rintro⟨⟨h1,h2⟩,_⟩;exact⟨h2,(ni s t.b d a hdp (q4 hx h2) (q4 hy h2) hsab).1 h1⟩
  .rintro⟨h2,h3⟩;exact⟨⟨(ni s t.b d a hdp (q4 hx h2) (q4 hy h2) hsab).2 h3,h2⟩,jE ht⟩
 have hT:(turn s.a s.b t.a*turn s.a s.b t.b<0/\turn t.a t.b s.a*turn t.a t.b s.b<0)↔(0<a/\a<d/\0<b/\b<d):=by
  unfold turn;rw[wJ,wJ,f1,f2,f3,f4];clear hx hy gx gy c1 c2 c3 c4 f1 f2 f3 f4 hK ha0 hb0 hd0;rcases hab with⟨h,rfl,rfl,rfl⟩|⟨h,rfl,rfl,rfl⟩
  .omega
  .omega
 rw[<-hd0,hK];clear hK f1 f2 f3 f4;have hone:∀p q,p∈[s.a,s.b,t.a,t.b]->q∈[s.a,s.b,t.a,t.b]->br s t p->br s t q->p=q:=by
  have zz:∀x:Int,d*x=0->x=0:=λx h=>by rcases dd.1 h with h|h<;>omega
  have e13:br s t s.a->br s t t.a->s.a=t.a:=by rw[c1,c3];rintro⟨h1,_⟩ ⟨h2,_⟩;have h3:=zz _ (z13 hx h1 h2);have h4:=zz _ (z13 hy h1 h2);cases hsa:s.a;cases hta:t.a;simp only[hsa,hta]at h3 h4;simp;omega
  have e14:br s t s.a->br s t t.b->s.a=t.b:=by rw[c1,c4];rintro⟨h1,_⟩ ⟨h2,_⟩;have h3:=zz _ (z14 hx h1 h2);have h4:=zz _ (z14 hy h1 h2);cases hsa:s.a;cases hta:t.b;simp only[hsa,hta]at h3 h4;simp;omega
  have e23:br s t s.b->br s t t.a->s.b=t.a:=by rw[c2,c3];rintro⟨h1,_⟩ ⟨h2,_⟩;have h3:=zz _ (z23 hx h1 h2);have h4:=zz _ (z23 hy h1 h2);cases hsa:s.b;cases hta:t.a;simp only[hsa,hta]at h3 h4;simp;omega
  have e24:br s t s.b->br s t t.b->s.b=t.b:=by rw[c2,c4];rintro⟨h1,_⟩ ⟨h2,_⟩;have h3:=zz _ (z24 hx h1 h2);have h4:=zz _ (z24 hy h1 h2);cases hsa:s.b;cases hta:t.b;simp only[hsa,hta]at h3 h4;simp;omega
  have e12:br s t s.a->br s t s.b->False:=by rw[c1,c2];clear hx hy;omega
  have e34:br s t t.a->br s t t.b->False:=by rw[c3,c4];clear hx hy;omega
  intro p q hp hq h1 h2;simp only[bO,cl,or_false]at hp hq;rcases hp with rfl|rfl|rfl|rfl<;>rcases hq with rfl|rfl|rfl|rfl
  .rfl
  .grind
  .grind
  .grind
  .grind
  .rfl
  .grind
  .grind
  .grind
  .grind
  .rfl
  .grind
  .grind
  .grind
  .grind
  .rfl
 clear hx hy hd0 hab hd;constructor
 .grind
 .grind
 .grind
 .omega
 grind
def leV(p q:V):Prop:=p.y<q.y\/(p.y=q.y/\p.x<=q.x)
instance(p q:V):Decidable (leV p q):=by unfold leV;infer_instance
def rm(p:V):leV p p:= .inr (by grind)
def qN{p q r:V}(h1:leV p q)(h2:leV q r):leV p r:=by unfold leV at*;omega
def xE{p q:V}(h1:leV p q)(h2:leV q p):p=q:=by cases p;cases q;unfold leV at*;grind
def ww(p q:V):leV p q\/leV q p:=by unfold leV;omega
def lc(p q:V):bf p q=true↔¬leV q p:=by unfold bf leV;simp;omega
def qH(p q:V):bf p q=false↔leV q p:=by rw[<-Bool.not_eq_true,lc];grind
def w7(p q:V):bi p q=0↔p=q:=by cases p;cases q;unfold bi eE;grind
def Mc(p q:V):bi p q= -1↔bf p q=true:=by unfold bi eE bf;grind
def xT(p q:V):bi p q<0↔bf p q=true:=by unfold bi eE bf;grind
def Nr(s:S):(loS s=s.a/\hiS s=s.b)\/(loS s=s.b/\hiS s=s.a):=by unfold loS hiS;grind
def Mi(s:S)(p:V)(hne:s.a≠s.b)(hc:cross (sub s.b s.a) (sub p s.a)=0):fA s p=true↔(leV (loS s) p/\leV p (hiS s)):=by
 simp only[cross,sub]at hc;by_cases hy:s.b.y=s.a.y
 .have hx:s.b.x≠s.a.x:=by intro hx;apply hne;cases hsa:s.a;cases hsb:s.b;simp only[hsa,hsb]at hx hy;simp[hx,hy]
  unfold loS hiS;cases h:bf s.b s.a
  .have h1:=(qH _ _).1 h;simp only[fA,leV,bm,decide_eq_true_eq]at*;grind
  .have h1:=(lc _ _).1 h;simp only[fA,leV,bm,decide_eq_true_eq]at*;grind
 .have hxy:p.y=s.a.y->p.x=s.a.x:=by
   intro h;have h0:p.y-s.a.y=0:=by omega
   rw[h0]at hc;have:(s.b.y-s.a.y)*(p.x-s.a.x)=0:=by omega
   rcases dd.1 this with h|h<;>omega
  have hxz:p.y=s.b.y->p.x=s.b.x:=by
   intro h;rw[h]at hc;have:(s.b.y-s.a.y)*(p.x-s.b.x)=0:=by grind
   rcases dd.1 this with h|h<;>omega
  rcases lK hy with h|h
  .have hb:=ni s p (s.a.y-s.b.y) (s.a.y-p.y) (by omega) (by grind) (by grind) hne;rw[hb];have h1:bf s.b s.a=true:=by rw[lc];unfold leV;omega
   unfold loS hiS;rw[h1];simp only[if_true,leV];omega
  .have hb:=ni s p (s.b.y-s.a.y) (p.y-s.a.y) (by omega) (by grind) (by grind) hne;rw[hb];have h1:bf s.b s.a=false:=by rw[qH];unfold leV;omega
   unfold loS hiS;rw[h1];simp only[qB,if_false,leV];omega
def zD{s:S}(h:s.a=s.b){p:V}(hp:fA s p=true):p=s.a:=by cases hsa:s.a;cases hsb:s.b;cases p;simp only[fA,hsa,hsb,V.mk.injEq,bm,decide_eq_true_eq]at*;omega
def JA(u v w:V)(h1:cross u v=0)(h2:cross v w=0)(hv:v≠⟨0,0⟩):cross u w=0:=by
 simp only[cross]at*;by_cases hx:v.x=0
 .have hy:v.y≠0:=by intro hy;apply hv;cases v;simp at hx hy;simp[hx,hy]
  have:v.y*(u.x*w.y-u.y*w.x)=0:=by grind
  rcases dd.1 this with h|h
  .omega
  .exact h
 .have:v.x*(u.x*w.y-u.y*w.x)=0:=by grind
  rcases dd.1 this with h|h
  .omega
  .exact h
def F9{p q:V}(h:p≠q):sub q p≠⟨0,0⟩:=by intro h';apply h;cases p;cases q;simp only[sub,V.mk.injEq]at*;omega
def nZ(s t:S):MeetIs s t (bn s t):=by
 unfold bn;by_cases hv:(aj s&&aj t)=true
 .have hs:aj s=true:=by simp at hv;exact hv.1
  have ht:aj t=true:=by simp at hv;exact hv.2
  rw[if_neg (by rw[hv];simp)];by_cases hd:cross (sub s.b s.a) (sub t.b t.a)≠0
  .rw[if_pos hd];exact Xn s t hs ht hd
  .rw[if_neg hd];have hd0:cross (sub s.b s.a) (sub t.b t.a)=0:=by omega
   have hnv:∀k,(aj s&&aj t)=false->k=(0:Int):=by intro k h;rw[hv]at h;cases h
   have hside:¬(turn s.a s.b t.a*turn s.a s.b t.b<0/\turn t.a t.b s.a*turn t.a t.b s.b<0):=by
    rintro⟨h,_⟩;unfold turn at h;rw[wJ]at h;have e:cross (sub s.b s.a) (sub t.b s.a)=cross (sub s.b s.a) (sub t.a s.a)+cross (sub s.b s.a) (sub t.b t.a):=by simp only[cross,sub];grind
    omega
   have allone:∀z,(∀p,p∈[s.a,s.b,t.a,t.b]->br s t p->p=z)->br s t z->z∈[s.a,s.b,t.a,t.b]->MeetIs s t 1:=by intro z hz hzo hzm;refine⟨hnv 1,by grind,λ_ _ _=>rfl,by grind,by grind⟩
   have nothing:(∀p,p∈[s.a,s.b,t.a,t.b]->¬br s t p)->MeetIs s t 0:=by intro h;exact⟨λ_=>rfl,by grind,by grind,by grind,λ_ _ _=>rfl⟩
   by_cases h1:s.a=s.b/\onS t s.a=true
   .rw[if_pos h1];exact allone s.a (λp _ h=>zD h1.1 ((gH hs).1 h.1).1) ⟨fH hs,h1.2⟩ (by simp)
   .rw[if_neg h1];by_cases h2:t.a=t.b/\onS s t.a=true
    .rw[if_pos h2];exact allone t.a (λp _ h=>zD h2.1 ((gH ht).1 h.2).1) ⟨h2.2,fH ht⟩ (by simp)
    .rw[if_neg h2];by_cases h3:s.a=s.b\/t.a=t.b\/turn s.a s.b t.a≠0
     .rw[if_pos h3];apply nothing;rintro p hp ⟨hps,hpt⟩;by_cases hsd:s.a=s.b
      .have:=zD hsd ((gH hs).1 hps).1;grind
      .by_cases htd:t.a=t.b
       .have:=zD htd ((gH ht).1 hpt).1;grind
       .have h4:turn s.a s.b t.a≠0:=by
         rcases h3 with h|h|h
         .grind
         .grind
         .exact h
        have c1:=((gH hs).1 hps).2;have c2:=((gH ht).1 hpt).2;have hv0:=F9 htd;have c3:=JA _ _ _ hd0 c2 hv0;apply h4;unfold turn;rw[nU];have e:cross (sub s.b s.a) (sub t.a s.a)=cross (sub s.b s.a) (sub p s.a)-cross (sub s.b s.a) (sub p t.a):=by simp only[cross,sub];grind
        omega
     .rw[if_neg h3];have hsd:s.a≠s.b:=by grind
      have htd:t.a≠t.b:=by grind
      have hta:cross (sub s.b s.a) (sub t.a s.a)=0:=by
       have:turn s.a s.b t.a=0:=by grind
       unfold turn at this;rwa[nU]at this
      have hl1:∀p,p∈[s.a,s.b,t.a,t.b]->cross (sub s.b s.a) (sub p s.a)=0:=by
       intro p hp;simp only[bO,cl,or_false]at hp;rcases hp with rfl|rfl|rfl|rfl
       .simp[cross,sub]
       .simp only[cross];grind
       .exact hta
       .have e:cross (sub s.b s.a) (sub t.b s.a)=cross (sub s.b s.a) (sub t.a s.a)+cross (sub s.b s.a) (sub t.b t.a):=by simp only[cross,sub];grind
        omega
      have hl2:∀p,p∈[s.a,s.b,t.a,t.b]->cross (sub t.b t.a) (sub p t.a)=0:=by
       intro p hp;have h5:=hl1 p hp;have e:cross (sub s.b s.a) (sub p t.a)=cross (sub s.b s.a) (sub p s.a)-cross (sub s.b s.a) (sub t.a s.a):=by simp only[cross,sub];grind
       have h6:cross (sub s.b s.a) (sub p t.a)=0:=by omega
       have h7:cross (sub t.b t.a) (sub s.b s.a)=0:=by
        have:cross (sub t.b t.a) (sub s.b s.a)= -cross (sub s.b s.a) (sub t.b t.a):=by simp only[cross,sub];grind
        omega
       exact JA _ _ _ h7 h6 (F9 hsd)
      have hlo:leV (loS s) (eC s t)/\leV (loS t) (eC s t)/\(eC s t=loS s\/eC s t=loS t):=by
       unfold eC;cases h:bf (loS s) (loS t)
       .have:=(qH _ _).1 h;simp[this,rm]
       .have h':=(lc _ _).1 h;have:leV (loS s) (loS t):=(ww _ _).elim id (by grind);simp[this,rm]
      have hhi:leV (eQ s t) (hiS s)/\leV (eQ s t) (hiS t)/\(eQ s t=hiS s\/eQ s t=hiS t):=by
       unfold eQ;cases h:bf (hiS t) (hiS s)
       .have:=(qH _ _).1 h;simp[this,rm]
       .have h':=(lc _ _).1 h;have:leV (hiS t) (hiS s):=(ww _ _).elim id (by grind);simp[this,rm]
      have hmem:∀p,(p=loS s\/p=hiS s\/p=loS t\/p=hiS t)->p∈[s.a,s.b,t.a,t.b] :=by intro p h;have h5:=Nr s;have h6:=Nr t;simp only[bO,cl,or_false];grind
      have hon:∀p,p∈[s.a,s.b,t.a,t.b]->(br s t p↔leV (eC s t) p/\leV p (eQ s t)):=by
       intro p hp;unfold br;rw[gH hs,gH ht,Mi s p hsd (hl1 p hp),Mi t p htd (hl2 p hp)];constructor
       .grind
       .rintro⟨a1,a2⟩;exact⟨⟨⟨qN hlo.1 a1,qN a2 hhi.1⟩,hl1 p hp⟩,⟨qN hlo.2.1 a1,qN a2 hhi.2.1⟩,hl2 p hp⟩
      have mlo:eC s t∈[s.a,s.b,t.a,t.b] :=hmem _ (by grind);have mhi:eQ s t∈[s.a,s.b,t.a,t.b] :=hmem _ (by grind);by_cases h5:bi (eC s t) (eQ s t)=0
      .rw[if_pos h5];have e:=(w7 _ _).1 h5;refine allone (eC s t) ?_ (by grind) mlo;intro p hp h;have h6:=(hon p hp).1 h;rw[<-e]at h6;exact xE h6.2 h6.1
      .rw[if_neg h5];by_cases h6:bi (eC s t) (eQ s t)= -1
       .rw[if_pos h6];have h7:=(lc _ _).1 ((Mc _ _).1 h6);have h8:leV (eC s t) (eQ s t):=(ww _ _).elim id (by grind);have o1:=(hon _ mlo).2 ⟨rm _,h8⟩;have o2:=(hon _ mhi).2 ⟨h8,rm _⟩;have hne:eC s t≠eQ s t:=by grind
        exact⟨by grind,by grind,by grind,by grind,by grind⟩
       .rw[if_neg h6];apply nothing;intro p hp h;have h7:=(hon p hp).1 h;have h8:=qN h7.1 h7.2;have h9:¬bf (eC s t) (eQ s t)=true:=λh=>h6 ((Mc _ _).2 h);rw[lc]at h9;exact h5 ((w7 _ _).2 (xE h8 (by grind)))
 .have hv':(aj s&&aj t)=false:=by simpa using hv
  rw[if_pos (by rw[hv'];rfl)];have hv3:¬(aj s&&aj t)=true:=by rw[hv'];simp
  refine⟨λ_=>rfl,λp q _ _ _ h1 _=> ?_,by grind,by grind,by grind⟩;exfalso;obtain⟨h1,h2⟩:=h1;unfold onS at h1 h2;grind
def jY:List V->V->List V
 |[],p=>[p]
 |q::r,p=>if bf q p then q::jY r p else if q=p then q::r else p::q::r
def ku(l:List V):List V:=l.foldl jY []
def L8(l:List V)(p x:V):x∈jY l p↔x=p\/x∈l:=by
 induction l with
 |nil=>simp[jY]
 |cons q r ih=>
  unfold jY;grind
def Sm(l acc:List V)(x:V):x∈l.foldl jY acc↔x∈acc\/x∈l:=by
 induction l generalizing acc with
 |nil=>simp
 |cons q r ih=>rw[vH,ih,L8];grind
def Tj(l:List V)(x:V):x∈ku l↔x∈l:=by unfold ku;rw[Sm];simp
def tL{p q r:V}(h1:bf p q=true)(h2:bf q r=true):bf p r=true:=by unfold bf at*;grind
def wD(p:V):bf p p=false:=by unfold bf;simp
def zn{p q:V}(h1:bf p q=false)(h2:p≠q):bf q p=true:=by rw[lc];intro h;exact h2 (xE h ((qH _ _).1 h1))
def Tn(l:List V)(p:V)(h:l.Pairwise (λa b=>bf a b=true)):(jY l p).Pairwise (λa b=>bf a b=true):=by
 induction l with
 |nil=>simp[jY]
 |cons q r ih=>
  rw[gX]at h;unfold jY;split
  .rename_i hq;rw[gX];refine⟨?_,ih h.2⟩;intro x hx;rcases(L8 _ _ _).1 hx with rfl|hx
   .exact hq
   grind
  .split
   .simp_all
   .rename_i hne;have hpq:=zn (by grind) hne;rw[gX,gX];refine⟨?_,h⟩;intro x hx;rcases bO.1 hx with rfl|hx
    .exact hpq
    .exact tL hpq (h.1 x hx)
def SU(l acc:List V)(h:acc.Pairwise (λa b=>bf a b=true)):(l.foldl jY acc).Pairwise (λa b=>bf a b=true):=by
 induction l generalizing acc with
 |nil=>exact h
 |cons q r ih=>exact ih _ (Tn acc q h)
def IW(l:List V):(ku l).Pairwise (λa b=>bf a b=true):=SU l [] rE
def ends(s t:S):List V:=[s.a,s.b,t.a,t.b]
def jm(s t:S):List V:=ku ((ends s t).filter (λp=>onS s p&&onS t p))
def DC(s t:S)(p:V):p∈jm s t↔p∈ends s t/\br s t p:=by unfold jm br;rw[Tj,fB];simp
def fz(s:S)(p:V):Int:=if !(aj s)|| !(ag p 4000)then 0 else turn s.a s.b p
def cY(s t:S):Int:=
 if !(aj s&&aj t)then 0
 else if 1<(jm s t).length then 3
 else if(jm s t).length=1 then 1
 else if fz s t.a*fz s t.b<0/\fz t s.a*fz t s.b<0 then 2
 else 0
def pH(s t:S):bn s t=cY s t:=by
 have h:=nZ s t;obtain⟨k,hk⟩:∃k,k=bn s t:=⟨_,rfl⟩;unfold cY;cases hv:(aj s&&aj t)with
 |false=>simp[h.none hv]
 |true=>
  have hs:aj s=true:=by simp at hv;exact hv.1
  have ht:aj t=true:=by simp at hv;exact hv.2
  have ws:=hs;have wt:=ht;unfold aj at ws wt;simp only[bm]at ws wt;simp only[yO,qB,if_false,fz,hs,ht,ws,wt,Bool.or_self];have hp:=IW ((ends s t).filter (λp=>onS s p&&onS t p));have hm:=DC s t;rw[show ku ((ends s t).filter (λp=>onS s p&&onS t p))=jm s t from rfl]at hp;generalize jm s t=l at hp hm;match l,hp,hm with
  |[],_,hm=>
   have hno:∀p,p∈[s.a,s.b,t.a,t.b]->¬br s t p:=λp hp ho=>by have:=(hm p).2 ⟨hp,ho⟩;cases this
   simp only[mH];by_cases hc:turn s.a s.b t.a*turn s.a s.b t.b<0/\turn t.a t.b s.a*turn t.a t.b s.b<0
   .rw[if_pos hc];exact h.cross hv hno hc
   .rw[if_neg hc];exact h.else_ hv hno hc
  |[z],_,hm=>
   simp only[List.length_singleton];have hz:=(hm z).1 (by simp);refine h.touch hv ?_ ⟨z,hz⟩;intro p q hp hq h1 h2;have e1:=(hm p).2 ⟨hp,h1⟩;have e2:=(hm q).2 ⟨hq,h2⟩;grind
  |z::y::r,hp,hm=>
   simp only[gY];have hz:=(hm z).1 (by simp);have hy:=(hm y).1 (by simp);refine h.over z y hz.1 hy.1 ?_ hz.2 hy.2;intro e;rw[gX]at hp;have:=hp.1 y (by simp);rw[e,wD]at this;cases this
end Geo
namespace Geo
abbrev aD:=List V
def nth(r:aD)(i:Nat):V:=r.getD i default
def nxt(r:aD)(i:Nat):V:=nth r ((i+1) % r.length)
def prv(r:aD)(i:Nat):V:=nth r ((i+r.length-1) % r.length)
def bL(r:aD)(i:Nat):S:=⟨nth r i,nxt r i⟩
def aJ(r:aD):List S:=if r.length<2 then []else(bP r.length).map (bL r)
def area(r:aD):Int:=((bP r.length).map λi=>cross (nth r i) (nxt r i)).sum
def near(r:aD):Bool:=r.all λv=>ag v 2000
def cg(r:aD):Bool:=
 decide (3<=r.length)&&decide (r.length<=40)&&near r&&decide (0<area r)&&
 ((bP r.length).all λi=>turn (prv r i) (nth r i) (nxt r i) !=0)&&
 ((bP r.length).all λi=>(bP r.length).all λk=>decide (k<=i)||k==i+1||(i==0&&k==r.length-1)||bn (bL r i) (bL r k)==0)
def dB(r:aD):Bool:=
 decide (3<=r.length)&&decide (r.length<=40)&&near r&&
 ((bP r.length).all λi=>turn (nth r i) (nth r ((i+1) % r.length)) (nth r ((i+2) % r.length)) !=0)&&
 ((bP r.length).all λi=>(bP r.length).all λk=>decide (k<=i)||
   (if k=i+1\/(i=0/\k=r.length-1)then cY (bL r i) (bL r k)==1 else cY (bL r i) (bL r k)==0))&&
 decide (0<area r)
def LF(a b c:V):turn a b c=turn b c a:=by unfold turn;simp only[cross,sub];grind
def J4(a b c:V):cross (sub b a) (sub c a)= -cross (sub a b) (sub c b):=by simp only[cross,sub];grind
def L9(s t:S)(hs:aj s=true)(ht:aj t=true)(he:s.b=t.a)(hn:turn s.a s.b t.b≠0):bn s t=1:=by
 have h:=nZ s t;have hb:br s t s.b:=⟨jE hs,by rw[he];exact fH ht⟩;refine h.touch (by grind) ?_ (by grind);have key:∀p,p∈[s.a,s.b,t.a,t.b]->br s t p->p=s.b:=by
  intro p hp ho;simp only[bO,cl,or_false]at hp;rcases hp with rfl|rfl|rfl|rfl
  .exfalso;apply hn;have:=((gH ht).1 ho.2).2;rw[LF];unfold turn;rw[nU,he];exact this
  .rfl
  .exact he.symm
  .exfalso;apply hn;have:=((gH hs).1 ho.1).2;unfold turn;rw[nU];exact this
 grind
def lZ(s t:S):bn s t=bn t s:=by
 have h1:=nZ s t;have h2:=nZ t s;have hmem:∀p,p∈[s.a,s.b,t.a,t.b] ↔p∈[t.a,t.b,s.a,s.b] :=by intro p;simp only[bO,cl,or_false];grind
 have hob:∀p,br s t p↔br t s p:=λp=>And.comm;cases hv:(aj s&&aj t)with
 |false=>rw[h1.none hv,h2.none (by grind)]
 |true=>
  have hv':(aj t&&aj s)=true:=by rw[Bool.and_comm];exact hv
  by_cases hx:∃p,p∈[s.a,s.b,t.a,t.b]/\br s t p
  .by_cases hu:∀p q,p∈[s.a,s.b,t.a,t.b]->q∈[s.a,s.b,t.a,t.b]->br s t p->br s t q->p=q
   .rw[h1.touch hv hu hx,h2.touch hv' (by grind)];grind
   .have:∃p q,p∈[s.a,s.b,t.a,t.b]/\q∈[s.a,s.b,t.a,t.b]/\p≠q/\br s t p/\br s t q:=by apply eW;intro hno;apply hu;intro p q hp hq a b;apply eW;intro hne;grind
    obtain⟨p,q,hp,hq,hne,a,b⟩:=this;rw[h1.over p q hp hq hne a b,h2.over p q ((hmem p).1 hp) ((hmem q).1 hq) hne ((hob p).1 a) ((hob q).1 b)]
  .have hno:∀p,p∈[s.a,s.b,t.a,t.b]->¬br s t p:=by grind
   have hno':∀p,p∈[t.a,t.b,s.a,s.b]->¬br t s p:=by grind
   by_cases hc:turn s.a s.b t.a*turn s.a s.b t.b<0/\turn t.a t.b s.a*turn t.a t.b s.b<0
   .rw[h1.cross hv hno hc,h2.cross hv' hno' ⟨hc.2,hc.1⟩]
   .rw[h1.else_ hv hno hc,h2.else_ hv' hno' (by grind)]
def ig{v:V}{m n:Int}(h:ag v m=true)(hmn:m<=n):ag v n=true:=by unfold ag at*;simp only[bm,decide_eq_true_eq]at*;omega
def tu{r:aD}(h:near r=true)(i:Nat)(hi:i<r.length):ag (nth r i) 2000=true:=by unfold near at h;unfold nth;grind
def iA{r:aD}(h:near r=true)(i:Nat)(hi:i<r.length):aj (bL r i)=true:=by unfold aj bL nxt;have h2:(i+1) % r.length<r.length:=bk _ (by omega);simp only[bm];exact⟨ig (tu h i hi) (by omega),ig (tu h _ h2) (by omega)⟩
def jA{i n:Nat}(h:i<n):i % n=i:=dj h
def pC{i n:Nat}(h1:n<=i)(h2:i<2*n):i % n=i-n:=by rw[Nat.mod_eq_sub_mod h1,dj (by omega)]
def Dd(r:aD)(hn:3<=r.length):
  ((bP r.length).all λi=>turn (prv r i) (nth r i) (nxt r i) !=0)=((bP r.length).all λi=>turn (nth r i) (nth r ((i+1) % r.length)) (nth r ((i+2) % r.length)) !=0):=by
 rw[eY,bZ,bZ];constructor
 .intro h i hi;have hi:=bz.1 hi;have:=h ((i+1) % r.length) (bz.2 (bk _ (by omega)));unfold prv nxt at this;by_cases h1:i+1<r.length
  .rw[jA h1]at this|-;have e1:(i+1+r.length-1) % r.length=i:=by rw[show i+1+r.length-1=i+r.length from by omega,pC (by omega) (by omega)];omega
   grind
  .have e0:i+1=r.length:=by omega
   rw[e0,kK]at this|-;have e1:(0+r.length-1) % r.length=i:=by rw[jA (by omega)];omega
   have e2:(i+2) % r.length=(0+1) % r.length:=by rw[pC (by omega) (by omega),jA (by omega)];omega
   grind
 .intro h i hi;have hi:=bz.1 hi;have:=h ((i+r.length-1) % r.length) (bz.2 (bk _ (by omega)));unfold prv nxt;by_cases h1:i=0
  .subst h1;have e1:(0+r.length-1) % r.length=r.length-1:=by rw[jA (by omega)];omega
   have e2:(r.length-1+1) % r.length=0:=by rw[show r.length-1+1=r.length from by omega,kK]
   have e3:(r.length-1+2) % r.length=(0+1) % r.length:=by rw[pC (by omega) (by omega),jA (by omega)];omega
   grind
  .have e1:(i+r.length-1) % r.length=i-1:=by rw[pC (by omega) (by omega)];omega
   have e2:(i-1+1) % r.length=i:=by rw[show i-1+1=i from by omega];exact jA hi
   have e3:i-1+2=i+1:=by omega
   grind
def qP(r:aD):cg r=dB r:=by
 unfold cg dB;by_cases h3:3<=r.length
 case neg=>simp[h3]
 by_cases hn:near r=true
 case neg=>simp[hn]
 rw[Dd r h3];cases ht:((bP r.length).all λi=>turn (nth r i) (nth r ((i+1) % r.length)) (nth r ((i+2) % r.length)) !=0)with
 |false=>simp
 |true=>
  have hpairs:((bP r.length).all λi=>(bP r.length).all λk=>decide (k<=i)||k==i+1||(i==0&&k==r.length-1)||bn (bL r i) (bL r k)==0)=
    ((bP r.length).all λi=>(bP r.length).all λk=>decide (k<=i)||
      (if k=i+1\/(i=0/\k=r.length-1)then cY (bL r i) (bL r k)==1 else cY (bL r i) (bL r k)==0)):=by
   have hturn:∀i,i<r.length->turn (nth r i) (nth r ((i+1) % r.length)) (nth r ((i+2) % r.length))≠0:=by intro i hi;rw[bZ]at ht;have:=ht i (bz.2 hi);simpa using this
   have hpt:∀i k,i<r.length->k<r.length->(decide (k<=i)||k==i+1||(i==0&&k==r.length-1)||bn (bL r i) (bL r k)==0)=(decide (k<=i)||
     (if k=i+1\/(i=0/\k=r.length-1)then cY (bL r i) (bL r k)==1 else cY (bL r i) (bL r k)==0)):=by
    intro i k hi hk;rw[<-pH];by_cases hki:k<=i
    .simp[hki]
    .by_cases h1:k=i+1
     .subst h1;have:=L9 (bL r i) (bL r (i+1)) (iA hn i hi) (iA hn _ hk) (by unfold bL nxt;simp[jA hk]) (by have:=hturn i hi;exact this)
      simp[this]
     .by_cases h2:i=0/\k=r.length-1
      .obtain⟨rfl,rfl⟩:=h2;have e1:(r.length-1+1) % r.length=0:=by rw[show r.length-1+1=r.length from by omega,kK]
       have:=L9 (bL r (r.length-1)) (bL r 0) (iA hn _ hk) (iA hn _ hi) (by unfold bL nxt;grind) (by
        have:=hturn (r.length-1) hk;have e3:(r.length-1+2) % r.length=(0+1) % r.length:=by rw[pC (by omega) (by omega),jA (by omega)];omega
        unfold bL nxt;grind)
       rw[lZ]at this;simp[this]
      .have h3:(i==0&&k==r.length-1)=false:=by rw[<-Bool.not_eq_true,bm,beq_iff_eq,beq_iff_eq];exact h2
       have h4:(k==i+1)=false:=by rw[beq_eq_false_iff_ne];exact h1
       rw[if_neg (by omega),h3,h4];simp
   rw[eY];simp only[bZ,bz];constructor
   .grind
   .grind
  grind
structure Pt where
 x:Int
 y:Int
 den:Int
deriving DecidableEq,Inhabited
def toV(p:Pt)(v:V):V:=⟨p.x-v.x*p.den,p.y-v.y*p.den⟩
def fP(s:S)(p:Pt):Int:=cross (sub s.b s.a) (toV p s.a)
def onP(s:S)(p:Pt):Bool:=
 fP s p==0&&(decide (min (toV p s.a).x (toV p s.b).x<=0)&&decide (0<=max (toV p s.a).x (toV p s.b).x))&&(decide (min (toV p s.a).y (toV p s.b).y<=0)&&decide (0<=max (toV p s.a).y (toV p s.b).y))
def dY(s:S)(p:Pt):Bool:=
 (decide (0<=(toV p s.a).y) !=decide (0<=(toV p s.b).y))&&(decide (0<=(toV p s.a).y)==decide (0<fP s p))
def onR(s:S)(p:Pt):Bool:=
 (decide (min s.a.x s.b.x*p.den<=p.x)&&decide (p.x<=max s.a.x s.b.x*p.den)&&decide (min s.a.y s.b.y*p.den<=p.y)&&decide (p.y<=max s.a.y s.b.y*p.den))&&sgn (fP s p)==0
def jZ(s:S)(p:Pt):Bool:=
 ((decide (s.a.y*p.den<=p.y)&&decide (p.y<s.b.y*p.den))&&decide (0<sgn (fP s p)))||((decide (s.b.y*p.den<=p.y)&&decide (p.y<s.a.y*p.den))&&decide (sgn (fP s p)<0))
def Nk(a b d:Int)(h:0<=d):min a b*d=min (a*d) (b*d):=by
 rcases vJ a b with h1|h1
 .rw[Int.min_eq_left h1,Int.min_eq_left (lM h1 h)]
 .rw[Int.min_eq_right h1,Int.min_eq_right (lM h1 h)]
def No(a b d:Int)(h:0<=d):max a b*d=max (a*d) (b*d):=by
 rcases vJ a b with h1|h1
 .rw[Int.max_eq_right h1,Int.max_eq_right (lM h1 h)]
 .rw[Int.max_eq_left h1,Int.max_eq_left (lM h1 h)]
def Pd(s:S)(p:Pt)(h:0<p.den):onP s p=onR s p:=by unfold onP onR toV;rw[Nk _ _ _ (by omega),No _ _ _ (by omega),Nk _ _ _ (by omega),No _ _ _ (by omega),eY];simp only[bm,decide_eq_true_eq,beq_iff_eq,nU];omega
def UX(s:S)(p:Pt)(h0:fP s p=0)(ha:(toV p s.a).y<0)(hb:0<=(toV p s.b).y)(_hd:0<p.den):onP s p=true:=by
 have e:fP s p*p.den=(toV p s.a).x*(toV p s.b).y-(toV p s.a).y*(toV p s.b).x:=by unfold fP toV cross sub;grind
 rw[h0,yP]at e;unfold onP;rw[h0];generalize (toV p s.a).x=ax at*;generalize (toV p s.b).x=bx at*;simp only[BEq.rfl,oc,bm,decide_eq_true_eq];have hx:(min ax bx<=0/\0<=max ax bx):=by
  rcases bo 0 ax with h1|h1
  .have h2:bx<=0:=by
    rcases bo 0 bx with h2|h2
    .have p1:=lL ha h2;have p2:=cM (show 0<=ax by omega) hb;omega
    .exact h2
   omega
  .rcases bo ax 0 with h1|h1
   .have h2:0<=bx:=by
     rcases bo bx 0 with h2|h2
     .have p1:=vG ha h2;have p2:=cM (show 0<= -ax by omega) hb;grind
     .exact h2
    omega
   .omega
 omega
def aAD(s:S)(p:Pt)(h:0<p.den)(ho:onP s p=false):dY s p=jZ s p:=by
 have key:(toV p s.a).y<0->0<=(toV p s.b).y->fP s p≠0:=by intro h1 h2 h3;rw[UX s p h3 h1 h2 h]at ho;cases ho
 unfold dY jZ;rw[eY];simp only[bm,je,decide_eq_true_eq,bne_iff_ne,ne_eq,beq_iff_eq,FK,Yn,decide_eq_decide];have ey1:(toV p s.a).y=p.y-s.a.y*p.den:=rfl;have ey2:(toV p s.b).y=p.y-s.b.y*p.den:=rfl;omega
def ik(p:Pt)(m:Int):Bool:=decide (1<=p.den)&&decide (p.den<=134217728)&&ag ⟨p.x,p.y⟩ (m*p.den)
def dO(p:Pt):Bool:=ik p 4000&&(bw (bw p.x.natAbs p.y.natAbs) p.den.natAbs==1)
def dq(p:Pt):List S->Bool->Int
 |[],ins=>if ins then 2 else 0
 |s::l,ins=>if onP s p then 1 else dq p l (ins !=dY s p)
def lz(p:Pt):List S->Bool->Int
 |[],ins=>if ins then 2 else 0
 |s::l,ins=>if onR s p then 1 else lz p l (ins !=jZ s p)
def Yo(p:Pt)(h:0<p.den)(l:List S)(ins:Bool):dq p l ins=lz p l ins:=by
 induction l generalizing ins with
 |nil=>rfl
 |cons s l ih=>
  unfold dq lz;rw[<-Pd s p h];cases ho:onP s p with
  |true=>rfl
  |false=>rw[ih,aAD s p h ho]
def bY(r:aD)(p:Pt):Int:=if !(cg r)|| !(dO p)then 0 else dq p (aJ r) false
def iC(r:aD)(p:Pt):Int:=if !(dB r)|| !(dO p)then 0 else lz p (aJ r) false
def EN(r:aD)(p:Pt):bY r p=iC r p:=by
 unfold bY iC;rw[qP];cases hp:dO p with
 |false=>simp
 |true=>
  have:0<p.den:=by unfold dO ik at hp;simp only[bm,decide_eq_true_eq]at hp;omega
  rw[Yo p this]
def fT(v:V):Pt:=⟨v.x,v.y,1⟩
def c6(r:aD)(v:V):Int:=if !(ag v 4000)then 0 else bY r (fT v)
def kV(r:aD)(v:V):Int:=if !(ag v 8000)then 0 else iC r (fT v)
def yx(v:V):dO (fT v)=ag v 4000:=by unfold dO ik fT ag;simp
def zT(r:aD)(v:V):c6 r v=kV r v:=by
 unfold c6 kV;rw[EN];cases h:ag v 4000 with
 |true=>rw[ig h (by omega)]
 |false=>
  unfold iC;rw[yx,h];simp
end Geo
namespace Geo
structure Shape where
 outer:aD
 holes:List aD
deriving DecidableEq,Inhabited
def aE(s:Shape):List aD:=s.outer::s.holes
def aC(l:List aD)(i:Nat):aD:=l.getD i []
def dV(a b:aD):Bool:=(aJ a).all λx=>(aJ b).all λy=>bn x y==0
def bG(r q:aD)(place:Int):Bool:=r.all λv=>c6 q v==place
def fN(s:Shape):Nat:=((aE s).map List.length).sum
def bJ(s:Shape):Bool:=
 decide (s.holes.length<=6)&&(aE s).all cg&&decide (fN s<=80)&&
 ((bP s.holes.length).all λi=>bG (aC s.holes i) s.outer 2&&dV (aC s.holes i) s.outer&&
   ((bP i).all λk=>dV (aC s.holes i) (aC s.holes k)&&bG (aC s.holes i) (aC s.holes k) 0&&bG (aC s.holes k) (aC s.holes i) 0))
def iD(a b:aD):Bool:=(aJ a).any λx=>(aJ b).any λy=>cY x y !=0
def o6(a b:aD):Bool:=a.all λv=>kV b v==2
def km(a b:aD):Bool:=a.any λv=>kV b v==2
def aa(s:Shape):Bool:=
 decide (s.holes.length<=6)&&dB s.outer&&
 ((bP s.holes.length).all λi=>dB (aC s.holes i)&& !iD (aC s.holes i) s.outer&&o6 (aC s.holes i) s.outer&&
   ((bP i).all λk=> !iD (aC s.holes i) (aC s.holes k)&& !km (aC s.holes i) (aC s.holes k)&& !km (aC s.holes k) (aC s.holes i)))&&
 decide (fN s<=80)
def T9(a b:aD):dV a b= !iD a b:=by
 unfold dV iD;rw[R5]
 congr 1;funext x
 rw[R5]
 congr 1;funext y
 rw[pH];grind
def y4{s t:S}{p:V}(hp:p∈[s.a,s.b,t.a,t.b])(ho:br s t p):bn s t≠0:=by
 have h:=nZ s t;have hv:(aj s&&aj t)=true:=by obtain⟨h1,h2⟩:=ho;unfold onS at h1 h2;simp only[bm]at h1 h2|-;grind
 by_cases hu:∀p q,p∈[s.a,s.b,t.a,t.b]->q∈[s.a,s.b,t.a,t.b]->br s t p->br s t q->p=q
 .rw[h.touch hv hu ⟨p,hp,ho⟩];decide
 .have:∃p q,p∈[s.a,s.b,t.a,t.b]/\q∈[s.a,s.b,t.a,t.b]/\p≠q/\br s t p/\br s t q:=by apply eW;intro hno;apply hu;intro p q hp hq a b;apply eW;intro hne;grind
  obtain⟨p,q,hp,hq,hne,a,b⟩:=this;rw[h.over p q hp hq hne a b];decide
def mem_edges{r:aD}{s:S}:s∈aJ r↔2<=r.length/\∃i,i<r.length/\s=bL r i:=by unfold aJ;grind
def fO{r:aD}{v:V}:v∈r↔∃i,i<r.length/\v=nth r i:=by
 unfold nth;constructor
 .intro h;obtain⟨i,hi,e⟩:=jf h;exact⟨i,hi,by grind⟩
 grind
structure VR(r:aD):Prop where
 three:3<=r.length
 most:r.length<=40
 near:near r=true
 area:0<area r
 turn:∀i,i<r.length->turn (prv r i) (nth r i) (nxt r i)≠0
 turn':∀i,i<r.length->Geo.turn (nth r i) (nth r ((i+1) % r.length)) (nth r ((i+2) % r.length))≠0
 apart:∀i k,i<k->k<r.length->k≠i+1->¬(i=0/\k=r.length-1)->bn (bL r i) (bL r k)=0
def gv(r:aD):cg r=true↔VR r:=by
 constructor
 .intro h;unfold cg at h;simp only[bm,decide_eq_true_eq,bZ,bz]at h;obtain⟨⟨⟨⟨⟨h1,h2⟩,h3⟩,h4⟩,h5⟩,h6⟩:=h;refine⟨h1,h2,h3,h4,by grind,λi hi=> ?_,λi k hik hk h7 h8=> ?_⟩
  .have:=Dd r h1;grind
  grind
 .rintro⟨h1,h2,h3,h4,h5,_,h6⟩;unfold cg;simp only[bm,decide_eq_true_eq,bZ,bz];grind
def XL{p:Pt}{l:List S}{ins:Bool}(h:dq p l ins=1):∃s∈l,onP s p=true:=by
 induction l generalizing ins with
 |nil=>unfold dq at h;omega
 |cons s l ih=>
  unfold dq at h;grind
def JM(p:Pt)(l:List S)(ins:Bool):dq p l ins=0\/dq p l ins=1\/dq p l ins=2:=by
 induction l generalizing ins with
 |nil=>unfold dq;omega
 |cons s l ih=>unfold dq;grind
def Sq(r:aD)(v:V):c6 r v=0\/c6 r v=1\/c6 r v=2:=by
 unfold c6 bY;split
 .simp
 .split
  .simp
  .exact JM _ _ _
def Lx(s:S)(v:V):onP s (fT v)=true↔(fA s v=true/\cross (sub s.b s.a) (sub v s.a)=0):=by unfold onP fP toV fT fA;simp only[yQ,bm,beq_iff_eq,decide_eq_true_eq];rw[show(⟨v.x-s.a.x,v.y-s.a.y⟩:V)=sub v s.a from rfl];omega
def TU{r:aD}{v:V}(h:c6 r v=1):∃s∈aJ r,onS s v=true:=by
 unfold c6 bY at h;split at h
 .omega
 .split at h
  .omega
  .rename_i h2;obtain⟨s,hs,ho⟩:=XL h;refine⟨s,hs,?_⟩;have hv:VR r:=by rw[<-gv];simp at h2;exact h2.1
   obtain⟨_,i,hi,rfl⟩:=mem_edges.1 hs;rw[gH (iA hv.near i hi)];exact(Lx _ _).1 ho
def wC{a b:aD}(ha:VR a)(h:dV a b=true){v:V}(hv:v∈a){s:S}(hs:s∈aJ b)(ho:onS s v=true):False:=by obtain⟨i,hi,rfl⟩:=fO.1 hv;have hm:bL a i∈aJ a:=mem_edges.2 ⟨by have:=ha.three;omega,i,hi,rfl⟩;unfold dV at h;rw[bZ]at h;have h1:=h _ hm;rw[bZ]at h1;refine y4 (s:=bL a i) (t:=s) (p:=nth a i) (by simp[bL]) ⟨?_,ho⟩ (by grind);exact fH (s:=bL a i) (iA ha.near i hi)
def rT(a b:aD):dV a b=dV b a:=by
 unfold dV;rw[eY];simp only[bZ,beq_iff_eq];constructor
 .intro h y hy x hx;rw[lZ];grind
 .intro h x hx y hy;rw[lZ];grind
def mc{a b:aD}(ha:VR a)(h:dV a b=true):bG a b 0= !km a b:=by
 unfold bG km;rw[R5,eY];simp only[bZ];constructor
 .intro h1 v hv;rw[<-zT];grind
 .intro h1 v hv;have:=h1 v hv;rw[<-zT]at this;rcases Sq b v with e|e|e
  .rw[e];rfl
  .exfalso;obtain⟨s,hs,ho⟩:=TU e;exact wC ha h hv hs ho
  grind
def gG{l:List aD}{i:Nat}(h:i<l.length):aC l i∈l:=by unfold aC;grind
def qQ{l:List aD}{r:aD}(h:r∈l):∃i,i<l.length/\r=aC l i:=by obtain⟨i,hi,e⟩:=jf h;exact⟨i,hi,by unfold aC;grind⟩
structure VS(s:Shape):Prop where
 few:s.holes.length<=6
 outer:VR s.outer
 hole:∀i,i<s.holes.length->VR (aC s.holes i)
 corners:fN s<=80
 ins:∀i,i<s.holes.length->bG (aC s.holes i) s.outer 2=true
 apo:∀i,i<s.holes.length->dV (aC s.holes i) s.outer=true
 aph:∀i k,k<i->i<s.holes.length->dV (aC s.holes i) (aC s.holes k)=true
 out1:∀i k,k<i->i<s.holes.length->bG (aC s.holes i) (aC s.holes k) 0=true
 out2:∀i k,k<i->i<s.holes.length->bG (aC s.holes k) (aC s.holes i) 0=true
def kS(s:Shape):bJ s=true↔VS s:=by
 unfold bJ;simp only[bm,decide_eq_true_eq,bZ,bz];constructor
 .rintro⟨⟨⟨h1,h2⟩,h3⟩,h4⟩;exact⟨h1,(gv _).1 (h2 _ (by simp[aE])),λi hi=>(gv _).1 (h2 _ (by simp[aE];exact .inr (gG hi))),h3,by grind,by grind,by grind,by grind,by grind⟩
 .rintro⟨h1,h2,h3,h4,h5,h6,h7,h8,h9⟩;refine⟨⟨⟨h1,?_⟩,h4⟩,by grind⟩;intro r hr;rcases bO.1 hr with rfl|hr
  .exact(gv _).2 h2
  .obtain⟨i,hi,rfl⟩:=qQ hr;exact(gv _).2 (h3 i hi)
def hZ(s:Shape):bJ s=aa s:=by
 rw[eY,kS];unfold aa;simp only[bm,decide_eq_true_eq,bZ,bz,<-T9];constructor
 .rintro⟨h1,h2,h3,h4,h5,h6,h7,h8,h9⟩;refine⟨⟨⟨h1,by rw[<-qP];exact(gv _).2 h2⟩,λi hi=>⟨⟨⟨by rw[<-qP];exact(gv _).2 (h3 i hi),h6 i hi⟩,?_⟩,λk hk=>⟨⟨h7 i k hk hi,?_⟩,?_⟩⟩⟩,h4⟩
  .have:=h5 i hi;unfold bG at this;unfold o6;rw[bZ]at this|-;intro v hv;rw[<-zT];grind
  .rw[<-mc (h3 i hi) (h7 i k hk hi)];grind
  .rw[<-mc (h3 k (by omega)) (by rw[rT];grind)];grind
 .rintro⟨⟨⟨h1,h2⟩,h3⟩,h4⟩;have hr:∀i,i<s.holes.length->VR (aC s.holes i):=λi hi=>by have:=(h3 i hi).1.1.1;rw[<-qP]at this;exact(gv _).1 this
  refine⟨h1,by rw[<-qP]at h2;exact(gv _).1 h2,hr,h4,λi hi=> ?_,by grind,by grind,λi k hk hi=> ?_,λi k hk hi=> ?_⟩
  .have:=(h3 i hi).1.2;unfold o6 at this;unfold bG;rw[bZ]at this|-;intro v hv;rw[zT];grind
  .rw[mc (hr i hi) (by grind)];grind
  .rw[mc (hr k (by omega)) (by rw[rT];grind)];grind
end Geo
namespace Geo
def dp(r:aD):Nat->Nat
 |0=>0
 |n+1=>if bf (nth r n) (nth r (dp r n))then n else dp r n
def dN(r:aD):Nat:=dp r r.length
def co(r:aD):aD:=r.drop (dN r)++r.take (dN r)
def zO(r:aD)(n:Nat)(h:0<n):dp r n<n:=by
 induction n with
 |zero=>omega
 |succ n ih=>
  unfold dp;split
  .omega
  .rcases Nat.eq_zero_or_pos n with rfl|h0
   .simp[dp]
   omega
def tR(r:aD)(n i:Nat)(hi:i<n):leV (nth r (dp r n)) (nth r i):=by
 induction n with
 |zero=>omega
 |succ n ih=>
  unfold dp;split
  .rename_i h;have h:=(lc _ _).1 h;have h':leV (nth r n) (nth r (dp r n)):=(ww _ _).elim id (by grind);by_cases e:i=n
   .subst e;exact rm _
   .exact qN h' (ih (by omega))
  .rename_i h;have h:=(qH _ _).1 (by simpa using h);grind
def Cw(r:aD)(n i:Nat)(hi:i<dp r n):bf (nth r (dp r n)) (nth r i)=true:=by
 induction n with
 |zero=>simp[dp]at hi
 |succ n ih=>
  unfold dp at hi|-;split
  .rename_i h;rw[if_pos h]at hi;rw[lc];have h1:=(lc _ _).1 h;intro h2;exact h1 (qN (tR r n i hi) h2)
  grind
def qJ{r:aD}(h:0<r.length):dN r<r.length:=zO r _ h
def Sn{r:aD}{k:Nat}(hk:k<r.length)(h1:∀i,i<r.length->leV (nth r k) (nth r i))(h2:∀i,i<k->nth r i≠nth r k):k=dN r:=by
 have a:=qJ (r:=r) (by omega);have b:=tR r r.length k hk;have e:nth r k=nth r (dN r):=xE (h1 _ a) b;rcases yR k (dN r)with h|h|h
 .have:=Cw r r.length k h;rw[show dp r r.length=dN r from rfl,<-e,wD]at this;cases this
 .exact h
 grind
def tV(r:aD):(co r).Perm r:=by refine vK.trans ?_;simp_all
def kl(r:aD):(co r).length=r.length:=(tV r).length_eq
def ze{r:aD}{i:Nat}(hi:i<r.length):nth (co r) i=nth r ((i+dN r) % r.length):=by
 have hk:=qJ (r:=r) (by omega);unfold co nth;rw[de,de];by_cases h:i<r.length-dN r
 .rw[mI (by simp;omega),vL,jA (by omega)];grind
 .rw[kM (by simp;omega),List.getElem?_take_of_lt (by simp;omega),pC (by omega) (by omega)];grind
def rO(r:aD)(s:S):s∈aJ (co r)↔s∈aJ r:=by
 rw[mem_edges,mem_edges,kl];constructor
 .rintro⟨h2,i,hi,rfl⟩;refine⟨h2,(i+dN r) % r.length,bk _ (by omega),?_⟩;unfold bL nxt;rw[kl,ze hi,ze (bk _ (by omega)),kN,kN];grind
 .rintro⟨h2,i,hi,rfl⟩;have hk:=qJ (r:=r) (by omega);refine⟨h2,(i+(r.length-dN r)) % r.length,bk _ (by omega),?_⟩;unfold bL nxt;rw[kl,ze (bk _ (by omega)),ze (bk _ (by omega)),kN,kN];have e1:(i+(r.length-dN r)+dN r) % r.length=i:=by rw[show i+(r.length-dN r)+dN r=i+r.length from by omega,od,jA hi]
  have e2:(i+(r.length-dN r)+1+dN r) % r.length=(i+1) % r.length:=by rw[show i+(r.length-dN r)+1+dN r=i+1+r.length from by omega,od]
  rw[e1,rG _ 1 (dN r),kN,<-rG _ 1 (dN r),e2]
def VR.touch{r:aD}(h:VR r){i k:Nat}(hi:i<r.length)(hk:k<r.length)(ho:onS (bL r k) (nth r i)=true):i=k\/i=(k+1) % r.length:=by
 have h3:=h.three;have hb:onS (bL r i) (nth r i)=true:=fH (s:=bL r i) (iA h.near i hi);have hj:(i+r.length-1) % r.length<r.length:=bk _ (by omega);have hje:((i+r.length-1) % r.length+1) % r.length=i:=by rw[kN,show i+r.length-1+1=i+r.length from by omega,od,jA hi]
 have hb2:onS (bL r ((i+r.length-1) % r.length)) (nth r i)=true:=by have:=jE (s:=bL r ((i+r.length-1) % r.length)) (iA h.near _ hj);unfold bL nxt at this;simp only[hje]at this;unfold bL nxt;rw[hje];exact this
 have meetsE:∀j,j<r.length->onS (bL r j) (nth r i)=true->(nth r i=nth r j\/nth r i=nxt r j)->j=k\/(j+1) % r.length=k\/(k+1) % r.length=j:=by
  intro j hj hoj hend;rcases yR j k with hlt|he|hgt
  .by_cases h1:k=j+1
   .right;left;rw[jA (by omega)];exact h1.symm
   .by_cases h2:j=0/\k=r.length-1
    .right;right;rw[h2.2,h2.1,show r.length-1+1=r.length from by omega,kK]
    .exfalso;have:=h.apart j k hlt hk h1 h2;exact y4 (s:=bL r j) (t:=bL r k) (p:=nth r i) (by rcases hend with e|e<;>simp[bL,e]) ⟨hoj,ho⟩ this
  .exact .inl he
  .by_cases h1:j=k+1
   .right;right;rw[jA (by omega)];exact h1.symm
   .by_cases h2:k=0/\j=r.length-1
    .right;left;rw[h2.2,h2.1,show r.length-1+1=r.length from by omega,kK]
    .exfalso;have:=h.apart k j hgt hj h1 h2;exact y4 (s:=bL r k) (t:=bL r j) (p:=nth r i) (by rcases hend with e|e<;>simp[bL,e]) ⟨ho,hoj⟩ this
 have c1:=meetsE i hi hb (.inl rfl);rcases c1 with e|e|e
 .exact .inl e
 ·
  have c2:=meetsE _ hj hb2 (.inr (by unfold nxt;rw[hje]));rcases c2 with e2|e2|e2
  .grind
  .omega
  ·
   exfalso;have hk1:(k+1) % r.length=(i+2) % r.length:=by rw[<-e,kN]
   apply h.turn' i hi;have:=((gH (iA h.near k hk)).1 ho).2;rw[LF];unfold Geo.turn;rw[nU];unfold bL nxt at this;grind
 omega
def VR.inj{r:aD}(h:VR r){i k:Nat}(hi:i<r.length)(hk:k<r.length)(he:nth r i=nth r k):i=k:=by
 have ho:onS (bL r k) (nth r i)=true:=by rw[he];exact fH (s:=bL r k) (iA h.near k hk)
 rcases h.touch hi hk ho with e|e
 .exact e
 ·
  exfalso;have ht:=h.turn' k hk;apply ht;rw[<-e,he];unfold Geo.turn;rw[nU];simp[cross,sub]
def VR.nodup{r:aD}(h:VR r):r.Nodup:=by rw[oe,nB];intro i j hi hj hij e;have:=h.inj hi hj (by unfold nth;grind);omega
def VR.J6{r:aD}(h:VR r){v:V}(hv:v∈r){s:S}(hs:s∈aJ r)(ho:onS s v=true):v=s.a\/v=s.b:=by
 obtain⟨i,hi,rfl⟩:=fO.1 hv;obtain⟨_,k,hk,rfl⟩:=mem_edges.1 hs;rcases h.touch hi hk ho with e|e
 .left;rw[e];rfl
 .right;rw[e];rfl
def bl(s:Shape):List V:=(aE s).flatten
def bW(s:Shape):List S:=(aE s).flatMap aJ
def VS.ring{s:Shape}(h:VS s){r:aD}(hr:r∈aE s):VR r:=by
 rcases bO.1 hr with rfl|hr
 .exact h.outer
 .obtain⟨i,hi,rfl⟩:=qQ hr;exact h.hole i hi
def VS.pair{s:Shape}(h:VS s):(aE s).Pairwise (λa b=>dV a b=true):=by
 unfold aE;rw[gX];refine⟨λr hr=> ?_,?_⟩
 .obtain⟨i,hi,rfl⟩:=qQ hr;rw[rT];exact h.apo i hi
 .rw[nB];intro i k hi hk hik;have:=h.aph k i hik hk;unfold aC at this;rw[de,de,eZ hi,eZ hk]at this;rw[rT];exact this
def JT:∀(l:List aD),(∀r∈l,VR r)->l.Pairwise (λa b=>dV a b=true)->∀v∈l.flatten,∀e∈l.flatMap aJ,onS e v=true->v=e.a\/v=e.b
 |[],_,_,v,hv,_,_,_=>by simp at hv
 |r::l,hr,hp,v,hv,e,he,ho=>by
  rw[gX]at hp;rw[lN,bq]at hv;rw[fX,bq]at he;rcases hv with hv|hv<;>rcases he with he|he
  .exact(hr r (by simp)).J6 hv he ho
  .rw[dI]at he;obtain⟨q,hq,he⟩:=he;exact(wC (hr r (by simp)) (hp.1 q hq) hv he ho).elim
  .rw[kh]at hv;obtain⟨q,hq,hv⟩:=hv;exact(wC (by grind) (by rw[rT];grind) hv he ho).elim
  .exact JT l (by grind) hp.2 v hv e he ho
def JU:∀(l:List aD),(∀r∈l,VR r)->l.Pairwise (λa b=>dV a b=true)->l.flatten.Nodup
 |[],_,_=>by simp
 |r::l,hr,hp=>by
  rw[gX]at hp;rw[lN,nC];refine⟨(hr r (by simp)).nodup,JU l (by grind) hp.2,?_⟩;rintro a ha b hb rfl;rw[kh]at hb;obtain⟨q,hq,hb⟩:=hb;have hvq:=hr q (by simp[hq]);obtain⟨i,hi,rfl⟩:=fO.1 hb;exact wC (hr r (by simp)) (hp.1 q hq) ha (mem_edges.2 ⟨by have:=hvq.three;omega,i,hi,rfl⟩) (fH (s:=bL q i) (iA hvq.near i hi))
def VS.touch{s:Shape}(h:VS s){v:V}(hv:v∈bl s){e:S}(he:e∈bW s)(ho:onS e v=true):v=e.a\/v=e.b:=
 JT _ (λ_ hr=>h.ring hr) h.pair v hv e he ho
def VS.nodup{s:Shape}(h:VS s):(bl s).Nodup:=JU _ (λ_ hr=>h.ring hr) h.pair
end Geo
namespace Geo
def kg:List aD->aD->List aD
 |[],h=>[h]
 |q::l,h=>if bf (nth q 0) (nth h 0)then q::kg l h else h::q::l
def qq(l:List aD):List aD:=l.foldl kg []
def dC(s:Shape):Shape:=⟨co s.outer,qq (s.holes.map co)⟩
def Dz(l:List aD)(h:aD):(kg l h).Perm (h::l):=by
 induction l with
 |nil=>exact CL _
 |cons q l ih=>
  unfold kg;grind
def Sc(l acc:List aD):(l.foldl kg acc).Perm (acc++l):=by
 induction l generalizing acc with
 |nil=>simp
 |cons q l ih=>
  refine(ih _).trans ?_;refine((Dz acc q).append_right l).trans ?_;grind
def lV(l:List aD):(qq l).Perm l:=by unfold qq;have:=Sc l [];grind
def leH(a b:aD):Prop:=leV (nth a 0) (nth b 0)
def Ts(l:List aD)(h:aD)(hl:l.Pairwise leH):(kg l h).Pairwise leH:=by
 induction l with
 |nil=>simp[kg]
 |cons q l ih=>
  rw[gX]at hl;unfold kg;split
  .rename_i hq;rw[gX];refine⟨λx hx=> ?_,ih hl.2⟩;have hx:=(Dz l h).subset hx;rcases bO.1 hx with rfl|hx
   .exact(ww _ _).elim id (λe=>absurd e ((lc _ _).1 hq))
   grind
  .rename_i hq;have hq:=(qH _ _).1 (by simpa using hq);rw[gX,gX];refine⟨λx hx=> ?_,hl⟩;rcases bO.1 hx with rfl|hx
   .exact hq
   .exact qN hq (hl.1 x hx)
def SX(l acc:List aD)(h:acc.Pairwise leH):(l.foldl kg acc).Pairwise leH:=by
 induction l generalizing acc with
 |nil=>exact h
 |cons q l ih=>exact ih _ (Ts acc q h)
def TE(l:List aD):(qq l).Pairwise leH:=SX l [] rE
def yu:∀(l:List aD),l.flatten.Nodup->∀a∈l,∀b∈l,∀x,x∈a->x∈b->a=b
 |[],_,a,ha,_,_,_,_,_=>by cases ha
 |r::l,h,a,ha,b,hb,x,hxa,hxb=>by
  rw[lN,nC]at h;obtain⟨h1,h2,h3⟩:=h;rcases bO.1 ha with ea|ha'<;>rcases bO.1 hb with eb|hb'
  .rw[ea,eb]
  .rw[ea]at hxa;exact(h3 x hxa x (kh.2 ⟨_,hb',hxb⟩) rfl).elim
  .rw[eb]at hxb;exact(h3 x hxb x (kh.2 ⟨_,ha',hxa⟩) rfl).elim
  .exact yu l h2 a ha' b hb' x hxa hxb
def IT(l:List aD):((l.map co).flatten).Perm l.flatten:=by
 induction l with
 |nil=>grind
 |cons r l ih=>
  exact(tV r).append ih
def mR(s:Shape):(bl (dC s)).Perm (bl s):=by unfold bl aE dC;refine(tV _).append ?_;exact((lV _).flatten).trans (IT _)
def yt(s:Shape)(e:S):e∈bW (dC s)↔e∈bW s:=by
 unfold bW aE dC;simp only[fX,bq,dI,rO];constructor
 .rintro(h|⟨r,hr,he⟩)
  .exact .inl h
  .have hr:=(lV _).subset hr;obtain⟨q,hq,rfl⟩:=bM.1 hr;exact .inr ⟨q,hq,(rO q e).1 he⟩
 .rintro(h|⟨r,hr,he⟩)
  .exact .inl h
  .refine .inr ⟨co r,(lV _).symm.subset (by grind),(rO r e).2 he⟩
def jT(p:Pt):List aD->Int->Int
 |[],w=>w
 |h::l,w=>if bY h p=2 then 0 else if bY h p=1 then 1 else jT p l w
def eJ(s:Shape)(p:Pt):Int:=
 if !(bJ s)then 0 else if bY s.outer p≠2 then bY s.outer p else jT p s.holes 2
def uV(p:Pt):List aD->Int->Int
 |[],w=>w
 |h::l,w=>if iC h p=2 then 0 else if iC h p=1 then 1 else uV p l w
def FB(s:Shape)(p:Pt):Int:=if !(aa s)then 0 else uV p s.holes (iC s.outer p)
def Xw(p:Pt)(l:List aD)(w:Int):jT p l w=uV p l w:=by
 induction l with
 |nil=>rfl
 |cons h l ih=>unfold jT uV;rw[EN,ih]
def Uk(p:Pt)(l:List aD)(w:Int):uV p l w=2->w=2:=by
 induction l with
 |nil=>exact id
 |cons h l ih=>unfold uV;omega
def UC(s:Shape)(p:Pt):(eJ s p==2)=(FB s p==2):=by
 unfold eJ FB;rw[hZ,EN];cases aa s with
 |false=>rfl
 |true=>
  simp only[yO,qB,if_false];by_cases h:iC s.outer p=2
  .rw[if_neg (by omega),h,Xw]
  .rw[if_pos h,eY,beq_iff_eq,beq_iff_eq];exact⟨by grind,λe=>absurd (Uk _ _ _ e) h⟩
def fF(c:S):Pt:=
 if(c.a.x+c.b.x).tmod 2=0/\(c.a.y+c.b.y).tmod 2=0 then⟨(c.a.x+c.b.x).tdiv 2,(c.a.y+c.b.y).tdiv 2,1⟩else⟨c.a.x+c.b.x,c.a.y+c.b.y,2⟩
def G9(l:List V):Int:=(l.map V.x).sum
def G8(l:List V):Int:=(l.map V.y).sum
def FY(l:List V):Pt:=
 let g:Int:=bw (bw (G9 l).natAbs (G8 l).natAbs) l.length
 ⟨(G9 l).tdiv g,(G8 l).tdiv g,(l.length:Int).tdiv g⟩
def z8(x:Int)(k:Nat):x.tmod k=0↔k∣x.natAbs:=by rw[<-R6,Int.ofNat_dvd_left]
def UZ(a b:V):FY [a,b] =fF ⟨a,b⟩:=by
 unfold FY fF G9 G8;simp only[cT,List.map_nil,yS,List.sum_nil,nD,gY,mH];generalize a.x+b.x=x;generalize a.y+b.y=y;have hd:bw (bw x.natAbs y.natAbs) 2∣2:=Hn _ _;have hle:=Nat.le_of_dvd (by omega) hd;have hpos:0<bw (bw x.natAbs y.natAbs) 2:=by grind
 by_cases h:x.tmod 2=0/\y.tmod 2=0
 .have e:bw (bw x.natAbs y.natAbs) 2=2:=Nat.gcd_eq_right (Nat.dvd_gcd (by grind) (by grind));grind
 .have e:bw (bw x.natAbs y.natAbs) 2=1:=by
   rcases nF (bw (bw x.natAbs y.natAbs) 2) 2 with h1|h1
   .omega
   .exfalso;have e2:bw (bw x.natAbs y.natAbs) 2=2:=by omega
    have d1:2∣bw x.natAbs y.natAbs:=by have:=Ho (bw x.natAbs y.natAbs) 2;rwa[e2]at this
    exact h ⟨(z8 x 2).2 (Hp d1 (Ho _ _)),(z8 y 2).2 (Hp d1 (Hn _ _))⟩
  simp_all
def pN(a b c:V):Pt:=
 if(a.x+b.x+c.x).tmod 3=0/\(a.y+b.y+c.y).tmod 3=0 then⟨(a.x+b.x+c.x).tdiv 3,(a.y+b.y+c.y).tdiv 3,1⟩else⟨a.x+b.x+c.x,a.y+b.y+c.y,3⟩
end Geo
namespace Geo
def pQ(s t:S):Bool:=s.a==t.a||s.a==t.b||s.b==t.a||s.b==t.b
def cC(s t:S):Bool:=bn s t==0||(bn s t==1&&pQ s t)
def fE(s:Shape)(c:S):Bool:=(bW s).all (λe=>cC e c)&&eJ s (fF c)==2
def BO(d e:S):Bool:=
 if cY d e=2\/cY d e=3 then false
 else if cY d e=1 then(nth (jm d e) 0==d.a||nth (jm d e) 0==d.b)else true
def pW(s:Shape)(c:S):Bool:=(bW s).all (λe=>BO c e)&&(c.a !=c.b&&FB s (FY [c.a,c.b])==2)
def I2(s t:S):bn s t=0\/bn s t=1\/bn s t=2\/bn s t=3:=by unfold bn mg;grind
def De{s t:S}(h:bn s t=1):(aj s=true/\aj t=true)/\∃z,z∈ends s t/\br s t z/\(∀p,p∈ends s t->br s t p->p=z)/\jm s t=[z] :=by
 rw[pH]at h;have hm:=DC s t;unfold cY at h;split at h
 .omega
 .split at h
  .omega
  .split at h
   .rename_i h1;match hc:jm s t,h1 with
    |[z],_=>
     grind
   omega
def XZ{s t:S}(h:bn s t=3):∃p q,p≠q/\p∈ends s t/\q∈ends s t/\br s t p/\br s t q:=by
 rw[pH]at h;have hm:=DC s t;have hs:=IW ((ends s t).filter (λp=>onS s p&&onS t p));rw[show ku ((ends s t).filter (λp=>onS s p&&onS t p))=jm s t from rfl]at hs;unfold cY at h;split at h
 .omega
 .split at h
  .rename_i h1;match hc:jm s t,h1 with
   |z::y::r,_=>
    rw[hc]at hm hs;have hz:=(hm z).1 (by simp);have hy:=(hm y).1 (by simp);refine⟨z,y,?_,hz.1,hy.1,hz.2,hy.2⟩;rintro rfl;rw[gX]at hs;have:=hs.1 z (by simp);rw[wD]at this;cases this
  omega
def j9(s t:S)(p:V):p∈ends s t↔p=s.a\/p=s.b\/p=t.a\/p=t.b:=by unfold ends;simp
def zJ(s t:S):pQ s t=true↔(s.a=t.a\/s.a=t.b\/s.b=t.a\/s.b=t.b):=by unfold pQ;grind
def Ku{s:Shape}(h:VS s){c e:S}(ha:c.a∈bl s)(hb:c.b∈bl s)(he:e∈bW s):cC e c=BO c e:=by
 unfold cC BO;rw[lZ e c,<-pH];rcases I2 c e with hk|hk|hk|hk
 .rw[hk];simp
 .rw[if_neg (by omega),if_pos hk,hk];obtain⟨⟨vc,ve⟩,z,hz,ho,hu,hcom⟩:=De hk;rw[hcom];rw[eY];simp only[je,beq_iff_eq,bm,zJ];constructor
  .rintro(h1|⟨_,h1⟩)
   .omega
   .rcases h1 with h1|h1|h1|h1
    .left;exact(hu c.a (by rw[j9];simp) ⟨fH vc,by rw[<-h1];exact fH ve⟩).symm
    .right;exact(hu c.b (by rw[j9];simp) ⟨jE vc,by rw[<-h1];exact fH ve⟩).symm
    .left;exact(hu c.a (by rw[j9];simp) ⟨fH vc,by rw[<-h1];exact jE ve⟩).symm
    .right;exact(hu c.b (by rw[j9];simp) ⟨jE vc,by rw[<-h1];exact jE ve⟩).symm
  .rintro(h1|h1)
   .right;have:=h.touch ha he (by rw[<-h1];exact ho.2);grind
   .right;have:=h.touch hb he (by rw[<-h1];exact ho.2);grind
 .rw[hk];simp
 grind
def E0{s:Shape}(h:VS s){c:S}(ha:c.a∈bl s)(hb:c.b∈bl s)(hne:c.a≠c.b):fE s c=pW s c:=by
 unfold fE pW;rw[UZ,UC];have e1:((bW s).all λe=>cC e c)=((bW s).all λe=>BO c e):=by
  rw[eY,bZ,bZ];constructor
  .intro h1 e he;rw[<-Ku h ha hb he];exact h1 e he
  .intro h1 e he;rw[Ku h ha hb he];exact h1 e he
 rw[e1];have e2:(c.a !=c.b)=true:=by simpa using hne
 rw[e2,oc]
def DI{s:Shape}(h:VS s){c:S}(hc:fE s c=true){p:V}(hp:p∈bl s)(ho:onS c p=true):p=c.a\/p=c.b:=by
 unfold bl at hp;rw[kh]at hp;obtain⟨r,hr,hpr⟩:=hp;have hvr:=h.ring hr;obtain⟨i,hi,rfl⟩:=fO.1 hpr;have he:bL r i∈bW s:=dI.2 ⟨r,hr,mem_edges.2 ⟨by have:=hvr.three;omega,i,hi,rfl⟩⟩;have ve:=iA hvr.near i hi;unfold fE at hc;rw[bm,bZ]at hc;have ht:=hc.1 _ he;have hob:br (bL r i) c (nth r i):=⟨fH (s:=bL r i) ve,ho⟩;have hnz:=y4 (s:=bL r i) (t:=c) (p:=nth r i) (by simp[bL]) hob;unfold cC at ht;simp only[je,beq_iff_eq,bm,zJ]at ht;rcases ht with ht|⟨ht,hsh⟩
 .omega
 .obtain⟨⟨_,vc⟩,z,_,_,hu,_⟩:=De ht;have e1:=hu (nth r i) (by rw[j9];simp[bL]) hob;rw[e1];rcases hsh with h1|h1|h1|h1
  .left;exact(hu c.a (by rw[j9];simp) ⟨by rw[<-h1];exact fH ve,fH vc⟩).symm
  .right;exact(hu c.b (by rw[j9];simp) ⟨by rw[<-h1];exact fH ve,jE vc⟩).symm
  .left;exact(hu c.a (by rw[j9];simp) ⟨by rw[<-h1];exact jE ve,fH vc⟩).symm
  .right;exact(hu c.b (by rw[j9];simp) ⟨by rw[<-h1];exact jE ve,jE vc⟩).symm
def T6{s:Shape}(h:VS s){c d:S}(hc:fE s c=true)(hd:fE s d=true)(c1:c.a∈bl s)(c2:c.b∈bl s)(d1:d.a∈bl s)(d2:d.b∈bl s)
  (hne:¬((c.a=d.a/\c.b=d.b)\/(c.a=d.b/\c.b=d.a))):cC c d=(cY d c !=2):=by
 rw[<-pH,lZ d c];unfold cC;have hends:∀p,p∈ends c d->br c d p->(p=c.a\/p=c.b)/\(p=d.a\/p=d.b):=by
  intro p hp ho;have hpv:p∈bl s:=by rcases(j9 _ _ _).1 hp with rfl|rfl|rfl|rfl<;>assumption
  exact⟨DI h hc hpv ho.1,DI h hd hpv ho.2⟩
 rcases I2 c d with hk|hk|hk|hk
 .rw[hk];rfl
 .have:pQ c d=true:=by obtain⟨_,z,hz,ho,_,_⟩:=De hk;obtain⟨h1,h2⟩:=hends z hz ho;rw[zJ];grind
  grind
 .rw[hk];rfl
 .obtain⟨p,q,hpq,hp,hq,op,oq⟩:=XZ hk;grind
end Geo
namespace Geo
def cS(v:List V)(p:Nat×Nat):S:=⟨nth v p.1,nth v p.2⟩
def n8(s:Shape)(v:List V)(acc:List (Nat×Nat))(i k:Nat):List (Nat×Nat):=
 if !(acc.any λd=> !(cC ⟨nth v i,nth v k⟩ (cS v d)))&&fE s ⟨nth v i,nth v k⟩then acc++[(i,k)]else acc
def rowP(s:Shape)(v:List V)(acc:List (Nat×Nat))(i:Nat):Nat->List (Nat×Nat)
 |0=>acc
 |m+1=>n8 s v (rowP s v acc i m) i (i+1+m)
def da(s:Shape)(v:List V):Nat->List (Nat×Nat)
 |0=>[]
 |i+1=>rowP s v (da s v i) i (v.length-(i+1))
def c7(s:Shape)(v:List V):List (Nat×Nat):=da s v v.length
def ug(s:Shape)(v:List V)(acc:List S)(i k:Nat):List S:=
 if pW s ⟨nth v i,nth v k⟩&&(acc.all λd=>cY d ⟨nth v i,nth v k⟩ !=2)then acc++[⟨nth v i,nth v k⟩]else acc
def pu(s:Shape)(v:List V)(acc:List S)(i:Nat):Nat->List S
 |0=>acc
 |m+1=>ug s v (pu s v acc i m) i (i+1+m)
def n7(s:Shape)(v:List V):Nat->List S
 |0=>[]
 |i+1=>pu s v (n7 s v i) i (v.length-(i+1))
def m5(s:Shape)(v:List V):List S:=n7 s v v.length
def dD{v:List V}{i:Nat}(h:i<v.length):nth v i∈v:=fO.2 ⟨i,h,rfl⟩
def ll{v:List V}(hn:v.Nodup){i k:Nat}(hi:i<v.length)(hk:k<v.length)(e:nth v i=nth v k):i=k:=by unfold nth at e;rw[de,de,eZ hi,eZ hk]at e;rw[oe,nB]at hn;grind
structure Found(s:Shape)(v:List V)(acc:List (Nat×Nat))(i k:Nat):Prop where
 lt:∀p∈acc,p.1<p.2/\p.2<v.length
 ahead:∀p∈acc,p.1<i\/(p.1=i/\p.2<k)
 chord:∀p∈acc,fE s (cS v p)=true
 apart:acc.Pairwise λp q=>cY (cS v p) (cS v q)≠2
def U3{s:Shape}(h:VS s){v:List V}(hv:∀x∈v,x∈bl s)(hn:v.Nodup){acc:List (Nat×Nat)}{i k:Nat}(hF:Found s v acc i k)(hik:i<k)(hk:k<v.length)(hc:fE s ⟨nth v i,nth v k⟩=true):
  (!(acc.any λd=> !(cC ⟨nth v i,nth v k⟩ (cS v d))))=((acc.map (cS v)).all λd=>cY d ⟨nth v i,nth v k⟩ !=2):=by
 have key:∀d∈acc,cC ⟨nth v i,nth v k⟩ (cS v d)=(cY (cS v d) ⟨nth v i,nth v k⟩ !=2):=by
  intro d hd;obtain⟨h1,h2⟩:=hF.lt d hd;refine T6 h hc (hF.chord d hd) (hv _ (dD (by omega))) (hv _ (dD hk)) (hv _ (dD (by omega))) (hv _ (dD (by omega))) ?_;rintro(⟨e1,e2⟩|⟨e1,e2⟩)
  .have a1:=ll hn (by omega) (by omega) e1;have a2:=ll hn (by omega) (by omega) e2;rcases hF.ahead d hd with h3|h3<;>omega
  .have a1:=ll hn (by omega) (by omega) e1;have a2:=ll hn (by omega) (by omega) e2;omega
 grind
def Yg{s:Shape}(h:VS s){v:List V}(hv:∀x∈v,x∈bl s)(hn:v.Nodup){acc:List (Nat×Nat)}{i k:Nat}(hF:Found s v acc i k)(hik:i<k)(hk:k<v.length):
  (n8 s v acc i k).map (cS v)=ug s v (acc.map (cS v)) i k/\Found s v (n8 s v acc i k) i (k+1):=by
 have hne:nth v i≠nth v k:=λe=>by have:=ll hn (by omega) hk e;omega
 have hce:=E0 h (c:=⟨nth v i,nth v k⟩) (hv _ (dD (by omega))) (hv _ (dD hk)) hne;unfold n8 ug;cases hc:fE s ⟨nth v i,nth v k⟩with
 |false=>
  rw[hc]at hce;rw[<-hce];simp only[Bool.and_false,Bool.false_and,qB,if_false];exact⟨by trivial,hF.lt,λp hp=>by have:=hF.ahead p hp;omega,hF.chord,hF.apart⟩
 |true=>
  rw[hc]at hce;rw[<-hce,U3 h hv hn hF hik hk hc,Hq,oc];by_cases hx:((acc.map (cS v)).all λd=>cY d ⟨nth v i,nth v k⟩ !=2)=true
  .rw[if_pos hx,if_pos hx];refine⟨by rw[dQ];rfl,?_,?_,?_,?_⟩
   .intro p hp;rcases bq.1 hp with hp|hp
    .exact hF.lt p hp
    grind
   .intro p hp;rcases bq.1 hp with hp|hp
    .have:=hF.ahead p hp;omega
    grind
   .intro p hp;rcases bq.1 hp with hp|hp
    .exact hF.chord p hp
    .obtain rfl:=bh.1 hp;exact hc
   .rw[R7];refine⟨hF.apart,by grind,?_⟩;intro p hp q hq;obtain rfl:=bh.1 hq;rw[CM,bZ]at hx;have:=hx p hp;simp only[yT,bne_iff_ne]at this;exact this
  .rw[if_neg hx,if_neg hx];exact⟨rfl,hF.lt,λp hp=>by have:=hF.ahead p hp;omega,hF.chord,hF.apart⟩
def Oe{s:Shape}(h:VS s){v:List V}(hv:∀x∈v,x∈bl s)(hn:v.Nodup){acc:List (Nat×Nat)}{i:Nat}(hF:Found s v acc i (i+1))(m:Nat)(hm:i+1+m<=v.length):
  (rowP s v acc i m).map (cS v)=pu s v (acc.map (cS v)) i m/\Found s v (rowP s v acc i m) i (i+1+m):=by
 induction m with
 |zero=>exact⟨rfl,hF⟩
 |succ m ih=>
  obtain⟨h1,h2⟩:=ih (by omega);unfold rowP pu;rw[<-h1];exact Yg h hv hn h2 (by omega) (by omega)
def PQ{s:Shape}(h:VS s){v:List V}(hv:∀x∈v,x∈bl s)(hn:v.Nodup)(i:Nat)(hi:i<=v.length):
  (da s v i).map (cS v)=n7 s v i/\Found s v (da s v i) i (i+1):=by
 induction i with
 |zero=>exact⟨rfl,⟨by simp[da],by simp[da],by simp[da],by simp[da]⟩⟩
 |succ i ih=>
  obtain⟨h1,h2⟩:=ih (by omega);unfold da n7;rw[<-h1];obtain⟨h3,h4⟩:=Oe h hv hn h2 (v.length-(i+1)) (by omega);exact⟨h3,h4.lt,λp hp=>by have:=h4.ahead p hp;omega,h4.chord,h4.apart⟩
def xR{s:Shape}(h:VS s){v:List V}(hv:∀x∈v,x∈bl s)(hn:v.Nodup):(c7 s v).map (cS v)=m5 s v/\Found s v (c7 s v) v.length (v.length+1):=
 PQ h hv hn _ (bQ _)
end Geo
namespace Geo
abbrev Tab:=Nat->Nat->Bool
end Geo
namespace Geo
def cQ:aD->aD->Int
 |[],[] =>0
 |[],_::_=> -1
 |_::_,[] =>1
 |a::l,b::m=>if bi a b≠0 then bi a b else cQ l m
def Kx(x y:Int):eE x y= -eE y x:=by unfold eE;grind
def WY(p q:V):bi p q= -bi q p:=by unfold bi;rw[Kx p.y,Kx p.x];grind
def qG:∀(l m:aD),cQ l m= -cQ m l
 |[],[] =>rfl
 |[],_::_=>rfl
 |_::_,[] =>rfl
 |a::l,b::m=>by
  unfold cQ;have:=WY a b;by_cases h:bi a b=0
  .rw[if_neg (by omega),if_neg (by omega)];exact qG l m
  omega
def wG:∀(l m:aD),cQ l m=0->l=m
 |[],[],_=>rfl
 |[],_::_,h=>by unfold cQ at h;omega
 |_::_,[],h=>by unfold cQ at h;omega
 |a::l,b::m,h=>by
  unfold cQ at h;by_cases h0:bi a b=0
  .rw[if_neg (by omega)]at h;rw[(w7 a b).1 h0,wG l m h]
  omega
def TN(l:aD):cQ l l=0:=by have:=qG l l;omega
def U4{p q r:V}(h1:bi p q<0)(h2:bi q r<0):bi p r<0:=by rw[xT]at*;exact tL h1 h2
def Cy:∀(l m n:aD),cQ l m<0->cQ m n<0->cQ l n<0
 |[],[],_,h,_=>by omega
 |[],_::_,[],_,h=>by unfold cQ at h;omega
 |[],_::_,_::_,_,_=>by unfold cQ;omega
 |_::_,[],_,h,_=>by unfold cQ at h;omega
 |_::_,_::_,[],_,h=>by unfold cQ at h;omega
 |a::l,b::m,c::n,h1,h2=>by
  unfold cQ at*;by_cases e1:bi a b=0
  .rw[if_neg (by omega)]at h1;have:=(w7 a b).1 e1;subst this;by_cases e2:bi a c=0
   .rw[if_neg (by omega)]at h2|-;exact Cy l m n h1 h2
   omega
  .rw[if_pos e1]at h1;by_cases e2:bi b c=0
   .have:=(w7 b c).1 e2;grind
   .rw[if_pos e2]at h2;have:=U4 h1 h2;omega
def iF(a b:aD):Prop:=cQ a b<=0
def Tl{a b:aD}(h1:iF a b)(h2:iF b a):a=b:=by unfold iF at*;apply wG;have:=qG a b;omega
def Ik{a b c:aD}(h1:iF a b)(h2:iF b c):iF a c:=by
 unfold iF at*;by_cases e1:cQ a b=0
 .rw[wG _ _ e1];exact h2
 .by_cases e2:cQ b c=0
  .rw[<-wG _ _ e2];exact h1
  .have:=Cy a b c (by omega) (by omega);omega
def mE:List aD->aD->List aD
 |[],r=>[r]
 |q::l,r=>if cQ q r<0 then q::mE l r else r::q::l
def Ke(l:List aD)(r:aD):(mE l r).Perm (r::l):=by
 induction l with
 |nil=>exact CL _
 |cons q l ih=>
  unfold mE;grind
def To(l:List aD)(r:aD)(hl:l.Pairwise iF):(mE l r).Pairwise iF:=by
 induction l with
 |nil=>simp[mE]
 |cons q l ih=>
  rw[gX]at hl;unfold mE;split
  .rw[gX];refine⟨λx hx=> ?_,ih hl.2⟩;have hx:=(Ke l r).subset hx;rcases bO.1 hx with rfl|hx
   .unfold iF;omega
   grind
  .have hq':iF r q:=by unfold iF;have:=qG r q;omega
   rw[gX,gX];refine⟨λx hx=> ?_,hl⟩;rcases bO.1 hx with rfl|hx
   .exact hq'
   .exact Ik hq' (hl.1 x hx)
def Sb(l acc:List aD):(l.foldl mE acc).Perm (acc++l):=by
 induction l generalizing acc with
 |nil=>simp
 |cons q l ih=>
  refine(ih _).trans ?_;refine((Ke acc q).append_right l).trans ?_;grind
def Cr(l acc:List aD)(h:acc.Pairwise iF):(l.foldl mE acc).Pairwise iF:=by
 induction l generalizing acc with
 |nil=>exact h
 |cons q l ih=>exact ih _ (To acc q h)
def pf(l:List aD):List aD:=l.foldl mE []
def wO(l:List aD):(pf l).Perm l:=by unfold pf;have:=Sb l [];grind
def Ig{l m:List aD}(hp:m.Perm l)(hs:m.Pairwise iF):m=pf l:=
 List.Perm.eq_of_pairwise (λ_ _ _ _ h1 h2=>Tl h1 h2) hs (Cr l [] rE) (hp.trans (wO l).symm)
def db(r:aD):aD:=if cg r then co r else []
def P8(a b c:V):aD:=if turn a b c<0 then db [a,c,b]else db [a,b,c]
def O9(s:Shape)(v:List V)(i j k:Nat):Bool:=
 turn (nth v i) (nth v j) (nth v k) !=0&&
 ((bP v.length).all λn=> !(n !=i&&n !=j&&n !=k&&c6 (P8 (nth v i) (nth v j) (nth v k)) (nth v n) !=0))&&
 eJ s (pN (nth v i) (nth v j) (nth v k))==2
end Geo
namespace Geo
structure P3 where
 x:Int
 y:Int
 d:Int
def ev(h p:P3):Int:=h.x*p.x+h.y*p.y+h.d*p.d
def cmb(m:Int)(p:P3)(n:Int)(q:P3):P3:=⟨m*p.x+n*q.x,m*p.y+n*q.y,m*p.d+n*q.d⟩
def ai(h p q:P3)(m n:Int):ev h (cmb m p n q)=m*ev h p+n*ev h q:=by unfold ev cmb;grind
def Sat(L:List P3):Prop:=∃p:P3,0<p.d/\∀h∈L,0<ev h p
def HN(u v:Int):∃a b:Int,(a≠0\/b≠0)/\a*u+b*v=0:=by
 by_cases h:u=0
 .exact⟨1,0,.inl (by omega),by omega⟩
 .exact⟨v,-u,.inr (by omega),by grind⟩
def aBA(x1 y1 x2 y2 x3 y3:Int):∃a b c:Int,(a≠0\/b≠0\/c≠0)/\a*x1+b*x2+c*x3=0/\a*y1+b*y2+c*y3=0:=by
 by_cases h3:x3=0
 .by_cases h2:x2=0
  .obtain⟨b,c,hne,hy⟩:=HN y2 y3;exact⟨0,b,c,by omega,by grind,by omega⟩
  .obtain⟨a,c,hne,hy⟩:=HN (x2*y1-x1*y2) (x2*y3-x3*y2);refine⟨a*x2,-(a*x1+c*x3),c*x2,?_,by grind,by grind⟩;rcases hne with h|h
   .simp_all
   simp_all
 .obtain⟨a,b,hne,hy⟩:=HN (x3*y1-x1*y3) (x3*y2-x2*y3);refine⟨a*x3,b*x3,-(a*x1+b*x2),?_,by grind,by grind⟩;rcases hne with h|h
  .simp_all
  simp_all
def aBz(p q r s:P3)(hs:0<s.d):∃a b c e:Int,(a≠0\/b≠0\/c≠0\/e≠0)/\a*p.x+b*q.x+c*r.x+e*s.x=0/\a*p.y+b*q.y+c*r.y+e*s.y=0/\a*p.d+b*q.d+c*r.d+e*s.d=0:=by
 obtain⟨a,b,c,hne,hx,hy⟩:=aBA (s.d*p.x-p.d*s.x) (s.d*p.y-p.d*s.y) (s.d*q.x-q.d*s.x) (s.d*q.y-q.d*s.y) (s.d*r.x-r.d*s.x) (s.d*r.y-r.d*s.y);have hd:s.d≠0:=by omega
 refine⟨a*s.d,b*s.d,c*s.d,-(a*p.d+b*q.d+c*r.d),?_,by grind,by grind,by grind⟩;rcases hne with h|h|h
 .simp_all
 .simp_all
 simp_all
def pos(n:Int):Int:=if 0<n then n else 0
def mix(a b c e:Int)(p q r s:P3):P3:=⟨a*p.x+b*q.x+c*r.x+e*s.x,a*p.y+b*q.y+c*r.y+e*s.y,a*p.d+b*q.d+c*r.d+e*s.d⟩
def mh(h p q r s:P3)(a b c e:Int):ev h (mix a b c e p q r s)=a*ev h p+b*ev h q+c*ev h r+e*ev h s:=by unfold ev mix;grind
def ur(p q r s:P3)(a b c e:Int):(mix a b c e p q r s).d=a*p.d+b*q.d+c*r.d+e*s.d:=rfl
def lk{a b c e u v x y:Int}(ha:0<=a)(hb:0<=b)(hc:0<=c)(he:0<=e)(hne:a≠0\/b≠0\/c≠0\/e≠0)(h1:a≠0->0<u)(h2:b≠0->0<v)(h3:c≠0->0<x)(h4:e≠0->0<y):0<a*u+b*v+c*x+e*y:=by
 have t:∀{m z:Int},0<=m->(m≠0->0<z)->0<=m*z/\(m≠0->0<m*z):=by
  intro m z hm hz;by_cases h:m=0
  .grind
  .have:=bV (show 0<m by omega) (hz h);omega
 have:=t ha h1;have:=t hb h2;have:=t hc h3;have:=t he h4;omega
def aAZ{h1 h2 h3 h4:P3}{R:List P3}(s1:Sat (h2::h3::h4::R))(s2:Sat (h1::h3::h4::R))(s3:Sat (h1::h2::h4::R))(s4:Sat (h1::h2::h3::R)):Sat (h1::h2::h3::h4::R):=by
 obtain⟨p,hp,fp⟩:=s1;obtain⟨q,hq,fq⟩:=s2;obtain⟨r,hr,fr⟩:=s3;obtain⟨s,hs,fs⟩:=s4;obtain⟨a,b,c,e,hne,hx,hy,hd⟩:=aBz p q r s hs;simp only[bO,forall_eq_or_imp]at fp fq fr fs;obtain⟨p2,p3,p4,pR⟩:=fp;obtain⟨q1,q3,q4,qR⟩:=fq;obtain⟨r1,r2,r4,rR⟩:=fr;obtain⟨s1,s2,s3,sR⟩:=fs;have pn:∀n:Int,pos n-pos (-n)=n:=by intro n;unfold pos;split<;>split<;>omega
 have p0:∀n:Int,0<=pos n:=by intro n;unfold pos;split<;>omega
 have pz:∀n:Int,pos n≠0->pos (-n)=0:=by intro n;unfold pos;split<;>split<;>omega
 have key:∀h:P3,ev h (mix (pos a) (pos b) (pos c) (pos e) p q r s)=ev h (mix (pos (-a)) (pos (-b)) (pos (-c)) (pos (-e)) p q r s):=by
  intro h;have hz:a*ev h p+b*ev h q+c*ev h r+e*ev h s=0:=by unfold ev;grind
  rw[mh,mh];have ea:=pn a;have eb:=pn b;have ec:=pn c;have ee:=pn e;grind
 have kd:(mix (pos a) (pos b) (pos c) (pos e) p q r s).d=(mix (pos (-a)) (pos (-b)) (pos (-c)) (pos (-e)) p q r s).d:=by rw[ur,ur];have ea:=pn a;have eb:=pn b;have ec:=pn c;have ee:=pn e;grind
 have dne:pos a≠0\/pos b≠0\/pos c≠0\/pos e≠0:=by
  apply eW;intro hno;simp only[not_or,R9]at hno;obtain⟨z1,z2,z3,z4⟩:=hno;have:0<pos (-a)*p.d+pos (-b)*q.d+pos (-c)*r.d+pos (-e)*s.d:=by refine lk (p0 _) (p0 _) (p0 _) (p0 _) ?_ (λ_=>hp) (λ_=>hq) (λ_=>hr) (λ_=>hs);have ea:=pn a;have eb:=pn b;have ec:=pn c;have ee:=pn e;omega
  rw[ur,ur,z1,z2,z3,z4]at kd;omega
 have dne':pos (-a)≠0\/pos (-b)≠0\/pos (-c)≠0\/pos (-e)≠0:=by apply eW;intro hno;simp only[not_or,R9]at hno;obtain⟨z1,z2,z3,z4⟩:=hno;have:0<pos a*p.d+pos b*q.d+pos c*r.d+pos e*s.d:=lk (p0 _) (p0 _) (p0 _) (p0 _) dne (λ_=>hp) (λ_=>hq) (λ_=>hr) (λ_=>hs);rw[ur,ur,z1,z2,z3,z4]at kd;omega
 refine⟨mix (pos a) (pos b) (pos c) (pos e) p q r s,?_,?_⟩
 .exact lk (p0 _) (p0 _) (p0 _) (p0 _) dne (λ_=>hp) (λ_=>hq) (λ_=>hr) (λ_=>hs)
 .intro h hm;simp only[bO]at hm;rcases hm with rfl|rfl|rfl|rfl|hm
  .by_cases z:pos a=0
   .rw[mh];exact lk (p0 _) (p0 _) (p0 _) (p0 _) dne (by grind) (λ_=>q1) (λ_=>r1) (λ_=>s1)
   .rw[key,mh];exact lk (p0 _) (p0 _) (p0 _) (p0 _) dne' (by grind) (λ_=>q1) (λ_=>r1) (λ_=>s1)
  .by_cases z:pos b=0
   .rw[mh];exact lk (p0 _) (p0 _) (p0 _) (p0 _) dne (λ_=>p2) (by grind) (λ_=>r2) (λ_=>s2)
   .rw[key,mh];exact lk (p0 _) (p0 _) (p0 _) (p0 _) dne' (λ_=>p2) (by grind) (λ_=>r2) (λ_=>s2)
  .by_cases z:pos c=0
   .rw[mh];exact lk (p0 _) (p0 _) (p0 _) (p0 _) dne (λ_=>p3) (λ_=>q3) (by grind) (λ_=>s3)
   .rw[key,mh];exact lk (p0 _) (p0 _) (p0 _) (p0 _) dne' (λ_=>p3) (λ_=>q3) (by grind) (λ_=>s3)
  .by_cases z:pos e=0
   .rw[mh];exact lk (p0 _) (p0 _) (p0 _) (p0 _) dne (λ_=>p4) (λ_=>q4) (λ_=>r4) (by grind)
   .rw[key,mh];exact lk (p0 _) (p0 _) (p0 _) (p0 _) dne' (λ_=>p4) (λ_=>q4) (λ_=>r4) (by grind)
  .rw[mh];exact lk (p0 _) (p0 _) (p0 _) (p0 _) dne (by grind) (by grind) (by grind) (by grind)
def Sat.sub{L M:List P3}(h:Sat L)(hs:∀x∈M,x∈L):Sat M:=by obtain⟨p,hp,f⟩:=h;exact⟨p,hp,by grind⟩
def aBc:∀(n:Nat) (L:List P3),L.length=n->(∀a∈L,∀b∈L,∀c∈L,Sat [a,b,c])->Sat L:=by
 intro n;induction n using Nat.strongRecOn with
 |ind n ih=>
  intro L hn h;match L,hn with
  |[],_=>exact⟨⟨0,0,1⟩,by decide,by grind⟩
  |[a],_=>exact(h a (by simp) a (by simp) a (by simp)).sub (by simp)
  |[a,b],_=>exact(h a (by simp) b (by simp) a (by simp)).sub (by simp)
  |[a,b,c],_=>simp_all
  |a::b::c::e::R,hn=>
   have g:∀M:List P3,(∀x∈M,x∈a::b::c::e::R)->M.length<n->Sat M:=by grind
   simp only[gY]at hn;refine aAZ (g _ ?_ ?_) (g _ ?_ ?_) (g _ ?_ ?_) (g _ ?_ ?_);all_goals first
    |(simp only[gY];omega)
    |(intro x hx;simp only[bO]at hx|-;grind)
end Geo
namespace Geo
def lin(u v:V):P3:=⟨-(v.y-u.y),v.x-u.x,(v.y-u.y)*u.x-(v.x-u.x)*u.y⟩
def pt(v:V):P3:=⟨v.x,v.y,1⟩
def eM(u v w:V):ev (lin u v) (pt w)=cross (sub v u) (sub w u):=by unfold ev lin pt cross sub;grind
def cG(u v:V):ev (lin u v) (pt u)=0:=by unfold ev lin pt;grind
def cZ(u v:V):ev (lin u v) (pt v)=0:=by unfold ev lin pt;grind
def DV{n1 d1 n2 d2 n3 d3:Int}(h1:0<d1)(h2:0<d2)(h3:0<d3)(a:n1*d2<=n2*d1)(b:n2*d3<n3*d2):n1*d3<n3*d1:=by
 have e1:=lM a (show 0<=d3 by omega);have e2:=Int.mul_lt_mul_of_pos_right b h1;have:(n1*d3)*d2<(n3*d1)*d2:=by grind
 simp_all
def DU{n1 d1 n2 d2 n3 d3:Int}(h1:0<d1)(h2:0<d2)(h3:0<d3)(a:n1*d2<n2*d1)(b:n2*d3<=n3*d2):n1*d3<n3*d1:=by
 have e1:=Int.mul_lt_mul_of_pos_right a h3;have e2:=lM b (show 0<=d1 by omega);have:(n1*d3)*d2<(n3*d1)*d2:=by grind
 simp_all
def jp:List (Int×Int)->Int->Int->Int->Int->Bool
 |[],ln,ld,hn,hd=>decide (ln*hd<hn*ld)
 |(a,b)::l,ln,ld,hn,hd=>
  if a<=0/\b<=0 then false
  else if a<0 then(if ln*(b-a)< -a*ld then jp l (-a) (b-a) hn hd else jp l ln ld hn hd)
  else if b<0 then(if a*hd<hn*(a-b)then jp l ln ld a (a-b)else jp l ln ld hn hd)
  else jp l ln ld hn hd
def rY:∀(l:List (Int×Int)) (ln ld hn hd:Int),0<=ln->0<ld->0<hd->hn<=hd->
  (jp l ln ld hn hd=true↔∃x y:Int,0<x/\0<y/\(∀p∈l,0<p.1*x+p.2*y)/\ln*(x+y)<y*ld/\y*hd<hn*(x+y))
 |[],ln,ld,hn,hd,h1,h2,h3,h4=>by
  simp only[jp,decide_eq_true_eq,cl,false_imp_iff,implies_true,true_and];constructor
  .intro h;have hn0:0<hn:=by
    rcases bo 0 hn with h5|h5
    .exact h5
    .have:=cM h1 (show 0<=hd by omega);have:=cM (show 0<= -hn by omega) (show 0<=ld by omega);grind
   have hl:ln<ld:=by
    rcases bo ln ld with h5|h5
    .exact h5
    .have e1:=lM h5 (show 0<=hd by omega);have e2:=lM h4 (show 0<=ld by omega);grind
   refine⟨(ld-ln)+(hd-hn),ln+hn,by omega,by omega,?_,?_⟩
   .grind
   grind
  .rintro⟨x,y,hx,hy,a,b⟩;have a':ln*(x+y)<=y*ld:=by omega
   exact DV (n2:=y) (d2:=x+y) h2 (by omega) h3 a' b
 |(a,b)::l,ln,ld,hn,hd,h1,h2,h3,h4=>by
  have e1:∀x y:Int,(∀p∈(a,b)::l,0<p.1*x+p.2*y)↔(0<a*x+b*y/\∀p∈l,0<p.1*x+p.2*y):=by intro x y;simp
  simp only[e1];unfold jp;by_cases c1:a<=0/\b<=0
  .constructor
   .grind
   .rintro⟨x,y,hx,hy,⟨h5,_⟩,_⟩;have:=cM (show 0<= -a by omega) (show 0<=x by omega);have:=cM (show 0<= -b by omega) (show 0<=y by omega);grind
  .rw[if_neg c1];by_cases c2:a<0
   .have hba:0<b-a:=by omega
    have e2:∀x y:Int,0<a*x+b*y↔ -a*(x+y)<y*(b-a):=by intro x y;constructor<;>intro h<;>grind
    rw[if_pos c2];by_cases c3:ln*(b-a)< -a*ld
    .rw[if_pos c3,rY l (-a) (b-a) hn hd (by omega) hba h3 h4];constructor
     .rintro⟨x,y,hx,hy,h5,h6,h7⟩;exact⟨x,y,hx,hy,by grind,DV (n2:= -a) (d2:=b-a) h2 hba (by omega) (by omega) h6,h7⟩
     .rintro⟨x,y,hx,hy,⟨h5,h6⟩,h7,h8⟩;exact⟨x,y,hx,hy,h6,(e2 x y).1 h5,h8⟩
    .rw[if_neg c3,rY l ln ld hn hd h1 h2 h3 h4];constructor
     .rintro⟨x,y,hx,hy,h5,h6,h7⟩;exact⟨x,y,hx,hy,⟨(e2 x y).2 (DV (n2:=ln) (d2:=ld) hba h2 (by omega) (by omega) h6),h5⟩,h6,h7⟩
     .rintro⟨x,y,hx,hy,⟨h5,h6⟩,h7,h8⟩;exact⟨x,y,hx,hy,h6,h7,h8⟩
   .rw[if_neg c2];by_cases c4:b<0
    .have hab:0<a-b:=by omega
     have e2:∀x y:Int,0<a*x+b*y↔y*(a-b)<a*(x+y):=by intro x y;constructor<;>intro h<;>grind
     rw[if_pos c4];by_cases c3:a*hd<hn*(a-b)
     .rw[if_pos c3,rY l ln ld a (a-b) h1 h2 hab (by omega)];constructor
      .rintro⟨x,y,hx,hy,h5,h6,h7⟩;exact⟨x,y,hx,hy,by grind,h6,DU (n2:=a) (d2:=a-b) (by omega) hab h3 h7 (by omega)⟩
      .rintro⟨x,y,hx,hy,⟨h5,h6⟩,h7,h8⟩;exact⟨x,y,hx,hy,h6,h7,(e2 x y).1 h5⟩
     .rw[if_neg c3,rY l ln ld hn hd h1 h2 h3 h4];constructor
      .rintro⟨x,y,hx,hy,h5,h6,h7⟩;exact⟨x,y,hx,hy,⟨(e2 x y).2 (DU (n2:=hn) (d2:=hd) (by omega) h3 hab h7 (by omega)),h5⟩,h6,h7⟩
      .rintro⟨x,y,hx,hy,⟨h5,h6⟩,h7,h8⟩;exact⟨x,y,hx,hy,h6,h7,h8⟩
    .rw[if_neg c4,rY l ln ld hn hd h1 h2 h3 h4];constructor
     .rintro⟨x,y,hx,hy,h5,h6,h7⟩;refine⟨x,y,hx,hy,⟨?_,h5⟩,h6,h7⟩;have g1:=cM (show 0<=a by omega) (show 0<=x by omega);have g2:=cM (show 0<=b by omega) (show 0<=y by omega);rcases bo 0 a with h|h
      .have:=bV h hx;omega
      .have:=bV (show 0<b by omega) hy;omega
     .rintro⟨x,y,hx,hy,⟨h5,h6⟩,h7,h8⟩;exact⟨x,y,hx,hy,h6,h7,h8⟩
structure Poly(F:List P3)(Vs:List V)(Es:List S)(c:P3):Prop where
 nonneg:∀f∈F,∀v∈Vs,0<=ev f (pt v)
 cd:0<c.d
 cin:∀f∈F,0<ev f c
 ends:∀s∈Es,s.a∈Vs/\s.b∈Vs
 side:∀q:P3,0<q.d->(∃f∈F,ev f q=0)->(∀f∈F,0<=ev f q)->∃s∈Es,∃x y k:Int,0<=x/\0<=y/\0<k/\∀h:P3,k*ev h q=x*ev h (pt s.a)+y*ev h (pt s.b)
 hull:∀q:P3,(∀f∈F,0<ev f q)->∀h:P3,(∀v∈Vs,ev h (pt v)<=0)->ev h q<=0
def big(q c:P3):∀(G:List P3),(∀g∈G,0<ev g q)->∃N:Int,1<=N/\∀g∈G,0<N*ev g q+ev g c
 |[],_=>⟨1,by decide,by grind⟩
 |g::G,h=>by
  obtain⟨N,h1,h2⟩:=big q c G (by grind);have hg:=h g cE;refine⟨N+(ev g c).natAbs,by omega,?_⟩;intro f hf;rcases bO.1 hf with rfl|hf
  .have:(N+(ev f c).natAbs)*1<=(N+(ev f c).natAbs)*ev f q:=dg (by omega) (by omega);omega
  .have h3:=h f (cB _ hf);have:=cM (show 0<=((ev g c).natAbs:Int) by omega) (show 0<=ev f q by omega);grind
def tg{F:List P3}{Vs:List V}{Es:List S}{c:P3}(A:Poly F Vs Es c){g:P3}(h:∃v∈Vs,0<ev g (pt v)):Sat (g::F):=by
 obtain⟨v,hv,hg⟩:=h;obtain⟨N,h1,h2⟩:=big (pt v) c [g] (by grind);refine⟨cmb N (pt v) 1 c,?_,?_⟩
 .have:=A.cd;simp only[cmb,pt];omega
 .intro f hf;rw[ai];rcases bO.1 hf with rfl|hf
  .grind
  .have e1:=A.nonneg f hf v hv;have e2:=A.cin f hf;have:=cM (show 0<=N by omega) e1;omega
def TF{F G:List P3}{Vs Us:List V}{Es Ds:List S}{c e:P3}(A:Poly F Vs Es c)(B:Poly G Us Ds e)
  (h1:∀g∈G,∃v∈Vs,0<ev g (pt v)) (h2:∀f∈F,∃u∈Us,0<ev f (pt u)):Sat (F++G):=by
 have hF:Sat F:=⟨c,A.cd,A.cin⟩;have hG:Sat G:=⟨e,B.cd,B.cin⟩;refine aBc _ _ rfl ?_;intro x hx y hy z hz;simp only[bq]at hx hy hz;rcases hx with hx|hx<;>rcases hy with hy|hy<;>rcases hz with hz|hz
 .exact hF.sub (by grind)
 .exact(tg A (h1 z hz)).sub (by grind)
 .exact(tg A (h1 y hy)).sub (by grind)
 .exact(tg B (h2 x hx)).sub (by grind)
 .exact(tg A (h1 x hx)).sub (by grind)
 .exact(tg B (h2 y hy)).sub (by grind)
 .exact(tg B (h2 z hz)).sub (by grind)
 .exact hG.sub (by grind)
def sL(G:List P3)(s:S):Prop:=∃x y:Int,0<x/\0<y/\∀g∈G,0<ev g (pt s.a)*x+ev g (pt s.b)*y
def Ic{F G:List P3}{Vs:List V}{Es:List S}{c:P3}(A:Poly F Vs Es c){s:S}(hs:s∈Es)(h:sL G s):Sat (F++G):=by
 obtain⟨x,y,hx,hy,hg⟩:=h;have hq:∀g∈G,0<ev g (cmb x (pt s.a) y (pt s.b)):=by intro g h;rw[ai];have:=hg g h;grind
 obtain⟨N,h1,h2⟩:=big _ c G hq;refine⟨cmb N (cmb x (pt s.a) y (pt s.b)) 1 c,?_,?_⟩
 .have e1:=A.cd;have e2:=bV (show 0<N by omega) (show 0<x*1+y*1 by omega);simp only[cmb,pt];omega
 .intro f hf;rw[ai];rcases bq.1 hf with hf|hf
  .have e1:=A.nonneg f hf _ (A.ends s hs).1;have e2:=A.nonneg f hf _ (A.ends s hs).2;have e3:=A.cin f hf;have e4:0<=ev f (cmb x (pt s.a) y (pt s.b)):=by rw[ai];have:=cM (show 0<=x by omega) e1;have:=cM (show 0<=y by omega) e2;omega
   have:=cM (show 0<=N by omega) e4;omega
  grind
def Po(p c:P3)(hp:0<p.d)(hc:0<c.d):∀(G:List P3),(∀g∈G,0<ev g p)->
  ∃m n:Int,0<=m/\0<=n/\0<m+n/\(∀g∈G,0<=ev g (cmb m p n c))/\((∃g∈G,ev g (cmb m p n c)=0)\/(m=0/\∀g∈G,0<ev g c))
 |[],_=>⟨0,1,by omega,by omega,by omega,(by grind),by grind⟩
 |g::G,h=>by
  obtain⟨m,n,hm,hn,hmn,h1,h2⟩:=Po p c hp hc G (by grind);have hg:=h g cE;rcases vM (ev g (cmb m p n c)) 0 with h3|h3|h3
  ·
   have hq:=ai g p c m n;refine⟨-(ev g (cmb m p n c))+ev g p*m,ev g p*n,?_,?_,?_,?_,.inl ⟨g,by grind,?_⟩⟩
   .have:=cM (show 0<=ev g p by omega) hm;omega
   .exact cM (by omega) hn
   .have e1:=cM (show 0<=ev g p by omega) hm;have e2:=cM (show 0<=ev g p by omega) hn;omega
   .intro f hf;rcases bO.1 hf with rfl|hf
    .rw[ai];have:(-(ev f (cmb m p n c))+ev f p*m)*ev f p+ev f p*n*ev f c=0:=by rw[hq];grind
     omega
    .have e1:=h1 f hf;have e2:=h f (cB _ hf);have e3:=cM (show 0<=ev g p by omega) e1;have e4:=cM (show 0<= -(ev g (cmb m p n c)) by omega) (show 0<=ev f p by omega);have e5:=ai f p c m n;rw[ai];have:(-(ev g (cmb m p n c))+ev g p*m)*ev f p+ev g p*n*ev f c= -(ev g (cmb m p n c))*ev f p+ev g p*ev f (cmb m p n c):=by rw[e5];grind
     omega
   .rw[ai,hq];grind
  .refine⟨m,n,hm,hn,hmn,?_,by grind⟩;grind
  .refine⟨m,n,hm,hn,hmn,?_,?_⟩
   .grind
   .rcases h2 with⟨f,hf,h4⟩|⟨rfl,h4⟩
    .grind
    .refine .inr ⟨rfl,?_⟩;intro f hf;rcases bO.1 hf with rfl|hf
     .rw[ai]at h3;have hn0:0<n:=by omega
      have:0<n*ev f c:=by omega
      exact SA this hn0|>λh=>h
     grind
def SY{F:List P3}{s:S}{x y:Int}(hx:0<=x)(hy:0<=y)(h:∀f∈F,0<x*ev f (pt s.a)+y*ev f (pt s.b)):sL F s:=by
 have hq:∀f∈F,0<ev f (cmb x (pt s.a) y (pt s.b)):=by intro f hf;rw[ai];exact h f hf
 obtain⟨N,h1,h2⟩:=big _ (cmb 1 (pt s.a) 1 (pt s.b)) F hq;have e1:=cM (show 0<=N by omega) hx;have e2:=cM (show 0<=N by omega) hy;refine⟨N*x+1,N*y+1,by omega,by omega,?_⟩;intro f hf;have:=h2 f hf;rw[ai,ai]at this;grind
def Sa{F G:List P3}{Vs Us:List V}{Es Ds:List S}{c e:P3}(A:Poly F Vs Es c)(B:Poly G Us Ds e):
  Sat (F++G)↔((∃s∈Es,sL G s)\/(∃s∈Ds,sL F s)\/∀g∈G,0<ev g c):=by
 constructor
 .rintro⟨p,hp,h⟩;obtain⟨m,n,hm,hn,hmn,h1,h2⟩:=Po p c hp A.cd G (by grind);rcases h2 with h2|⟨_,h2⟩
  .refine .inr (.inl ?_);have hd:0<(cmb m p n c).d:=by
    have:=A.cd;have e1:=cM hm (show 0<=p.d by omega);have e2:=cM hn (show 0<=c.d by omega);show 0<m*p.d+n*c.d;rcases bo 0 m with h3|h3
    .have:=bV h3 hp;omega
    .have:=bV (show 0<n by omega) this;omega
   obtain⟨s,hs,x,y,k,hx,hy,hk,hq⟩:=B.side _ hd h2 h1;refine⟨s,hs,SY hx hy ?_⟩;intro f hf;rw[<-hq f];refine bV hk ?_;rw[ai];have e1:=h f (gZ _ hf);have e2:=A.cin f hf;have e3:=cM hm (show 0<=ev f p by omega);have e4:=cM hn (show 0<=ev f c by omega);rcases bo 0 m with h3|h3
   .have:=bV h3 e1;omega
   .have:=bV (show 0<n by omega) e2;omega
  grind
 .rintro(⟨s,hs,h⟩|⟨s,hs,h⟩|h)
  .exact Ic A hs h
  .exact(Ic B hs h).sub (by grind)
  .refine⟨c,A.cd,?_⟩;intro f hf;rcases bq.1 hf with hf|hf
   .exact A.cin f hf
   grind
def Sv{F G:List P3}{Vs Us:List V}{Es Ds:List S}{c e:P3}(A:Poly F Vs Es c)(B:Poly G Us Ds e):
  Sat (F++G)↔((∀g∈G,∃v∈Vs,0<ev g (pt v))/\(∀f∈F,∃u∈Us,0<ev f (pt u))):=by
 constructor
 .rintro⟨p,hp,h⟩;constructor
  .intro g hg;apply eW;intro hno;have:=A.hull p (by grind) g (by grind);grind
  .intro f hf;apply eW;intro hno;have:=B.hull p (by grind) f (by grind);grind
 .rintro⟨h1,h2⟩;exact TF A B h1 h2
end Geo
section
set_option linter.unusedSimpArgs false
namespace Geo
def Pi(a b:Int):(0<a->0<b->0<a*b)/\(a<0->b<0->0<a*b)/\(0<a->b<0->a*b<0)/\(a<0->0<b->a*b<0)/\(a=0->a*b=0)/\(b=0->a*b=0):=
 ⟨bV,vG,gQ,lL,λh=>by grind,λh=>by grind⟩
def dA(s:S)(r:aD):Bool:=jp ((aJ r).map λe=>(cross (sub e.b e.a) (sub s.a e.a),cross (sub e.b e.a) (sub s.b e.a))) 0 1 1 1
def nf(r:aD):List P3:=(aJ r).map λe=>lin e.a e.b
def Tx(s:S)(r:aD):dA s r=true↔sL (nf r) s:=by
 unfold dA sL nf;rw[rY _ _ _ _ _ (by omega) (by omega) (by omega) (by omega)];constructor
 .rintro⟨x,y,hx,hy,h,_⟩;refine⟨x,y,hx,hy,?_⟩;intro g hg;obtain⟨e,he,rfl⟩:=bM.1 hg;rw[eM,eM];simp_all
 .rintro⟨x,y,hx,hy,h⟩;refine⟨x,y,hx,hy,?_,by omega,by omega⟩;intro p hp;obtain⟨e,he,rfl⟩:=bM.1 hp;have:=h _ (bM.2 ⟨e,he,rfl⟩);rw[eM,eM]at this;exact this
def BB(a b:aD):Bool:=(bP a.length).any λi=>b.all λv=>decide (turn (nth a i) (nxt a i) v<=0)
def Fx(a b:aD):Bool:=BB a b||BB b a
def JO(a b:aD)(ha:2<=a.length):BB a b=true↔∃f∈nf a,∀v∈b,ev f (pt v)<=0:=by
 unfold BB nf aJ;rw[if_neg (by omega),cv];simp only[lO,bz,bZ,decide_eq_true_eq,bM,yT,bL];have sg:∀n:Int,sgn n<=0↔n<=0:=by intro n;have:=FK n;omega
 constructor
 .rintro⟨i,hi,h⟩;refine⟨_,⟨i,hi,rfl⟩,?_⟩;intro v hv;rw[eM];exact(sg _).1 (h v hv)
 .rintro⟨f,⟨i,hi,rfl⟩,h⟩;refine⟨i,hi,?_⟩;intro v hv;have:=h v hv;rw[eM]at this;exact(sg _).2 this
end Geo
end
namespace Geo
def tM:∀(L:List (Int×Int)) (ln ld hn hd:Int),ln*hd<hn*ld->(∀p∈L,¬(p.1<=0/\p.2<=0))->(∀p∈L,p.1<0-> -p.1*hd<hn*(p.2-p.1))->
  (∀q∈L,q.2<0->ln*(q.1-q.2)<q.1*ld)->(∀p∈L,∀q∈L,p.1<0->q.2<0-> -p.1*(q.1-q.2)<q.1*(p.2-p.1))->jp L ln ld hn hd=true
 |[],ln,ld,hn,hd,h0,_,_,_,_=>by simpa[jp]using h0
 |(a,b)::L,ln,ld,hn,hd,h0,h1,h2,h3,h4=>by
  have i1:∀p∈L,¬(p.1<=0/\p.2<=0):=by grind
  have i2:∀p∈L,p.1<0-> -p.1*hd<hn*(p.2-p.1):=by grind
  have i3:∀q∈L,q.2<0->ln*(q.1-q.2)<q.1*ld:=by grind
  have i4:∀p∈L,∀q∈L,p.1<0->q.2<0-> -p.1*(q.1-q.2)<q.1*(p.2-p.1):=by grind
  unfold jp;rw[if_neg (h1 (a,b) (by grind))];split
  .rename_i ha;split
   .exact tM L _ _ _ _ (h2 (a,b) (by grind) ha) i1 i2 (λq hq hq2=>h4 (a,b) (by grind) q (by grind) ha hq2) i4
   .exact tM L _ _ _ _ h0 i1 i2 i3 i4
  .split
   .rename_i hb;split
    .exact tM L _ _ _ _ (h3 (a,b) (by grind) hb) i1 (λp hp hp1=>h4 p (by grind) (a,b) (by grind) hp1 hb) i3 i4
    .exact tM L _ _ _ _ h0 i1 i2 i3 i4
   .exact tM L _ _ _ _ h0 i1 i2 i3 i4
def enters_of{F:List P3}{s:S}(h1:∀f∈F,¬(ev f (pt s.a)<=0/\ev f (pt s.b)<=0))
  (h2:∀f∈F,∀g∈F,ev f (pt s.a)<0->ev g (pt s.b)<0->ev f (pt s.a)*ev g (pt s.b)<ev g (pt s.a)*ev f (pt s.b)):sL F s:=by
 have:jp (F.map λf=>(ev f (pt s.a),ev f (pt s.b))) 0 1 1 1=true:=by
  refine tM _ _ _ _ _ (by decide) ?_ ?_ ?_ ?_
  .grind
  .grind
  .grind
  .grind
 rw[rY _ _ _ _ _ (by decide) (by decide) (by decide) (by decide)]at this;obtain⟨x,y,hx,hy,h,_⟩:=this;exact⟨x,y,hx,hy,λg hg=>h _ (bM.2 ⟨g,hg,rfl⟩)⟩
def Wa(f:P3)(u v w:V):0<ev f ⟨(pN u v w).x,(pN u v w).y,(pN u v w).den⟩↔0<ev f ⟨u.x+v.x+w.x,u.y+v.y+w.y,3⟩:=by
 unfold pN;generalize u.x+v.x+w.x=x at*;generalize u.y+v.y+w.y=y at*;split
 .rename_i h;have:ev f ⟨x,y,3⟩=3*ev f ⟨x.tdiv 3,y.tdiv 3,1⟩:=by unfold ev;grind
  grind
 grind
def nR(s:Shape)(r:aD):Bool:=(bW s).all (λe=> !(dA e r))&&eJ s (pN (nth r 0) (nth r 1) (nth r 2))==2
def VR.rt{r:aD}(h:VR r){e:S}(he:e∈aJ r):e.a≠e.b:=by
 unfold aJ at he;split at he
 .cases he
 .obtain⟨i,hi,rfl⟩:=bM.1 he;have hi:=bz.1 hi;intro h2;have h3:nth r i=nth r ((i+1) % r.length):=h2;have:=h.inj hi (bk _ (by omega)) h3;by_cases h4:i+1<r.length
  .rw[dj h4]at this;omega
  .have h5:i+1=r.length:=by omega
   rw[h5,kK]at this;omega
def VS.rt{s:Shape}(h:VS s){e:S}(he:e∈bW s):e.a≠e.b:=by obtain⟨r,hr,he⟩:=dI.1 he;exact(h.ring hr).rt he
end Geo
namespace Geo
structure CR(r:aD):Prop where
 len:3<=r.length
 pos:∀i n,i<r.length->n<r.length->n≠i->n≠(i+1) % r.length->0<ev (lin (nth r i) (nxt r i)) (pt (nth r n))
 near:∀v∈r,ag v 2000=true
def qM{r:aD}(h:2<=r.length){f:P3}:f∈nf r↔∃i,i<r.length/\f=lin (nth r i) (nxt r i):=by unfold nf aJ;rw[if_neg (by omega),cv];simp only[bM,bz,yT,bL];grind
def CR.nonneg{r:aD}(h:CR r){i n:Nat}(hi:i<r.length)(hn:n<r.length):0<=ev (lin (nth r i) (nxt r i)) (pt (nth r n)):=by
 by_cases e1:n=i
 .rw[e1,cG];omega
 by_cases e2:n=(i+1) % r.length
 .rw[e2];unfold nxt;rw[cZ];omega
 exact yU (h.pos i n hi hn e1 e2)
def id3(u v w:V)(h q:P3):ev (lin u v) (pt w)*ev h q=ev (lin v w) q*ev h (pt u)+ev (lin w u) q*ev h (pt v)+ev (lin u v) q*ev h (pt w):=by unfold ev lin pt;grind
def Xp(u v w:V):ev (lin u v) (pt w)=ev (lin v w) (pt u):=by unfold ev lin pt;grind
def Ka(u v:V)(q:P3):ev (lin v u) q= -ev (lin u v) q:=by unfold ev lin;grind
def Km{D:Nat->Int}:∀{n:Nat},0<=D 1->D (n+2)<0->∃i,1<=i/\i<=n+1/\0<=D i/\D (i+1)<0
 |0,h1,h2=>by grind
 |n+1,h1,h2=>by
  by_cases h:0<=D (n+2)
  .grind
  .obtain⟨i,a,b,c,d⟩:=Km (n:=n) h1 (by omega);grind
def CB(r:aD):P3:=⟨(nth r 0).x+(nth r 1).x+(nth r 2).x,(nth r 0).y+(nth r 1).y+(nth r 2).y,3⟩
def CR.poly{r:aD}(h:CR r):Poly (nf r) r (aJ r) (CB r):=by
 have hl:=h.len;have c0:∀f:P3,ev f (CB r)=ev f (pt (nth r 0))+ev f (pt (nth r 1))+ev f (pt (nth r 2)):=by intro f;unfold CB ev pt;grind
 have md:∀i,i<r.length->(i+1) % r.length<r.length:=λi _=>bk _ (by omega);have mdc:∀i,i<r.length->((i+1) % r.length=i+1/\i+1<r.length)\/((i+1) % r.length=0/\i+1=r.length):=λi hi=>by
  by_cases h4:i+1<r.length
  .exact .inl ⟨dj h4,h4⟩
  .have h5:i+1=r.length:=by omega
   simp_all
 refine⟨?_,(show(0:Int)<3 by decide),?_,?_,?_,?_⟩
 .intro f hf v hv;obtain⟨i,hi,rfl⟩:=(qM (by omega)).1 hf;obtain⟨n,hn,rfl⟩:=fO.1 hv;exact h.nonneg hi hn
 .intro f hf;obtain⟨i,hi,rfl⟩:=(qM (by omega)).1 hf;rw[c0];have e0:=h.nonneg hi (show 0<r.length by omega);have e1:=h.nonneg hi (show 1<r.length by omega);have e2:=h.nonneg hi (show 2<r.length by omega);have:(0≠i/\0≠(i+1) % r.length)\/(1≠i/\1≠(i+1) % r.length)\/(2≠i/\2≠(i+1) % r.length):=by rcases mdc i hi with⟨a,b⟩|⟨a,b⟩<;>rw[a] <;>omega
  rcases this with⟨a,b⟩|⟨a,b⟩|⟨a,b⟩
  .have:=h.pos i 0 hi (by omega) a b;omega
  .have:=h.pos i 1 hi (by omega) a b;omega
  .have:=h.pos i 2 hi (by omega) a b;omega
 .intro s hs;unfold aJ at hs;rw[if_neg (by omega)]at hs;obtain⟨i,hi,rfl⟩:=bM.1 hs;have hi:=bz.1 hi;exact⟨fO.2 ⟨i,hi,rfl⟩,fO.2 ⟨_,md i hi,rfl⟩⟩
 .rintro q hq ⟨f,hf,hz⟩ hn;obtain⟨i,hi,rfl⟩:=(qM (by omega)).1 hf;have hj:=md i hi;obtain⟨p,hp,ep⟩:∃p,p<r.length/\(p+1) % r.length=i:=by
   by_cases h0:i=0
   .exact⟨r.length-1,by omega,by rw[h0,Hs (by omega),kK]⟩
   .exact⟨i-1,by omega,by grind⟩
  have hk:=md _ hj;have n1:=hn (lin (nth r ((i+1) % r.length)) (nxt r ((i+1) % r.length))) ((qM (by omega)).2 ⟨_,hj,rfl⟩);have n2:=hn (lin (nth r p) (nxt r p)) ((qM (by omega)).2 ⟨_,hp,rfl⟩);have ea:nxt r p=nth r i:=by unfold nxt;rw[ep]
  have eb:nxt r i=nth r ((i+1) % r.length):=rfl;rw[ea]at n2;have K1:0<ev (lin (nth r i) (nxt r i)) (pt (nxt r ((i+1) % r.length))):=by
   refine h.pos i _ hi hk ?_ ?_
   .rcases mdc i hi with⟨a,b⟩|⟨a,b⟩<;>rw[a]
    .rcases mdc (i+1) b with⟨c,d⟩|⟨c,d⟩<;>rw[c] <;>omega
    .rw[dj (by omega)];omega
   .rcases mdc i hi with⟨a,b⟩|⟨a,b⟩<;>rw[a]
    .rcases mdc (i+1) b with⟨c,d⟩|⟨c,d⟩<;>rw[c] <;>omega
    .rw[dj (by omega)];omega
  have K2:0<ev (lin (nth r p) (nth r i)) (pt (nxt r i)):=by
   have:=h.pos p ((i+1) % r.length) hp hj ?_ ?_
   .grind
   .rcases mdc p hp with⟨a,b⟩|⟨a,b⟩
    .rcases mdc i hi with⟨c,d⟩|⟨c,d⟩<;>rw[c] <;>omega
    .have:i=0:=by omega
     rw[dj (by omega)];omega
   .rcases mdc i hi with⟨c,d⟩|⟨c,d⟩<;>rw[c] <;>omega
  have id:=λg=>id3 (nth r i) (nxt r i) (nxt r ((i+1) % r.length)) g q;rw[hz]at id;refine⟨bL r i,?_,ev (lin (nxt r i) (nxt r ((i+1) % r.length))) q,ev (lin (nxt r ((i+1) % r.length)) (nth r i)) q,_,n1,?_,K1,λg=>by rw[id g];rw[yP,nD];rfl⟩
  .unfold aJ;grind
  .have e:=id (lin (nth r p) (nth r i));rw[cZ,dw,vN,yP,nD]at e;rcases bo (ev (lin (nxt r ((i+1) % r.length)) (nth r i)) q) 0 with h5|h5
   .have:=lL h5 K2;have:=cM (yU K1) n2;omega
   .exact h5
 .intro q hq g hg;have d1:=hq _ ((qM (by omega)).2 ⟨0,show 0<r.length by omega,rfl⟩);have d2:=hq _ ((qM (by omega)).2 ⟨r.length-1,show r.length-1<r.length by omega,rfl⟩);have e1:nxt r 0=nth r 1:=by unfold nxt;rw[dj (by omega)]
  have e2:nxt r (r.length-1)=nth r 0:=by unfold nxt;rw[Hs (by omega),kK]
  rw[e1]at d1;rw[e2]at d2;have d3:=Ka (nth r 0) (nth r (r.length-1)) q;obtain⟨i,a,b,c,d⟩:=Km (D:=λi=>ev (lin (nth r 0) (nth r i)) q) (n:=r.length-3) (yU d1) (by rw[show r.length-3+2=r.length-1 by omega];omega);have hi:i+1<r.length:=by omega
  have K:=h.pos i 0 (by omega) (by omega) (by omega) (by rw[dj hi];omega);have f1:=hq _ ((qM (by omega)).2 ⟨i,show i<r.length by omega,rfl⟩);have en:nxt r i=nth r (i+1):=by unfold nxt;rw[dj hi]
  rw[en]at K f1;rw[<-Xp]at K;have id:=id3 (nth r 0) (nth r i) (nth r (i+1)) g q;have g1:=hg _ (fO.2 ⟨0,show 0<r.length by omega,rfl⟩);have g2:=hg _ (fO.2 ⟨i,show i<r.length by omega,rfl⟩);have g3:=hg _ (fO.2 ⟨i+1,hi,rfl⟩);have d4:=Ka (nth r 0) (nth r (i+1)) q;have p1:=cM (yU f1) (show 0<= -ev g (pt (nth r 0)) by omega);have p2:=cM (show 0<=ev (lin (nth r (i+1)) (nth r 0)) q by omega) (show 0<= -ev g (pt (nth r i)) by omega);have p3:=cM c (show 0<= -ev g (pt (nth r (i+1))) by omega);rw[mJ]at p1 p2 p3;rcases bo 0 (ev g q)with h1|h1
  .have:=bV K h1;omega
  .exact h1
def dX(r:aD):Bool:=decide (3<=r.length)&&(r.all (λv=>ag v 2000)&&(bP r.length).all λi=>(bP r.length).all λn=>decide (n=i)||decide (n=(i+1) % r.length)||decide (0<turn (nth r i) (nxt r i) (nth r n)))
def CR.of{r:aD}(h:dX r=true):CR r:=by
 unfold dX at h;simp only[bm,decide_eq_true_eq,bZ,bz,je]at h;obtain⟨h1,h2,h3⟩:=h;refine⟨h1,λi n hi hn e1 e2=> ?_,h2⟩;rcases h3 i hi n hn with(h4|h4)|h4
 .omega
 .omega
 .rw[eM];exact(FK _).1 h4
def lg(r:aD)(p:Pt):Bool:=(aJ r).all λe=>decide (0<(e.b.x-e.a.x)*(p.y-e.a.y*p.den)-(e.b.y-e.a.y)*(p.x-e.a.x*p.den))
def S6(r:aD)(p:Pt):lg r p=true↔∀g∈nf r,0<ev g ⟨p.x,p.y,p.den⟩:=by
 unfold lg nf;have e:∀s:S,(s.b.x-s.a.x)*(p.y-s.a.y*p.den)-(s.b.y-s.a.y)*(p.x-s.a.x*p.den)=ev (lin s.a s.b) ⟨p.x,p.y,p.den⟩:=by intro s;unfold ev lin;grind
 simp_all
def fC(a b:aD):Bool:=(aJ a).any (λs=>dA s b)||((aJ b).any (λs=>dA s a)||lg b (pN (nth a 0) (nth a 1) (nth a 2)))
def Th{a b:aD}(ha:CR a)(hb:CR b):fC a b= !(Fx a b):=by have A:=ha.poly;have B:=hb.poly;have la:=ha.len;have lb:=hb.len;have h1:=Sa A B;have h2:=Sv A B;rw[eY];unfold fC Fx;simp only[je,lO,Tx,S6,Bool.not_eq_true',Bool.or_eq_false_iff];simp only[Wa];show(_\/_\/∀g∈nf b,0<ev g (CB a))↔_;have r1:=JO a b (by omega);have r2:=JO b a (by omega);grind
def dt(a b:List aD):Bool:=a.any λr=>b.any λo=>dX r&&(dX o&&fC r o)
end Geo
section
namespace Geo
def rot(r:aD)(k:Nat):aD:=r.drop k++r.take k
def th(r:aD)(k:Nat):(rot r k).Perm r:=by refine vK.trans ?_;simp_all
def lW(r:aD)(k:Nat):(rot r k).length=r.length:=(th r k).length_eq
def uJ{r:aD}{k i:Nat}(hk:k<=r.length)(hi:i<r.length):nth (rot r k) i=nth r ((i+k) % r.length):=by
 unfold rot nth;rw[de,de];by_cases h:i<r.length-k
 .rw[mI (by simp;omega),vL,jA (by omega)];grind
 .rw[kM (by simp;omega),List.length_drop,List.getElem?_take,if_pos (by omega),pC (by omega) (by omega)];grind
def AH(i k n:Nat)(_:0<n):((i+1) % n+k) % n=((i+k) % n+1) % n:=by rw[kN,kN];grind
def Ew{r:aD}{k i:Nat}(hk:k<=r.length)(hi:i<r.length):bL (rot r k) i=bL r ((i+k) % r.length):=by unfold bL nxt;rw[lW,uJ hk hi,uJ hk (bk _ (by omega)),AH _ _ _ (by omega)]
def WJ(r:aD){k:Nat}(hk:k<=r.length):aJ (rot r k)=(aJ r).drop k++(aJ r).take k:=by
 unfold aJ;rw[lW];split
 .simp
 .apply rH
  .simp;omega
  .intro i h1 h2;simp only[cL,List.length_range]at h1;rw[iZ,qC,Ew hk h1];by_cases h:i<r.length-k
   .rw[List.getElem_append_left (by simp;omega),List.getElem_drop,iZ,qC,jA (by omega)];grind
   .rw[List.getElem_append_right (by simp;omega),List.getElem_take,iZ,qC,pC (by omega) (by omega)];grind
def rP(r:aD){k:Nat}(hk:k<=r.length):(aJ (rot r k)).Perm (aJ r):=by rw[WJ r hk];refine vK.trans ?_;simp_all
def wV{r:aD}(h:2<=r.length):area r=((aJ r).map λe=>cross e.a e.b).sum:=by unfold area aJ;rw[if_neg (by omega),cv];rfl
def Do{l m:List Int}(h:l.Perm m):l.sum=m.sum:=by
 induction h with
 |nil=>rfl
 |cons x _ ih=>grind
 |swap x y l=>grind
 |trans _ _ ih1 ih2=>rw[ih1,ih2]
def YY{r:aD}(h:2<=r.length){k:Nat}(hk:k<=r.length):area (rot r k)=area r:=by rw[wV h,wV (by rw[lW];exact h)];exact Do ((rP r hk).map _)
def Vx{r q:aD}(h:q.Perm r):near q=near r:=by unfold near;grind
def ZJ(i k n:Nat)(_:0<n):((i+2) % n+k) % n=((i+k) % n+2) % n:=by rw[kN,kN];grind
def VR.rot{r:aD}(h:VR r){k:Nat}(hk:k<=r.length):VR (rot r k):=by
 have h3:=h.three;have ht:∀i,i<(Geo.rot r k).length->Geo.turn (nth (Geo.rot r k) i) (nth (Geo.rot r k) ((i+1) % (Geo.rot r k).length)) (nth (Geo.rot r k) ((i+2) % (Geo.rot r k).length))≠0:=by intro i hi;rw[lW]at hi|-;rw[uJ hk hi,uJ hk (bk _ (by omega)),uJ hk (bk _ (by omega)),AH _ _ _ (by omega),ZJ _ _ _ (by omega)];exact h.turn' _ (bk _ (by omega))
 have ha:∀a b,a<r.length->b<r.length->a≠b->b≠(a+1) % r.length->a≠(b+1) % r.length->bn (bL r a) (bL r b)=0:=by
  intro a b h1 h2 h4 h5 h6;have key:∀a b,a<b->b<r.length->b≠(a+1) % r.length->a≠(b+1) % r.length->bn (bL r a) (bL r b)=0:=by
   intro a b h1 h2 h5 h6;refine h.apart a b h1 h2 ?_ ?_
   .rintro rfl;exact h5 (jA h2).symm
   .rintro⟨rfl,rfl⟩;exact h6 (by rw[show r.length-1+1=r.length by omega,kK])
  rcases nF a b with h7|h7
  .grind
  .rw[lZ];grind
 have e1:∀i,i<r.length->(i+1) % r.length=if i+1=r.length then 0 else i+1:=by
  intro i hi;split
  .simp_all
  .exact jA (by omega)
 have hap:∀i j,i<j->j<(Geo.rot r k).length->j≠i+1->¬(i=0/\j=(Geo.rot r k).length-1)->bn (bL (Geo.rot r k) i) (bL (Geo.rot r k) j)=0:=by
  intro i j hij hj h4 h5;rw[lW]at hj h5;rw[Ew hk (by omega),Ew hk hj];have inj:∀x y,x<r.length->y<r.length->(x+k) % r.length=(y+k) % r.length->x=y:=by
   intro x y hx hy e;have hm:∀z,z<r.length->(z+k) % r.length=if z+k<r.length then z+k else z+k-r.length:=by
    intro z hz;split
    .exact jA ‹_›
    .exact pC (by omega) (by omega)
   rw[hm x hx,hm y hy]at e;split at e<;>split at e<;>omega
  refine ha _ _ (bk _ (by omega)) (bk _ (by omega)) ?_ ?_ ?_
  .intro e;have:=inj _ _ (by omega) hj e;omega
  .rw[<-AH _ _ _ (by omega)];intro e;have:=inj _ _ hj (bk _ (by omega)) e;rw[e1 i (by omega)]at this;grind
  .rw[<-AH _ _ _ (by omega)];intro e;have:=inj _ _ (by omega) (by grind) e;grind
 have htn:∀i,i<(Geo.rot r k).length->Geo.turn (prv (Geo.rot r k) i) (nth (Geo.rot r k) i) (nxt (Geo.rot r k) i)≠0:=by have:=Dd (Geo.rot r k) (by rw[lW];exact h3);rw[eY,bZ,bZ]at this;intro i hi;have:=this.2 (by grind) i (by grind);simpa using this
 exact⟨by rw[lW];exact h3,by rw[lW];exact h.most,by rw[Vx (th r k)];exact h.near,by rw[YY (by omega) hk];exact h.area,htn,ht,hap⟩
def VW(p:Pt)(a b:S)(l:List S)(ins:Bool):dq p (a::b::l) ins=dq p (b::a::l) ins:=by simp only[dq];cases onP a p<;>cases onP b p<;>simp;grind
def VX(p:Pt){l m:List S}(h:l.Perm m):∀ins,dq p l ins=dq p m ins:=by
 induction h with
 |nil=>omega
 |cons x _ ih=>intro ins;simp only[dq,ih]
 |swap x y l=>intro ins;exact VW p y x l ins
 |trans _ _ ih1 ih2=>grind
def zS{r:aD}(h:VR r){k:Nat}(hk:k<=r.length)(p:Pt):bY (rot r k) p=bY r p:=by unfold bY;rw[(gv _).2 h,(gv _).2 (h.rot hk),VX p (rP r hk)]
def UB{r:aD}(h:VR r){k:Nat}(hk:k<=r.length)(v:V):c6 (rot r k) v=c6 r v:=by unfold c6;rw[zS h hk]
def Fy{a b:aD}(hb:VR b){i j:Nat}(hj:j<=b.length)(w:Int):bG (rot a i) (rot b j) w=bG a b w:=by unfold bG;rw[eY,bZ,bZ];simp only[UB hb hj];exact⟨λg v hv=>g v ((th a i).mem_iff.2 hv),λg v hv=>g v ((th a i).mem_iff.1 hv)⟩
def K8{a b:aD}{i j:Nat}(hi:i<=a.length)(hj:j<=b.length):dV (rot a i) (rot b j)=dV a b:=by unfold dV;rw[eY,bZ,bZ];have h1:=rP a hi;have h2:=rP b hj;grind
def sm(a b:aD):Prop:=dV a b=true/\bG a b 0=true/\bG b a 0=true
def sm.symm{a b:aD}(h:sm a b):sm b a:=⟨by rw[rT];exact h.1,h.2.2,h.2.1⟩
structure VP(s:Shape):Prop where
 few:s.holes.length<=6
 outer:VR s.outer
 hole:∀h∈s.holes,VR h/\bG h s.outer 2=true/\dV h s.outer=true
 corners:fN s<=80
 sep:s.holes.Pairwise sm
def VS.vp{s:Shape}(h:VS s):VP s:=by
 refine⟨h.few,h.outer,λr hr=> ?_,h.corners,?_⟩
 .obtain⟨i,hi,rfl⟩:=qQ hr;exact⟨h.hole i hi,h.ins i hi,h.apo i hi⟩
 .rw[nB];intro i j hi hj hij;have en:∀i (hi:i<s.holes.length),s.holes[i] =aC s.holes i:=λi hi=>by unfold aC;grind
  rw[en i hi,en j hj];exact sm.symm ⟨h.aph j i hij hj,h.out1 j i hij hj,h.out2 j i hij hj⟩
def VP.vs{s:Shape}(h:VP s):VS s:=by
 have en:∀i (hi:i<s.holes.length),s.holes[i] =aC s.holes i:=λi hi=>by unfold aC;grind
 have hs:=h.sep;rw[nB]at hs;have hp:∀i k,k<i->i<s.holes.length->sm (aC s.holes i) (aC s.holes k):=λi k hk hi=>by have:=hs k i (by omega) hi hk;rw[en k (by omega),en i hi]at this;exact this.symm
 exact⟨h.few,h.outer,λi hi=>(h.hole _ (gG hi)).1,h.corners,λi hi=>(h.hole _ (gG hi)).2.1,λi hi=>(h.hole _ (gG hi)).2.2,λi k hk hi=>(hp i k hk hi).1,λi k hk hi=>(hp i k hk hi).2.1,λi k hk hi=>(hp i k hk hi).2.2⟩
structure Begun(s t:Shape)(κ:aD->Nat):Prop where
 le:∀r,κ r<=r.length
 outer:t.outer=rot s.outer (κ s.outer)
 holes:t.holes.Perm (s.holes.map λr=>rot r (κ r))
section
variable {s t:Shape} {κ:aD->Nat}
def Vn{l m:List Nat}(h:l.Perm m):l.sum=m.sum:=by grind
def Begun.valid(B:Begun s t κ)(h:VS s):VS t:=by
 have h:=h.vp;refine VP.vs ⟨?_,?_,?_,?_,?_⟩
 .rw[B.holes.length_eq,cL];exact h.few
 .rw[B.outer];exact h.outer.rot (B.le _)
 .intro r hr;obtain⟨q,hq,rfl⟩:=bM.1 (B.holes.mem_iff.1 hr);obtain⟨h1,h2,h3⟩:=h.hole q hq;refine⟨h1.rot (B.le _),?_,?_⟩
  .rw[B.outer,Fy h.outer (B.le _)];exact h2
  .rw[B.outer,K8 (B.le _) (B.le _)];exact h3
 .have hc:=h.corners;have e:fN t=fN s:=by
   unfold fN aE;simp only[cT,yS];rw[B.outer,lW,Vn (B.holes.map _),cv]
   congr 2
   apply iy;intro r _;exact lW r _
  omega
 .refine(B.holes.pairwise_iff λh=>h.symm).2 ?_;rw[ia];refine yV ?_ h.sep;intro a b ha hb ⟨h1,h2,h3⟩;exact⟨by rw[K8 (B.le _) (B.le _)];exact h1,by rw[Fy (h.hole b hb).1 (B.le _)];exact h2,by rw[Fy (h.hole a ha).1 (B.le _)];exact h3⟩
def Begun.mem_edges(B:Begun s t κ)(e:S):e∈bW t↔e∈bW s:=by
 unfold bW aE;simp only[fX,bq,dI];rw[B.outer,(rP _ (B.le _)).mem_iff];constructor
 .rintro(h|⟨r,hr,he⟩)
  .exact .inl h
  .obtain⟨q,hq,rfl⟩:=bM.1 (B.holes.mem_iff.1 hr);exact .inr ⟨q,hq,(rP _ (B.le _)).mem_iff.1 he⟩
 .rintro(h|⟨r,hr,he⟩)
  .exact .inl h
  .exact .inr ⟨_,B.holes.mem_iff.2 (by grind),(rP _ (B.le _)).mem_iff.2 he⟩
def Jo{p:Pt}:∀{l:List aD},jT p l 2=2↔∀h∈l,bY h p=0
 |[] =>by simp[jT]
 |h::l=>by
  have hr:bY h p=0\/bY h p=1\/bY h p=2:=by
   unfold bY;split
   .omega
   .exact JM p _ _
  simp only[jT,bO,forall_eq_or_imp];rw[<-Jo (l:=l)];omega
def tJ(s:Shape)(p:Pt):eJ s p=2↔(bJ s=true/\bY s.outer p=2/\∀h∈s.holes,bY h p=0):=by
 unfold eJ;cases bJ s with
 |false=>simp
 |true=>
  simp only[yO,qB,if_false,true_and];by_cases h:bY s.outer p=2
  .rw[if_neg (by omega),Jo];simp[h]
  omega
def Begun.inside(B:Begun s t κ)(h:VS s)(p:Pt):(eJ t p==2)=(eJ s p==2):=by
 rw[eY,beq_iff_eq,beq_iff_eq,tJ,tJ,(kS _).2 h,(kS _).2 (B.valid h),B.outer,zS h.outer (B.le _)];refine and_congr_right λ_=>and_congr_right λ_=> ?_;constructor
 .intro g r hr;rw[<-zS (h.vp.hole r hr).1 (B.le r)];exact g _ (B.holes.mem_iff.2 (by grind))
 .intro g r hr;obtain⟨q,hq,rfl⟩:=bM.1 (B.holes.mem_iff.1 hr);rw[zS (h.vp.hole q hq).1 (B.le q)];exact g q hq
def Begun.chord(B:Begun s t κ)(h:VS s)(c:S):fE t c=fE s c:=by
 unfold fE;rw[B.inside h]
 congr 1
 rw[eY,bZ,bZ];exact⟨λg e he=>g e ((B.mem_edges e).2 he),λg e he=>g e ((B.mem_edges e).1 he)⟩
end
end Geo
end
section
namespace Geo
def mv(u:V)(a:V):V:=⟨a.x+u.x,a.y+u.y⟩
def mvR(u:V)(r:aD):aD:=r.map (mv u)
def mvE(u:V)(s:S):S:=⟨mv u s.a,mv u s.b⟩
def mvH(u:V)(s:Shape):Shape:=⟨mvR u s.outer,s.holes.map (mvR u)⟩
def mvP(u:V)(p:Pt):Pt:=⟨p.x+u.x*p.den,p.y+u.y*p.den,p.den⟩
def Ou{u a b:V}(h:mv u a=mv u b):a=b:=by cases a;cases b;unfold mv at h;grind
def aAt(u a b:V):(mv u a==mv u b)=(a==b):=by rw[eY,beq_iff_eq,beq_iff_eq];exact⟨Ou,by grind⟩
def Gq(u a b:V):mv u a=mv u b↔a=b:=⟨Ou,by grind⟩
def qh(u a b:V):sub (mv u a) (mv u b)=sub a b:=by unfold sub mv;grind
def uI(u a b c:V):turn (mv u a) (mv u b) (mv u c)=turn a b c:=by unfold turn;rw[qh,qh]
def tz(u a b:V):bf (mv u a) (mv u b)=bf a b:=by unfold bf mv;grind
def Md(a b c:Int):eE (a+c) (b+c)=eE a b:=by unfold eE;omega
def OH(u a b:V):bi (mv u a) (mv u b)=bi a b:=by unfold bi mv;rw[Md,Md]
def Xv(u:V)(s:S)(p:V):fA (mvE u s) (mv u p)=fA s p:=by unfold fA mvE mv;grind
def tX{s:S}(ha:ag s.a 2000=true)(hb:ag s.b 2000=true):aj s=true:=by unfold aj;rw[ig ha (by omega),ig hb (by omega)];rfl
section
variable {u:V}
def Ol{s:S}(h1:aj s=true)(h2:aj (mvE u s)=true)(p:V):onS (mvE u s) (mv u p)=onS s p:=by unfold onS;rw[h1,h2,Xv];unfold mvE;rw[uI]
def Oy(s:S):loS (mvE u s)=mv u (loS s):=by unfold loS mvE;rw[tz];split<;>rfl
def O5(s:S):hiS (mvE u s)=mv u (hiS s):=by unfold hiS mvE;rw[tz];split<;>rfl
def UM(s t:S):eC (mvE u s) (mvE u t)=mv u (eC s t):=by unfold eC;rw[Oy,Oy,tz];split<;>rfl
def UN(s t:S):eQ (mvE u s) (mvE u t)=mv u (eQ s t):=by unfold eQ;rw[O5,O5,tz];split<;>rfl
def FZ{s t:S}(h1:aj s=true)(h2:aj (mvE u s)=true)(h3:aj t=true)(h4:aj (mvE u t)=true):bn (mvE u s) (mvE u t)=bn s t:=by have e1:sub (mvE u s).b (mvE u s).a=sub s.b s.a:=qh _ _ _;have e2:sub (mvE u t).b (mvE u t).a=sub t.b t.a:=qh _ _ _;have e3:sub (mvE u t).a (mvE u s).a=sub t.a s.a:=qh _ _ _;have e4:onS (mvE u t) (mvE u s).a=onS t s.a:=Ol h3 h4 s.a;have e5:onS (mvE u s) (mvE u t).a=onS s t.a:=Ol h1 h2 t.a;have e6:turn (mvE u s).a (mvE u s).b (mvE u t).a=turn s.a s.b t.a:=uI _ _ _ _;have e7:((mvE u s).a=(mvE u s).b)=(s.a=s.b):=propext (Gq u _ _);have e8:((mvE u t).a=(mvE u t).b)=(t.a=t.b):=propext (Gq u _ _);unfold bn mg;simp only[h1,h2,h3,h4,e1,e2,e3,e4,e5,e6,e7,e8,UM,UN,OH]
def jR{r:aD}{i:Nat}(h:i<r.length):nth (mvR u r) i=mv u (nth r i):=by unfold nth mvR;grind
def iE(r:aD):(mvR u r).length=r.length:=by unfold mvR;simp
def Oq{r:aD}{i:Nat}(h:i<r.length):nxt (mvR u r) i=mv u (nxt r i):=by unfold nxt;rw[iE,jR (bk _ (by omega))]
def aAh{r:aD}{i:Nat}(h:i<r.length):prv (mvR u r) i=mv u (prv r i):=by unfold prv;rw[iE,jR (bk _ (by omega))]
def Fl{r:aD}{i:Nat}(h:i<r.length):bL (mvR u r) i=mvE u (bL r i):=by unfold bL mvE;rw[jR h,Oq h]
def uC(r:aD):aJ (mvR u r)=(aJ r).map (mvE u):=by
 unfold aJ;rw[iE];split
 .rfl
 .rw[cv];apply iy;intro i hi;exact Fl (by grind)
def Yf(l:List S)(f g:S->Int):(l.map λe=>f e-g e).sum=(l.map f).sum-(l.map g).sum:=by
 induction l with
 |nil=>rfl
 |cons x l ih=>grind
def xL(l:List S)(f g:S->Int):(l.map λe=>f e+g e).sum=(l.map f).sum+(l.map g).sum:=by
 induction l with
 |nil=>rfl
 |cons x l ih=>grind
def Aa(l:List S)(c:Int)(f:S->Int):(l.map λe=>c*f e).sum=c*(l.map f).sum:=by
 induction l with
 |nil=>simp
 |cons x l ih=>grind
def NG{r:aD}(h:2<=r.length):(aJ r).map S.b=rot r 1:=by
 unfold aJ;rw[if_neg (by omega),cv];apply rH
 .rw[lW];simp
 .intro i h1 h2;rw[lW]at h2;have:=uJ (r:=r) (k:=1) (i:=i) (by omega) h2;rw[iZ,qC];show nxt r i=_;unfold nxt;rw[<-this];unfold nth;grind
def EY{r:aD}(h:2<=r.length):(aJ r).map S.a=r:=by
 unfold aJ;rw[if_neg (by omega),cv];apply rH
 .simp
 .intro i h1 h2;rw[iZ,qC];show nth r i=_;unfold nth;grind
def MT{r:aD}(h:2<=r.length)(f:V->Int):((aJ r).map λe=>f e.b).sum=((aJ r).map λe=>f e.a).sum:=by
 have h1:((aJ r).map λe=>f e.b)=(rot r 1).map f:=by rw[<-NG h,cv];rfl
 have h2:((aJ r).map λe=>f e.a)=r.map f:=(cv (f:=S.a) (g:=f) (l:=aJ r)).symm.trans (by rw[EY h]);rw[h1,h2];exact Do ((th r 1).map f)
def Zu{r:aD}(h:2<=r.length):area (mvR u r)=area r:=by
 rw[wV h,wV (by rw[iE];exact h),uC,cv];have e:((λe:S=>cross e.a e.b)∘mvE u)=λe:S=>(cross e.a e.b+(u.y*e.a.x+ -u.x*e.a.y))-(u.y*e.b.x+ -u.x*e.b.y):=by
  funext e
  show cross (mv u e.a) (mv u e.b)=_;unfold cross mv;grind
 rw[e,Yf,xL,xL,xL,Aa,Aa,Aa,Aa];have hx:=MT h V.x;have hy:=MT h V.y;grind
def VR.mv{r:aD}(h:VR r)(hn:Geo.near (mvR u r)=true):VR (mvR u r):=by
 have h3:=h.three;refine⟨by rw[iE];exact h3,by rw[iE];exact h.most,hn,by rw[Zu (by omega)];exact h.area,?_,?_,?_⟩
 .intro i hi;rw[iE]at hi;rw[aAh hi,jR hi,Oq hi,uI];exact h.turn i hi
 .intro i hi;rw[iE]at hi|-;rw[jR hi,jR (bk _ (by omega)),jR (bk _ (by omega)),uI];exact h.turn' i hi
 .intro i k h1 h2 h4 h5;have g1:=iA hn i (by omega);have g2:=iA hn k h2;rw[iE]at h2 h5;rw[Fl (by omega)]at g1|-;rw[Fl h2]at g2|-;rw[FZ (iA h.near i (by omega)) g1 (iA h.near k h2) g2];exact h.apart i k h1 h2 h4 h5
def xZ(p:Pt)(a:V):toV (mvP u p) (Geo.mv u a)=toV p a:=by unfold toV mvP Geo.mv;grind
def M8(p:Pt)(s:S):fP (mvE u s) (mvP u p)=fP s p:=by unfold fP mvE;rw[qh,xZ]
def aAn(p:Pt)(s:S):onP (mvE u s) (mvP u p)=onP s p:=by unfold onP;rw[M8];unfold mvE;rw[xZ,xZ]
def ZV(p:Pt)(s:S):dY (mvE u s) (mvP u p)=dY s p:=by unfold dY;rw[M8];unfold mvE;rw[xZ,xZ]
def ND(p:Pt):∀(l:List S) (ins:Bool),dq (mvP u p) (l.map (mvE u)) ins=dq p l ins
 |[],_=>rfl
 |s::l,ins=>by
  simp only[cT,dq,aAn,ZV,ND p l]
def EM{r:aD}(h:VR r)(hn:near (mvR u r)=true){p:Pt}(h1:dO p=true)(h2:dO (mvP u p)=true):bY (mvR u r) (mvP u p)=bY r p:=by unfold bY;rw[(gv _).2 h,(gv _).2 (h.mv hn),h1,h2,uC,ND]
def L6(v:V):mvP u (fT v)=fT (Geo.mv u v):=by unfold mvP fT Geo.mv;simp
def VD{r:aD}(h:VR r)(hn:near (mvR u r)=true){v:V}(h1:ag v 4000=true)(h2:ag (Geo.mv u v) 4000=true):c6 (mvR u r) (Geo.mv u v)=c6 r v:=by unfold c6;rw[h1,h2,<-L6,EM h hn (by rw[yx];exact h1) (by rw[L6,yx];exact h2)]
def tw{r:aD}(h:near r=true){v:V}(hv:v∈r):ag v 2000=true:=by unfold near at h;grind
def GX{a b:aD}(hb:VR b)(ha:near a=true)(ha2:near (mvR u a)=true)(hb2:near (mvR u b)=true)(w:Int):bG (mvR u a) (mvR u b) w=bG a b w:=by
 unfold bG;rw[show(mvR u a)=a.map (Geo.mv u)from rfl,CM,eY,bZ,bZ];have e:∀v∈a,((λv=>c6 (mvR u b) v==w)∘Geo.mv u) v=(c6 b v==w):=λv hv=>by show(c6 (mvR u b) (Geo.mv u v)==w)=_;rw[VD hb hb2 (ig (tw ha hv) (by omega)) (ig (tw ha2 (bM.2 ⟨v,hv,rfl⟩)) (by omega))]
 grind
def zR{r:aD}(h:near r=true){e:S}(he:e∈aJ r):aj e=true:=by obtain⟨_,i,hi,rfl⟩:=mem_edges.1 he;exact iA h i hi
def KS{r:aD}(h:near (mvR u r)=true){e:S}(he:e∈aJ r):aj (mvE u e)=true:=
 zR h (by rw[uC];grind)
def Ml{a b:aD}(ha:near a=true)(hb:near b=true)(ha2:near (mvR u a)=true)(hb2:near (mvR u b)=true):dV (mvR u a) (mvR u b)=dV a b:=by unfold dV;rw[uC,uC,CM,eY,bZ,bZ];have e:∀x∈aJ a,∀y∈aJ b,bn (mvE u x) (mvE u y)=bn x y:=λx hx y hy=>FZ (zR ha hx) (KS ha2 hx) (zR hb hy) (KS hb2 hy);grind
end
def iq(s:Shape):Prop:=near s.outer=true/\∀h∈s.holes,near h=true
section
variable {u:V} {s:Shape}
def VS.mv(h:VS s)(hn:iq (mvH u s)):VS (mvH u s):=by
 have h:=h.vp;obtain⟨n1,n2⟩:=hn;have n2:∀r∈s.holes,near (mvR u r)=true:=λr hr=>n2 _ (bM.2 ⟨r,hr,rfl⟩);refine VP.vs ⟨by show(s.holes.map _).length<=6;rw[cL];exact h.few,h.outer.mv n1,?_,?_,?_⟩
 .intro r hr;obtain⟨q,hq,rfl⟩:=bM.1 hr;obtain⟨h1,h2,h3⟩:=h.hole q hq;exact⟨h1.mv (n2 q hq),by show bG (mvR u q) (mvR u s.outer) 2=true;rw[GX h.outer h1.near (n2 q hq) n1];exact h2,by show dV (mvR u q) (mvR u s.outer)=true;rw[Ml h1.near h.outer.near (n2 q hq) n1];exact h3⟩
 .have hc:=h.corners;have e:fN (mvH u s)=fN s:=by
   unfold fN aE mvH;simp only[cT,yS,iE,cv]
   congr 2
   apply iy;intro r _;exact iE r
  omega
 .show(s.holes.map (mvR u)).Pairwise sm;rw[ia];refine yV ?_ h.sep;intro a b ha hb ⟨h1,h2,h3⟩;have va:=(h.hole a ha).1;have vb:=(h.hole b hb).1;exact⟨by rw[Ml va.near vb.near (n2 a ha) (n2 b hb)];exact h1,by rw[GX vb va.near (n2 a ha) (n2 b hb)];exact h2,by rw[GX va vb.near (n2 b hb) (n2 a ha)];exact h3⟩
def Ks:bW (mvH u s)=(bW s).map (mvE u):=by unfold bW aE mvH;simp only[fX,dQ,uC,List.flatMap_map,List.map_flatMap]
def wY:bl (mvH u s)=(bl s).map (Geo.mv u):=by unfold bl aE mvH;simp only[lN,dQ,List.map_flatten];rfl
def V8(h:VS s)(hn:iq (mvH u s)){p:Pt}(h1:dO p=true)(h2:dO (mvP u p)=true):(eJ (mvH u s) (mvP u p)==2)=(eJ s p==2):=by
 have hm:=h.mv hn;obtain⟨n1,n2⟩:=hn;rw[eY,beq_iff_eq,beq_iff_eq,tJ,tJ,(kS _).2 h,(kS _).2 hm];refine and_congr_right λ_=> ?_;have e1:bY (mvH u s).outer (mvP u p)=bY s.outer p:=EM h.outer n1 h1 h2;rw[e1];refine and_congr_right λ_=> ?_;have e2:∀r∈s.holes,bY (mvR u r) (mvP u p)=bY r p:=λr hr=>EM (h.vp.hole r hr).1 (n2 _ (bM.2 ⟨r,hr,rfl⟩)) h1 h2;constructor
 .intro g r hr;rw[<-e2 r hr];exact g _ (bM.2 ⟨r,hr,rfl⟩)
 .intro g r hr;obtain⟨q,hq,rfl⟩:=bM.1 hr;grind
def LM{x:Int}(h:x.tmod 2=0)(u:Int):(x+2*u).tdiv 2=x.tdiv 2+u:=by grind
def KT(c:S):fF (mvE u c)=mvP u (fF c):=by
 have e1:(mvE u c).a.x+(mvE u c).b.x=(c.a.x+c.b.x)+2*u.x:=by unfold mvE Geo.mv;dsimp only;omega
 have e2:(mvE u c).a.y+(mvE u c).b.y=(c.a.y+c.b.y)+2*u.y:=by unfold mvE Geo.mv;dsimp only;omega
 unfold fF;rw[e1,e2];generalize c.a.x+c.b.x=x;generalize c.a.y+c.b.y=y;by_cases h:x.tmod 2=0/\y.tmod 2=0
 .rw[if_pos h,if_pos (by grind),LM h.1,LM h.2];show(⟨_,_,_⟩:Pt)=⟨_,_,_⟩;grind
 .rw[if_neg h,if_neg (by grind)];show(⟨_,_,_⟩:Pt)=⟨_,_,_⟩;grind
def ZY(x y:Int)(h:¬(x.tmod 2=0/\y.tmod 2=0)):bw (bw x.natAbs y.natAbs) 2=1:=by
 have hd:bw (bw x.natAbs y.natAbs) 2∣2:=Hn _ _;have hle:=Nat.le_of_dvd (by omega) hd;have h0:bw (bw x.natAbs y.natAbs) 2≠0:=λe=>by grind
 have h2:bw (bw x.natAbs y.natAbs) 2≠2:=λe=>by have g:=Ho (bw x.natAbs y.natAbs) 2;rw[e]at g;exact h ⟨(z8 x 2).2 (Hp g (Ho _ _)),(z8 y 2).2 (Hp g (Hn _ _))⟩
 omega
def wA{c:S}(ha:ag c.a 2000=true)(hb:ag c.b 2000=true):dO (fF c)=true:=by
 unfold ag at ha hb;simp only[bm,decide_eq_true_eq]at ha hb;unfold fF;split
 .rename_i h;unfold dO ik ag;simp only[bm,decide_eq_true_eq,beq_iff_eq];obtain⟨k,hk⟩:=R6.2 h.1;obtain⟨l,hl⟩:=R6.2 h.2;rw[hk,hl,Int.mul_tdiv_cancel_left _ (by decide),Int.mul_tdiv_cancel_left _ (by decide)];refine⟨by grind,?_⟩;simp_all
 .rename_i h;unfold dO ik ag;simp only[bm,decide_eq_true_eq,beq_iff_eq];exact⟨by grind,ZY _ _ h⟩
def VT(s t:S):pQ (mvE u s) (mvE u t)=pQ s t:=by unfold pQ mvE;simp only[aAt]
def K5{s t:S}(h1:aj s=true)(h2:aj (mvE u s)=true)(h3:aj t=true)(h4:aj (mvE u t)=true):cC (mvE u s) (mvE u t)=cC s t:=by unfold cC;rw[FZ h1 h2 h3 h4,VT]
def i9(h:VS s){v:V}(hv:v∈bl s):ag v 2000=true:=by obtain⟨r,hr,hv⟩:=kh.1 hv;exact tw (h.ring hr).near hv
def zE(h:VS s){e:S}(he:e∈bW s):aj e=true:=by obtain⟨r,hr,he⟩:=dI.1 he;exact zR (h.ring hr).near he
def YN(h:VS s)(hn:iq (mvH u s)){c:S}(ha:c.a∈bl s)(hb:c.b∈bl s):fE (mvH u s) (mvE u c)=fE s c:=by
 have hm:=h.mv hn;have a1:=i9 h ha;have b1:=i9 h hb;have a2:ag (mvE u c).a 2000=true:=i9 hm (by rw[wY];exact bM.2 ⟨_,ha,rfl⟩);have b2:ag (mvE u c).b 2000=true:=i9 hm (by rw[wY];exact bM.2 ⟨_,hb,rfl⟩);unfold fE;rw[KT,V8 h hn (wA a1 b1) (by rw[<-KT];exact wA a2 b2)]
 congr 1
 rw[Ks,CM,eY,bZ,bZ];have e:∀x∈bW s,cC (mvE u x) (mvE u c)=cC x c:=λx hx=>K5 (zE h hx) (zE hm (by rw[Ks];grind)) (tX a1 b1) (tX a2 b2);grind
def Jf(r:aD):∀n,n<=r.length->dp (mvR u r) n=dp r n
 |0,_=>rfl
 |n+1,hn=>by
  have h:=Jf r n (by omega);have hl:dp r n<=n:=by
   cases n with
   |zero=>exact bQ _
   |succ n=>have:=zO r (n+1) (by omega);omega
  unfold dp;rw[h,jR (by omega),jR (by omega),tz]
def E2(r:aD):co (mvR u r)=mvR u (co r):=by unfold co dN;rw[iE,Jf r _ (bQ _)];unfold mvR;simp_all
def Nv:∀(l:List aD) (h:aD),(∀q∈l,0<q.length)->0<h.length->kg (l.map (mvR u)) (mvR u h)=(kg l h).map (mvR u)
 |[],h,_,_=>rfl
 |q::l,h,hl,hh=>by
  rw[cT];unfold kg;rw[jR (by grind),jR hh,tz];split
  .rw[cT,Nv l h (by grind) hh]
  .rfl
def Ie:∀(l acc:List aD),(∀q∈l,0<q.length)->(∀q∈acc,0<q.length)->(l.map (mvR u)).foldl kg (acc.map (mvR u))=(l.foldl kg acc).map (mvR u)
 |[],_,_,_=>rfl
 |q::l,acc,hl,ha=>by
  rw[cT,vH,vH,Nv acc q ha (by grind)];refine Ie l _ (by grind) λx hx=> ?_;rcases bO.1 ((Dz acc q).mem_iff.1 hx)with rfl|hx
  .grind
  grind
def E1(h:VS s):dC (mvH u s)=mvH u (dC s):=by
 unfold dC mvH;simp only[E2,cv]
 congr 1
 rw[show(co∘mvR u)=(mvR u∘co)from funext λr=>E2 r,<-cv];refine Ie _ [] (λq hq=> ?_) (by grind);obtain⟨r,hr,rfl⟩:=bM.1 hq;rw[kl];have:=(h.vp.hole r hr).1.three;omega
def NB{v:List V}{p:Nat×Nat}(h1:p.1<v.length)(h2:p.2<v.length):cS (v.map (Geo.mv u)) p=mvE u (cS v p):=by unfold cS mvE;have n1:=jR (u:=u) h1;have n2:=jR (u:=u) h2;unfold mvR at n1 n2;rw[n1,n2]
def XY(h:VS s)(hn:iq (mvH u s)){v:List V}(hv:∀x∈v,x∈bl s)(hd:v.Nodup)(i:Nat)(hi:i<=v.length):da (mvH u s) (v.map (Geo.mv u)) i=da s v i:=by
 have vn:∀{x},x∈v->ag x 2000=true:=λhx=>i9 h (hv _ hx);have vm:∀{x},x∈v->ag (Geo.mv u x) 2000=true:=λhx=>i9 (h.mv hn) (by rw[wY];grind);have nv:∀{i},i<v.length->nth (v.map (Geo.mv u)) i=Geo.mv u (nth v i):=λhi=>jR (u:=u) (r:=v) hi;induction i with
 |zero=>rfl
 |succ i ih=>
  have hF:=(PQ h hv hd i (by omega)).2;have row:∀m,i+1+m<=v.length->rowP (mvH u s) (v.map (Geo.mv u)) (da s v i) i m=rowP s v (da s v i) i m:=by
   intro m;induction m with
   |zero=>intro _;rfl
   |succ m ihm=>
    intro hm;have hF2:=(Oe h hv hd hF m (by omega)).2;unfold rowP;have ec:fE (mvH u s) ⟨nth (v.map (Geo.mv u)) i,nth (v.map (Geo.mv u)) (i+1+m)⟩=fE s ⟨nth v i,nth v (i+1+m)⟩:=by rw[nv (by omega),nv (by omega)];exact YN h hn (c:=⟨nth v i,nth v (i+1+m)⟩) (hv _ (dD (by omega))) (hv _ (dD (by omega)))
    have ea:∀d∈rowP s v (da s v i) i m,cC ⟨nth (v.map (Geo.mv u)) i,nth (v.map (Geo.mv u)) (i+1+m)⟩ (cS (v.map (Geo.mv u)) d)=cC ⟨nth v i,nth v (i+1+m)⟩ (cS v d):=by intro d hdm;obtain⟨l1,l2⟩:=hF2.lt d hdm;rw[nv (by omega),nv (by omega),NB (by omega) l2];have w1:=vn (dD (v:=v) (i:=i) (by omega));have w2:=vn (dD (v:=v) (i:=i+1+m) (by omega));have w3:=vn (dD (v:=v) (i:=d.1) (by omega));have w4:=vn (dD (v:=v) (i:=d.2) (by omega));have m1:=vm (dD (v:=v) (i:=i) (by omega));have m2:=vm (dD (v:=v) (i:=i+1+m) (by omega));have m3:=vm (dD (v:=v) (i:=d.1) (by omega));have m4:=vm (dD (v:=v) (i:=d.2) (by omega));exact K5 (s:=⟨nth v i,nth v (i+1+m)⟩) (t:=cS v d) (tX w1 w2) (tX m1 m2) (tX w3 w4) (tX m3 m4)
    unfold n8;grind
  unfold da;grind
def YI(h:VS s)(hn:iq (mvH u s)):(c7 (mvH u s) (bl (dC (mvH u s)))).map (cS (bl (dC (mvH u s))))=((c7 s (bl (dC s))).map (cS (bl (dC s)))).map (mvE u):=by
 have hc:bl (dC (mvH u s))=(bl (dC s)).map (Geo.mv u):=by rw[E1 h,wY]
 have hv:∀x∈bl (dC s),x∈bl s:=λx hx=>(mR s).mem_iff.1 hx;have hd:(bl (dC s)).Nodup:=(mR s).nodup_iff.2 h.nodup;have hp:c7 (mvH u s) (bl (dC (mvH u s)))=c7 s (bl (dC s)):=by unfold c7;rw[hc,cL];exact XY h hn hv hd _ (bQ _)
 rw[hp,hc,cv];apply iy;intro p hpp;obtain⟨l1,l2⟩:=(xR h hv hd).2.lt p hpp;exact NB (by omega) l2
end
end Geo
end
namespace Geo
def p8(p:Pt)(l:List S)(ins:Bool):Bool:=l.foldl (λb s=>b !=dY s p) ins
def LX{p:Pt}:∀{l:List S} {ins:Bool},dq p l ins=2->p8 p l ins=true
 |[],ins,h=>by unfold dq at h;unfold p8;grind
 |s::l,ins,h=>by
  unfold dq at h;split at h
  .omega
  .exact LX (l:=l) (ins:=ins !=dY s p) h
def Lp{p:Pt}:∀{l:List S} {ins:Bool},(∀s∈l,dY s p=false)->p8 p l ins=ins
 |[],_,_=>rfl
 |s::l,ins,h=>by
  show p8 p l (ins !=dY s p)=ins;rw[Lp (by grind),h s (by grind)];simp_all
def dh(l:List Bool):Bool:=l.foldr (λa b=>a !=b) false
def Wp{l m:List Bool}(h:l.Perm m):dh l=dh m:=by
 induction h with
 |nil=>rfl
 |cons x _ ih=>show(x !=dh _)=(x !=dh _);rw[ih]
 |swap x y l=>show(y !=(x !=dh l))=(x !=(y !=dh l));cases x<;>cases y<;>cases dh l<;>rfl
 |trans _ _ ih1 ih2=>rw[ih1,ih2]
def NR{p:Pt}(f:V->Bool):∀{l:List S} {ins:Bool},(∀s∈l,dY s p=(f s.a !=f s.b))->p8 p l ins=(ins !=(dh (l.map λs=>f s.a) !=dh (l.map λs=>f s.b)))
 |[],ins,_=>by cases ins<;>rfl
 |s::l,ins,h=>by
  show p8 p l (ins !=dY s p)=_;rw[NR f (by grind),h s (by grind)];show _=(ins !=((f s.a !=dh _) !=(f s.b !=dh _)));cases ins<;>cases f s.a<;>cases f s.b<;>cases dh (l.map λs=>f s.a)<;>cases dh (l.map λs=>f s.b)<;>rfl
def EL{r:aD}(h:2<=r.length)(f:V->Bool):dh ((aJ r).map λs=>f s.a)=dh ((aJ r).map λs=>f s.b):=by have h1:((aJ r).map λe=>f e.b)=(rot r 1).map f:=(cv (f:=S.b) (g:=f) (l:=aJ r)).symm.trans (by rw[NG h]);have h2:((aJ r).map λe=>f e.a)=r.map f:=(cv (f:=S.a) (g:=f) (l:=aJ r)).symm.trans (by rw[EY h]);rw[h1,h2];exact Wp ((th r 1).map f).symm
def iP{r:aD}{e:S}(he:e∈aJ r):e.a∈r/\e.b∈r:=by obtain⟨_,i,hi,rfl⟩:=mem_edges.1 he;exact⟨fO.2 ⟨i,hi,rfl⟩,fO.2 ⟨_,bk _ (by omega),rfl⟩⟩
def LQ(s:S)(p:Pt)(h:p.den=1):fP s p=(toV p s.a).x*(toV p s.b).y-(toV p s.a).y*(toV p s.b).x:=by unfold fP toV cross sub;grind
def By{x y:Int}:(0<x->0<=y->0<=x*y)/\(0<x->y<0->x*y<0)/\(x<0->0<=y->x*y<=0)/\(x<0->y<0->0<x*y):=by refine⟨λh1 h2=>cM (by omega) h2,λh1 h2=>gQ h1 h2,λh1 h2=>Hw (by omega) h2,λh1 h2=>vG h1 h2⟩
def WB{s:S}{p:Pt}(hd:p.den=1)(ha:0<(toV p s.a).x)(hb:0<(toV p s.b).x):dY s p=false:=by unfold dY;rw[LQ s p hd];generalize (toV p s.a).x=X1 at*;generalize (toV p s.b).x=X2 at*;generalize (toV p s.a).y=Y1;generalize (toV p s.b).y=Y2;have a:= @By X1 Y2;have b:= @By X2 Y1;grind
def Xz{s:S}{p:Pt}(hd:p.den=1)(ha:(toV p s.a).x<0)(hb:(toV p s.b).x<0):dY s p=(decide (0<=(toV p s.a).y) !=decide (0<=(toV p s.b).y)):=by unfold dY;rw[LQ s p hd];generalize (toV p s.a).x=X1 at*;generalize (toV p s.b).x=X2 at*;generalize (toV p s.a).y=Y1;generalize (toV p s.b).y=Y2;have a:= @By X1 Y2;have b:= @By X2 Y1;grind
def Pr{s:S}{p:Pt}(h:decide (0<=(toV p s.a).y)=decide (0<=(toV p s.b).y)):dY s p=false:=by unfold dY;rw[h];simp
def Jh{r:aD}(h2:2<=r.length){v:V}(h:c6 r v=2):(∃a∈r,a.x<=v.x)/\(∃a∈r,v.x<=a.x)/\(∃a∈r,a.y<=v.y)/\(∃a∈r,v.y<=a.y):=by
 unfold c6 bY at h;split at h
 .omega
 split at h
 .omega
 have hp:=LX h;have no:¬∀s∈aJ r,dY s (fT v)=false:=λhn=>by rw[Lp hn]at hp;cases hp
 have tx:∀a:V,(toV (fT v) a).x=v.x-a.x:=λa=>by unfold toV fT;simp
 have ty:∀a:V,(toV (fT v) a).y=v.y-a.y:=λa=>by unfold toV fT;simp
 refine⟨eW λhn=> ?_,eW λhn=> ?_,eW λhn=> ?_,eW λhn=> ?_⟩
 .have hl:∀a∈r,v.x<a.x:=by grind
  rw[NR (λa=>decide (0<=(toV (fT v) a).y)) (λs hs=>Xz rfl (by rw[tx];have:=hl _ (iP hs).1;omega) (by rw[tx];have:=hl _ (iP hs).2;omega))]at hp;have hx:=EL h2 (λa=>decide (0<=(toV (fT v) a).y));grind
 .have hl:∀a∈r,a.x<v.x:=by grind
  exact no λs hs=>WB rfl (by rw[tx];have:=hl _ (iP hs).1;omega) (by rw[tx];have:=hl _ (iP hs).2;omega)
 .have hl:∀a∈r,v.y<a.y:=by grind
  exact no λs hs=>Pr (by have:=hl _ (iP hs).1;have:=hl _ (iP hs).2;grind)
 .have hl:∀a∈r,a.y<v.y:=by grind
  exact no λs hs=>Pr (by have:=hl _ (iP hs).1;have:=hl _ (iP hs).2;grind)
def S4{s:Shape}(h:VS s){u:V}(hn:near (mvR u s.outer)=true):iq (mvH u s):=by refine⟨hn,λq hq=> ?_⟩;obtain⟨r,hr,rfl⟩:=bM.1 hq;have hi:=(h.vp.hole r hr).2.1;unfold bG at hi;rw[bZ]at hi;unfold near;rw[bZ];intro w hw;obtain⟨v,hv,rfl⟩:=bM.1 hw;have h3:=h.outer.three;have hb:=Jh (r:=s.outer) (by omega) (by simpa using hi v hv);have hm:∀a∈s.outer,ag (mv u a) 2000=true:=λa ha=>tw hn (bM.2 ⟨a,ha,rfl⟩);obtain⟨⟨a,ha,a1⟩,⟨b,hb,b1⟩,⟨c,hc,c1⟩,⟨d,hd,d1⟩⟩:=hb;have a2:=hm a ha;have b2:=hm b hb;have c2:=hm c hc;have d2:=hm d hd;unfold ag mv at*;simp only[bm,decide_eq_true_eq]at*;omega
end Geo
section
namespace Geo
def ln(p q:P3):P3:=⟨p.y*q.d-p.d*q.y,p.d*q.x-p.x*q.d,p.x*q.y-p.y*q.x⟩
def aAA(u v:V):lin u v=ln (pt u) (pt v):=by unfold lin ln pt;grind
def Fk(p q:P3):ev (ln p q) p=0:=by unfold ev ln;grind
def Ai(p q:P3):ev (ln p q) q=0:=by unfold ev ln;grind
def nnl{a k:Int}(hk:0<k)(h:0<=a*k):0<=a:=by
 rcases bo a 0 with g|g
 .have:=lL g hk;omega
 .exact g
def npl{a k:Int}(hk:0<k)(h:a*k<=0):a<=0:=by
 rcases bo 0 a with g|g
 .have:=bV g hk;omega
 .exact g
def mpp{a b:Int}(ha:0<=a)(hb:0<=b):0<=a*b:=cM ha hb
def mpn{a b:Int}(ha:0<=a)(hb:b<=0):a*b<=0:=Int.mul_nonpos_of_nonneg_of_nonpos ha hb
def mnp{a b:Int}(ha:a<=0)(hb:0<=b):a*b<=0:=Hw ha hb
def mnn{a b:Int}(ha:a<=0)(hb:b<=0):0<=a*b:=Int.mul_nonneg_of_nonpos_of_nonpos ha hb
def dn(p:P3)(w:V):Bool:=decide (w.y*p.d<=p.y)
def hit(p:P3)(e:S):Bool:=(dn p e.a !=dn p e.b)&&(dn p e.a==decide (0<ev (lin e.a e.b) p))
def X0(e:S)(p:Pt):dY e p=hit ⟨p.x,p.y,p.den⟩ e:=by
 unfold dY hit dn;have e1:∀w:V,decide (0<=(toV p w).y)=decide (w.y*p.den<=p.y):=λw=>decide_eq_decide.2 (by unfold toV;grind);have e2:fP e p=ev (lin e.a e.b) ⟨p.x,p.y,p.den⟩:=by unfold fP cross sub toV ev lin;grind
 grind
def fR(e:S)(p q:P3):Prop:=∃x y s t:Int,0<=x/\0<=y/\0<x+y/\0<=s/\0<=t/\cmb x (pt e.a) y (pt e.b)=cmb s p t q
section
variable {u v:V} {p q:P3}
def gc(u v:V)(p q:P3):cmb (ev (ln p q) (pt v)) (pt u) (-(ev (ln p q) (pt u))) (pt v)=cmb (-(ev (lin u v) q)) p (ev (lin u v) p) q:=by unfold cmb ev ln lin pt;grind
def HY(u v:V)(p q:P3):ev (ln p q) (pt v)*(u.y*p.d-p.y)-ev (ln p q) (pt u)*(v.y*p.d-p.y)=ev (lin u v) p*(q.y*p.d-p.y*q.d):=by unfold ev ln lin pt;grind
def HX(u v:V)(p q:P3):ev (ln p q) (pt v)*(u.y*q.d-q.y)-ev (ln p q) (pt u)*(v.y*q.d-q.y)=ev (lin u v) q*(q.y*p.d-p.y*q.d):=by unfold ev ln lin pt;grind
def aCX(u v:V)(p q:P3):ev (ln p q) (pt v)-ev (ln p q) (pt u)=ev (lin u v) p*q.d-ev (lin u v) q*p.d:=by unfold ev ln lin pt;grind
def xy(h1:0<=ev (lin u v) p)(h2:ev (lin u v) q<=0)(h3:0<=ev (ln p q) (pt v))(h4:ev (ln p q) (pt u)<=0)(h5:ev (ln p q) (pt u)<ev (ln p q) (pt v)):fR ⟨u,v⟩ p q:=
 ⟨_,_,_,_,h3,by omega,by omega,by omega,h1,gc u v p q⟩
def Bl(h1:ev (lin u v) p<=0)(h2:0<=ev (lin u v) q)(h3:ev (ln p q) (pt v)<=0)(h4:0<=ev (ln p q) (pt u))(h5:ev (ln p q) (pt v)<ev (ln p q) (pt u)):fR ⟨u,v⟩ p q:=by refine⟨-(ev (ln p q) (pt v)),ev (ln p q) (pt u),ev (lin u v) q,-(ev (lin u v) p),by omega,by omega,by omega,by omega,by omega,?_⟩;have:=gc u v p q;unfold cmb at this|-;grind
def rgt(p q:P3)(w:V):Bool:=dn q w&& !dn p w&&decide (ev (ln p q) (pt w)<0)
def fR.swap{u v:V}{p q:P3}(h:fR ⟨u,v⟩ p q):fR ⟨v,u⟩ p q:=by obtain⟨x,y,s,t,h1,h2,h3,h4,h5,h6⟩:=h;refine⟨y,x,s,t,h2,h1,by omega,h4,h5,?_⟩;rw[<-h6];unfold cmb;grind
def fR.flip{e:S}{p q:P3}(h:fR e p q):fR e q p:=by obtain⟨x,y,s,t,h1,h2,h3,h4,h5,h6⟩:=h;refine⟨x,y,t,s,h1,h2,h3,h5,h4,?_⟩;rw[h6];unfold cmb;grind
def jl(u v:V)(p:P3):ev (lin v u) p= -ev (lin u v) p:=by unfold ev lin;grind
def low(hp:0<p.d)(hq:0<q.d)(hm:¬fR ⟨u,v⟩ p q)(a:u.y*p.d<=p.y)(b:p.y<v.y*p.d)(c:u.y*q.d<=q.y)(d:v.y*q.d<=q.y):
  0<ev (lin u v) p↔ev (ln p q) (pt v)<0:=by
 have i1:=HY u v p q;have i2:=HX u v p q;have hK:0<q.y*p.d-p.y*q.d:=by
  have e:q.y*p.d-p.y*q.d=(v.y*p.d-p.y)*q.d-(v.y*q.d-q.y)*p.d:=by grind
  have:=bV (show 0<v.y*p.d-p.y by omega) hq;have:=mnp (show v.y*q.d-q.y<=0 by omega) (show 0<=p.d by omega);omega
 have m1:= @xy u v p q;have m2:= @Bl u v p q;generalize ev (lin u v) p=A at*;generalize ev (lin u v) q=B at*;generalize ev (ln p q) (pt u)=C at*;generalize ev (ln p q) (pt v)=D at*;generalize q.y*p.d-p.y*q.d=K at*;constructor
 .intro hA;refine eW λhn=> ?_;have hDn:0<=D:=by omega
  have s1:=mpn hDn (show u.y*p.d-p.y<=0 by omega);have s2:=bV hA hK;have s3:0<=(-C)*(v.y*p.d-p.y):=by rw[nH];omega
  have hCn:C<=0:=by have:=nnl (by grind) s3;omega
  have s4:=mpn hDn (show u.y*q.d-q.y<=0 by omega);have s5:=mnn hCn (show v.y*q.d-q.y<=0 by omega);have hBn:B<=0:=npl hK (by omega);grind
 .refine eW λhn=> ?_;have hAn:A<=0:=by omega
  have s1:=mnn (show D<=0 by omega) (show u.y*p.d-p.y<=0 by omega);have s2:=mnp hAn (show 0<=K by omega);have hCn:0<=C:=nnl (show 0<v.y*p.d-p.y by omega) (by omega);have s4:=mnn (show D<=0 by omega) (show u.y*q.d-q.y<=0 by omega);have s5:=mpn hCn (show v.y*q.d-q.y<=0 by omega);have hBn:0<=B:=nnl hK (by omega);grind
def Rp(hp:0<p.d)(hq:0<q.d)(hm:¬fR ⟨u,v⟩ p q)(a:p.y<u.y*p.d)(b:p.y<v.y*p.d)(c:u.y*q.d<=q.y)(d:q.y<v.y*q.d):
  0<ev (lin u v) q↔ev (ln p q) (pt u)<0:=by
 have i1:=HY u v p q;have i2:=HX u v p q;have hK:0<q.y*p.d-p.y*q.d:=by
  have e:q.y*p.d-p.y*q.d=(u.y*p.d-p.y)*q.d-(u.y*q.d-q.y)*p.d:=by grind
  have:=bV (show 0<u.y*p.d-p.y by omega) hq;have:=mnp (show u.y*q.d-q.y<=0 by omega) (show 0<=p.d by omega);omega
 have m1:= @xy u v p q;have m2:= @Bl u v p q;generalize ev (lin u v) p=A at*;generalize ev (lin u v) q=B at*;generalize ev (ln p q) (pt u)=C at*;generalize ev (ln p q) (pt v)=D at*;generalize q.y*p.d-p.y*q.d=K at*;constructor
 .intro hB;refine eW λhn=> ?_;have hC:0<=C:=by omega
  have s1:=bV hB hK;have s2:=mpp hC (show 0<=v.y*q.d-q.y by omega);have hD:D<0:=by
   rcases bo D 0 with g|g
   .exact g
   .have:=mpn g (show u.y*q.d-q.y<=0 by omega);omega
  have s4:=mnp (show D<=0 by omega) (show 0<=u.y*p.d-p.y by omega);have s5:=mpp hC (show 0<=v.y*p.d-p.y by omega);have hA:A<=0:=npl hK (by omega);grind
 .intro hC;refine eW λhn=> ?_;have hB:B<=0:=by omega
  have s1:=mnp hB (show 0<=K by omega);have s3:=lL hC (show 0<v.y*q.d-q.y by omega);have hD:0<D:=by
   rcases bo 0 D with g|g
   .exact g
   .have:=mnn g (show u.y*q.d-q.y<=0 by omega);omega
  have s4:=mpp (show 0<=D by omega) (show 0<=u.y*p.d-p.y by omega);have s5:=mnp (show C<=0 by omega) (show 0<=v.y*p.d-p.y by omega);have hA:0<=A:=nnl hK (by omega);grind
def mid(hp:0<p.d)(hq:0<q.d)(hm:¬fR ⟨u,v⟩ p q)(a:p.y<u.y*p.d)(b:p.y<v.y*p.d)(c:u.y*q.d<=q.y)(d:v.y*q.d<=q.y):
  ¬(ev (ln p q) (pt u)<0/\0<=ev (ln p q) (pt v)):=by
 rintro⟨hC,hD⟩;have i1:=HY u v p q;have i2:=HX u v p q;have hK:0<q.y*p.d-p.y*q.d:=by
  have e:q.y*p.d-p.y*q.d=(u.y*p.d-p.y)*q.d-(u.y*q.d-q.y)*p.d:=by grind
  have:=bV (show 0<u.y*p.d-p.y by omega) hq;have:=mnp (show u.y*q.d-q.y<=0 by omega) (show 0<=p.d by omega);omega
 have m1:= @xy u v p q;generalize ev (lin u v) p=A at*;generalize ev (lin u v) q=B at*;generalize ev (ln p q) (pt u)=C at*;have s1:=mpp hD (show 0<=u.y*p.d-p.y by omega);have s2:=mnp (show C<=0 by omega) (show 0<=v.y*p.d-p.y by omega);have hA:0<=A:=nnl hK (by omega);have s3:=mpn hD (show u.y*q.d-q.y<=0 by omega);have s4:=mnn (show C<=0 by omega) (show v.y*q.d-q.y<=0 by omega);have hB:B<=0:=npl hK (by omega);grind
def P9(hp:0<p.d)(hq:0<q.d)(hm:¬fR ⟨u,v⟩ p q)(a:u.y*p.d<=p.y)(b:p.y<v.y*p.d)(c:u.y*q.d<=q.y)(d:q.y<v.y*q.d):
  (0<ev (lin u v) p↔0<ev (lin u v) q):=by
 have j1:ev (lin u v) p*(q.y-u.y*q.d)-ev (lin u v) q*(p.y-u.y*p.d)= -(ev (ln p q) (pt u))*(v.y-u.y):=by unfold ev ln lin pt;grind
 have j2:ev (lin u v) p*(q.y-v.y*q.d)-ev (lin u v) q*(p.y-v.y*p.d)= -(ev (ln p q) (pt v))*(v.y-u.y):=by unfold ev ln lin pt;grind
 have hv:0<v.y-u.y:=by
  have h1:0<(v.y-u.y)*p.d:=by rw[Int.sub_mul];omega
  rcases bo 0 (v.y-u.y)with g|g
  .exact g
  .have:=mnp g (show 0<=p.d by omega);omega
 have m1:= @xy u v p q;have m2:= @Bl u v p q;generalize ev (lin u v) p=A at*;generalize ev (lin u v) q=B at*;generalize ev (ln p q) (pt u)=C at*;generalize ev (ln p q) (pt v)=D at*;constructor
 .intro hA;refine eW λhn=> ?_;have hB:B<=0:=by omega
  have s1:=mpp (show 0<=A by omega) (show 0<=q.y-u.y*q.d by omega);have s2:=mnp hB (show 0<=p.y-u.y*p.d by omega);have hC:0<= -C:=nnl hv (by omega);have s3:=gQ hA (show q.y-v.y*q.d<0 by omega);have s4:=mnn hB (show p.y-v.y*p.d<=0 by omega);have hD:0<=D:=nnl hv (by grind);grind
 .intro hB;refine eW λhn=> ?_;have hA:A<=0:=by omega
  have s1:=mnp hA (show 0<=q.y-u.y*q.d by omega);have s2:=mpp (show 0<=B by omega) (show 0<=p.y-u.y*p.d by omega);have hC:0<=C:=nnl hv (by grind);have s3:=mnn hA (show q.y-v.y*q.d<=0 by omega);have s4:=gQ hB (show p.y-v.y*p.d<0 by omega);have hD:0<= -D:=nnl hv (by omega);grind
def ZA{r:P3}(hr:0<r.d)(h0:ev (lin u v) r=0)(h:dn r u≠dn r v):∃x y k:Int,0<=x/\0<=y/\0<x+y/\0<=k/\cmb x (pt u) y (pt v)=⟨k*r.x,k*r.y,k*r.d⟩:=by
 unfold dn at h;have hk:∀{a b:Int},a*r.d<b*r.d->0<=b-a:=λ{a b} g=>by have:=nnl (a:=b-a) hr (by grind);exact this
 unfold ev lin at h0;by_cases h1:u.y*r.d<=r.y<;>by_cases h2:v.y*r.d<=r.y
 .grind
 .refine⟨v.y*r.d-r.y,r.y-u.y*r.d,v.y-u.y,by omega,by omega,by omega,hk (by omega),?_⟩;unfold cmb pt;grind
 .refine⟨r.y-v.y*r.d,u.y*r.d-r.y,u.y-v.y,by omega,by omega,by omega,hk (by omega),?_⟩;unfold cmb pt;grind
 grind
def Xy(hp:0<p.d)(hq:0<q.d)(hy:p.y*q.d<=q.y*p.d)(hm:¬fR ⟨u,v⟩ p q):(hit p ⟨u,v⟩ !=hit q ⟨u,v⟩)=(rgt p q u !=rgt p q v):=by
 have mono:∀w:V,dn p w=true->dn q w=true:=λw h=>by
  unfold dn at h|-;rw[decide_eq_true_eq]at h|-;have h1:=lM h (show 0<=q.d by omega);have h2:(w.y*q.d)*p.d<=q.y*p.d:=by rw[show w.y*q.d*p.d=w.y*p.d*q.d by grind];omega
  simp_all
 have hm':¬fR ⟨v,u⟩ p q:=λh=>hm h.swap;have dT:∀{r:P3} {w:V},dn r w=true->w.y*r.d<=r.y:=λh=>of_decide_eq_true h;have dF:∀{r:P3} {w:V},dn r w=false->r.y<w.y*r.d:=λh=>ki.1 (of_decide_eq_false h);have sw:∀r:P3,(0<ev (lin v u) r↔ev (lin u v) r<0):=λr=>by rw[jl];omega
 have nz:∀r:P3,(r=p\/r=q)->dn r u≠dn r v->ev (lin u v) r≠0:=λr hr hne h0=>by
  obtain⟨x,y,k,h1,h2,h3,h4,h5⟩:=ZA (by grind) h0 hne;rcases hr with rfl|rfl
  .exact hm ⟨x,y,k,0,h1,h2,h3,h4,iz _,by rw[h5];unfold cmb;simp⟩
  .exact hm ⟨x,y,0,k,h1,h2,h3,iz _,h4,by rw[h5];unfold cmb;simp⟩
 unfold hit rgt;cases a:dn p u<;>cases b:dn p v<;>cases c:dn q u<;>cases d:dn q v<;>simp only[Hq,Bool.and_false,oc,Bool.false_and,bne_self_eq_false,yO,Bool.not_false,Bool.false_bne,Bool.bne_false,Bool.bne_true];all_goals have np:=nz p (.inl rfl)
 all_goals have nq:=nz q (.inr rfl)
 all_goals rw[a,b]at np
 all_goals rw[c,d]at nq
 all_goals have sp:=sw p
 all_goals have sq:=sw q
 case false.false.false.true=>
  have h:=Rp hp hq hm' (dF b) (dF a) (dT d) (dF c);grind
 case false.false.true.false=>
  have h:=Rp hp hq hm (dF a) (dF b) (dT c) (dF d);grind
 case false.false.true.true=>
  have h:=mid hp hq hm (dF a) (dF b) (dT c) (dT d);have h':=mid hp hq hm' (dF b) (dF a) (dT d) (dT c);grind
 case false.true.false.true=>
  have h:=P9 hp hq hm' (dT b) (dF a) (dT d) (dF c);grind
 case true.false.true.false=>
  have h:=P9 hp hq hm (dT a) (dF b) (dT c) (dF d);grind
 case false.true.true.true=>
  have h:=low hp hq hm' (dT b) (dF a) (dT d) (dT c);grind
 case true.false.true.true=>
  have h:=low hp hq hm (dT a) (dF b) (dT c) (dT d);grind
 case false.true.false.false=>grind
 case false.true.true.false=>grind
 case true.false.false.false=>grind
 case true.false.false.true=>grind
 case true.true.false.true=>grind
 grind
def Ki{e:S}(hp:0<p.d)(hq:0<q.d)(hy:p.y*q.d<=q.y*p.d)(hm:¬fR e p q):(hit p e !=hit q e)=(rgt p q e.a !=rgt p q e.b):=Xy hp hq hy hm
end
def cD(r:aD)(p:P3):Bool:=dh ((aJ r).map (hit p))
def uG(f g:S->Bool):∀l:List S,dh (l.map λe=>f e !=g e)=(dh (l.map f) !=dh (l.map g))
 |[] =>rfl
 |e::l=>by
  show((f e !=g e) !=dh (l.map λe=>f e !=g e))=((f e !=dh (l.map f)) !=(g e !=dh (l.map g)));rw[uG f g l];cases f e<;>cases g e<;>cases dh (l.map f)<;>cases dh (l.map g)<;>rfl
def tn{r:aD}(h2:2<=r.length){p q:P3}(hp:0<p.d)(hq:0<q.d)(hm:∀e∈aJ r,¬fR e p q):cD r p=cD r q:=by
 have key:∀{p q:P3},0<p.d->0<q.d->p.y*q.d<=q.y*p.d->(∀e∈aJ r,¬fR e p q)->cD r p=cD r q:=by
  intro p q hp hq hy hm;have h1:dh ((aJ r).map λe=>hit p e !=hit q e)=dh ((aJ r).map λe=>rgt p q e.a !=rgt p q e.b):=by
   congr 1
   apply iy;intro e he;exact Ki hp hq hy (hm e he)
  rw[uG,uG,EL h2]at h1;unfold cD;generalize dh ((aJ r).map (hit p))=x at*;generalize dh ((aJ r).map (hit q))=y at*;cases x<;>cases y<;>simp at h1|-
 rcases vJ (p.y*q.d) (q.y*p.d)with h|h
 .grind
 .exact(key hq hp h λe he hm2=>hm e he hm2.flip).symm
def Lq(p:Pt):∀(l:List S) (ins:Bool),p8 p l ins=(ins !=dh (l.map λe=>dY e p))
 |[],ins=>by cases ins<;>rfl
 |e::l,ins=>by
  show p8 p l (ins !=dY e p)=(ins !=(dY e p !=dh (l.map λe=>dY e p)));rw[Lq p l];simp_all
def NC{p:Pt}:∀{l:List S} {ins:Bool},(∀e∈l,onP e p=false)->dq p l ins=if p8 p l ins then 2 else 0
 |[],ins,_=>rfl
 |e::l,ins,h=>by
  unfold dq;rw[h e (by grind)];exact NC (l:=l) (ins:=ins !=dY e p) (by grind)
def p3(p:Pt):P3:=⟨p.x,p.y,p.den⟩
def Db{r:aD}(hv:VR r){p:Pt}(hp:dO p=true)(ho:∀e∈aJ r,onP e p=false):bY r p=if cD r (p3 p)then 2 else 0:=by unfold bY;rw[(gv _).2 hv,hp];show dq p (aJ r) false=_;rw[NC ho,Lq];unfold cD p3;simp only[X0,Bool.false_bne]
end Geo
end
namespace Geo
def qo(h p:P3):ev ⟨-h.x,-h.y,-h.d⟩ p= -ev h p:=by unfold ev;grind
def BM(k c:Int)(h p:P3):ev ⟨k*h.x,k*h.y,k*h.d+c⟩ p=k*ev h p+c*p.d:=by unfold ev;grind
def LW{u v:V}{p q:P3}(hp:0<p.d)(hq:0<q.d)(h:P3)(hu:ev h (pt u)=0)(hv:ev h (pt v)=0)(h1:ev h p<0)(h2:ev h q<0):∃f:P3,ev f p<0/\ev f q<0/\0<ev f (pt u)/\0<ev f (pt v):=by
 refine⟨⟨(p.d+q.d)*h.x,(p.d+q.d)*h.y,(p.d+q.d)*h.d+1⟩,?_,?_,?_,?_⟩<;>rw[BM]
 .have:=dg (show ev h p<= -1 by omega) (show 0<=p.d+q.d by omega);omega
 .have:=dg (show ev h q<= -1 by omega) (show 0<=p.d+q.d by omega);omega
 .rw[hu];show 0<(p.d+q.d)*0+1*1;omega
 .rw[hv];show 0<(p.d+q.d)*0+1*1;omega
def M9{u v:V}{p q:P3}(hp:0<p.d)(hq:0<q.d)(h:P3)(h1:ev h p=0)(h2:ev h q=0)(hu:0<ev h (pt u))(hv:0<ev h (pt v)):∃f:P3,ev f p<0/\ev f q<0/\0<ev f (pt u)/\0<ev f (pt v):=by
 refine⟨⟨2*h.x,2*h.y,2*h.d+ -1⟩,?_,?_,?_,?_⟩<;>rw[BM]
 .omega
 .omega
 .show 0<2*ev h (pt u)+ -1*1;omega
 .show 0<2*ev h (pt v)+ -1*1;omega
def aY(u v:V):P3:=⟨v.x-u.x,v.y-u.y,-((v.x-u.x)*u.x+(v.y-u.y)*u.y)⟩
def bj(u v:V):Int:=(v.x-u.x)*(v.x-u.x)+(v.y-u.y)*(v.y-u.y)
def kB(u v:V):ev (aY u v) (pt u)=0:=by unfold ev aY pt;grind
def pO(u v:V):ev (aY u v) (pt v)=bj u v:=by unfold ev aY pt bj;grind
def qL(x:Int):0<=x*x:=by
 rcases vJ 0 x with h|h
 .exact mpp h h
 .exact mnn h h
def A6{x:Int}(h:x≠0):0<x*x:=by
 rcases lK h with g|g
 .exact vG g g
 .exact bV g g
def iQ{u v:V}(h:u≠v):0<bj u v:=by
 unfold bj;have h1:=qL (v.x-u.x);have h2:=qL (v.y-u.y);by_cases hx:v.x-u.x=0
 .by_cases hy:v.y-u.y=0
  .exfalso;cases u;cases v;grind
  .have:=A6 hy;omega
 .have:=A6 hx;omega
def kT{u v:V}{r:P3}(h:ev (lin u v) r=0):cmb (bj u v*r.d-ev (aY u v) r) (pt u) (ev (aY u v) r) (pt v)=⟨bj u v*r.x,bj u v*r.y,bj u v*r.d⟩:=by unfold ev lin at h;unfold cmb ev aY pt bj;grind
def sep{u v:V}{p q:P3}(hp:0<p.d)(hq:0<q.d)(hne:u≠v)(hm:¬fR ⟨u,v⟩ p q):∃f:P3,ev f p<0/\ev f q<0/\0<ev f (pt u)/\0<ev f (pt v):=by
 have hd:=aCX u v p q;have m1:= @xy u v p q;have m2:= @Bl u v p q;have a1:=cG u v;have a2:=cZ u v;have b1:=Fk p q;have b2:=Ai p q;have L:=iQ hne;have T1:=kB u v;have T2:=pO u v;by_cases c1:0<ev (lin u v) p/\0<ev (lin u v) q
 .exact LW hp hq ⟨-(lin u v).x,-(lin u v).y,-(lin u v).d⟩ (by rw[qo];omega) (by rw[qo];omega) (by rw[qo];omega) (by rw[qo];omega)
 by_cases c2:ev (lin u v) p<0/\ev (lin u v) q<0
 .exact LW hp hq (lin u v) a1 a2 c2.1 c2.2
 by_cases c3:0<ev (ln p q) (pt u)/\0<ev (ln p q) (pt v)
 .exact M9 hp hq (ln p q) b1 b2 c3.1 c3.2
 by_cases c4:ev (ln p q) (pt u)<0/\ev (ln p q) (pt v)<0
 .exact M9 hp hq ⟨-(ln p q).x,-(ln p q).y,-(ln p q).d⟩ (by rw[qo];omega) (by rw[qo];omega) (by rw[qo];omega) (by rw[qo];omega)
 have hz:ev (lin u v) p=0/\ev (lin u v) q=0:=by
  have q1:ev (lin u v) p=0\/0<ev (lin u v) p\/ev (lin u v) p<0:=by omega
  have q2:ev (lin u v) q=0\/0<ev (lin u v) q\/ev (lin u v) q<0:=by omega
  have e1:∀{x k:Int},0<k->0<x->0<x*k:=λh1 h2=>bV h2 h1;have e2:∀{x k:Int},0<k->x<0->x*k<0:=λh1 h2=>lL h2 h1;have p1:= @e1 (ev (lin u v) p) q.d hq;have p2:= @e2 (ev (lin u v) p) q.d hq;have p3:= @e1 (ev (lin u v) q) p.d hp;have p4:= @e2 (ev (lin u v) q) p.d hp;have z1:ev (lin u v) p=0->ev (lin u v) p*q.d=0:=λh=>by grind
  have z2:ev (lin u v) q=0->ev (lin u v) q*p.d=0:=λh=>by grind
  have m1:0<=ev (lin u v) p->ev (lin u v) q<=0->0<=ev (ln p q) (pt v)->ev (ln p q) (pt u)<=0->¬ev (ln p q) (pt u)<ev (ln p q) (pt v):=by grind
  have m2:ev (lin u v) p<=0->0<=ev (lin u v) q->ev (ln p q) (pt v)<=0->0<=ev (ln p q) (pt u)->¬ev (ln p q) (pt v)<ev (ln p q) (pt u):=by grind
  generalize ev (lin u v) p*q.d=AQ at*;generalize ev (lin u v) q*p.d=BP at*;rcases q1 with h|h|h<;>rcases q2 with g|g|g<;>simp only[h,g,true_implies]at p1 p2 p3 p4 z1 z2<;>omega
 have op:=kT hz.1;have oq:=kT hz.2;generalize hTp:ev (aY u v) p=Tp at*;generalize hTq:ev (aY u v) q=Tq at*;generalize bj u v=K at*;have np:Tp<0\/K*p.d<Tp:=by refine eW λhn=> ?_;have hKp:=bV L hp;refine hm ⟨_,_,K,0,show 0<=K*p.d-Tp by omega,show 0<=Tp by omega,by omega,by omega,by omega,?_⟩;rw[op];unfold cmb;simp only[P3.mk.injEq];refine⟨?_,?_,?_⟩<;>omega
 have nq:Tq<0\/K*q.d<Tq:=by refine eW λhn=> ?_;have hKq:=bV L hq;refine hm ⟨_,_,0,K,show 0<=K*q.d-Tq by omega,show 0<=Tq by omega,by omega,by omega,by omega,?_⟩;rw[oq];unfold cmb;simp only[P3.mk.injEq];refine⟨?_,?_,?_⟩<;>omega
 have hKp:=bV L hp;have hKq:=bV L hq;have nu:¬(Tp<0/\0<Tq)/\¬(0<Tp/\Tq<0):=by
  unfold cmb pt at op oq;simp only[P3.mk.injEq]at op oq;refine⟨λh=> ?_,λh=> ?_⟩
  .have x1:=bV h.2 hKp;have x2:=lL h.1 hKq;refine hm ⟨Tq*(K*p.d)-Tp*(K*q.d),0,K*Tq,-(K*Tp),by omega,by omega,by omega,mpp (by omega) (by omega),by rw[<-mJ];exact mpp (by omega) (by omega),?_⟩;unfold cmb pt;grind
  .have x1:=bV h.1 hKq;have x2:=lL h.2 hKp;refine hm ⟨Tp*(K*q.d)-Tq*(K*p.d),0,-(K*Tq),K*Tp,by omega,by omega,by omega,by rw[<-mJ];exact mpp (by omega) (by omega),mpp (by omega) (by omega),?_⟩;unfold cmb pt;grind
 have up:0<(p.d+q.d)*K:=by grind
 by_cases hb:Tp<0
 .refine⟨⟨(p.d+q.d)*(aY u v).x,(p.d+q.d)*(aY u v).y,(p.d+q.d)*(aY u v).d+1⟩,?_,?_,?_,?_⟩<;>rw[BM]
  .rw[hTp];have:=dg (show Tp<= -1 by omega) (show 0<=p.d+q.d by omega);omega
  .rw[hTq];have:=dg (show Tq<= -1 by omega) (show 0<=p.d+q.d by omega);omega
  .rw[T1];show 0<(p.d+q.d)*0+1*1;omega
  .rw[T2];show 0<(p.d+q.d)*K+1*1;omega
 .have e1:∀r T:Int,(-(p.d+q.d))*T+((p.d+q.d)*K+1)*r=(p.d+q.d)*(K*r-T)+r:=by grind
  refine⟨⟨-(p.d+q.d)*(aY u v).x,-(p.d+q.d)*(aY u v).y,-(p.d+q.d)*(aY u v).d+((p.d+q.d)*K+1)⟩,?_,?_,?_,?_⟩<;>rw[BM]
  .rw[hTp,e1];have:=dg (show K*p.d-Tp<= -1 by omega) (show 0<=p.d+q.d by omega);omega
  .rw[hTq,e1];have:=dg (show K*q.d-Tq<= -1 by omega) (show 0<=p.d+q.d by omega);omega
  .rw[T1,e1];show 0<(p.d+q.d)*(K*1-0)+1;grind
  .rw[T2,e1];show 0<(p.d+q.d)*(K*1-K)+1;omega
def fS(F:List P3)(e:S):Prop:=∀x y:Int,0<=x->0<=y->0<x+y->∃f∈F,x*ev f (pt e.a)+y*ev f (pt e.b)<=0
def In(F:List P3)(q:P3):Prop:=0<q.d/\∀f∈F,0<ev f q
def fS.no{F:List P3}{e:S}(h:fS F e){p q:P3}(hp:In F p)(hq:In F q):¬fR e p q:=by
 rintro⟨x,y,s,t,h1,h2,h3,h4,h5,h6⟩;obtain⟨f,hf,g⟩:=h x y h1 h2 h3;have e1:=congrArg (ev f) h6;rw[ai,ai]at e1;have e2:=congrArg P3.d h6;simp only[cmb,pt]at e2;have g1:=mpp h4 (show 0<=ev f p by have:=hp.2 f hf;omega);have g2:=mpp h5 (show 0<=ev f q by have:=hq.2 f hf;omega);rcases bo 0 s with k|k
 .have:=bV k (hp.2 f hf);omega
 .rcases bo 0 t with k2|k2
  .have:=bV k2 (hq.2 f hf);omega
  grind
def fS.swap{F:List P3}{e:S}(h:fS F e):fS F ⟨e.b,e.a⟩:=λx y h1 h2 h3=>by obtain⟨f,hf,g⟩:=h y x h2 h1 (by omega);grind
def l5(a b:V)(N:Int):P3:=⟨(aY a b).x-N*(lin a b).x,(aY a b).y-N*(lin a b).y,(aY a b).d-N*(lin a b).d⟩
def thin(a b:V)(N:Int):List P3:=[lin a b,l5 a b N,⟨(aY b a).x-N*(lin a b).x,(aY b a).y-N*(lin a b).y,(aY b a).d-N*(lin a b).d⟩]
def ko(a b:V)(N:Int)(q:P3):ev (l5 a b N) q=ev (aY a b) q-N*ev (lin a b) q:=by unfold ev l5;grind
def nY(a b:V)(N:Int)(q:P3):ev ⟨(aY b a).x-N*(lin a b).x,(aY b a).y-N*(lin a b).y,(aY b a).d-N*(lin a b).d⟩ q=ev (aY b a) q-N*ev (lin a b) q:=by unfold ev;grind
def kw{a b:V}{N:Int}{q:P3}:In (thin a b N) q↔0<q.d/\0<ev (lin a b) q/\N*ev (lin a b) q<ev (aY a b) q/\N*ev (lin a b) q<ev (aY b a) q:=by unfold In thin;simp only[bO,cl,or_false,forall_eq_or_imp,forall_eq,ko,nY];omega
def Off(a b:V)(e:S):Prop:=e.a≠e.b/\(¬fR e (pt a) (pt b)\/(e.a=a/\(ev (lin a b) (pt e.b)≠0\/ev (aY a b) (pt e.b)<0))\/(e.b=a/\(ev (lin a b) (pt e.a)≠0\/ev (aY a b) (pt e.a)<0))\/
 (e.a=b/\(ev (lin a b) (pt e.b)≠0\/ev (aY b a) (pt e.b)<0))\/(e.b=b/\(ev (lin a b) (pt e.a)≠0\/ev (aY b a) (pt e.a)<0)))
def frame(a b:V)(f q:P3):bj a b*ev f q=ev (aY b a) q*ev f (pt a)+ev (aY a b) q*ev f (pt b)+ev (lin a b) q*(f.y*(b.x-a.x)-f.x*(b.y-a.y)):=by unfold ev aY bj lin pt;grind
def Fj{F:List P3}{e:S}(h:∀x y:Int,0<=x->0<=y->0<x+y->(∀f∈F,0<x*ev f (pt e.a)+y*ev f (pt e.b))->False):fS F e:=λx y h1 h2 h3=>
 by grind
def Wx{a b:V}(hne:a≠b){e:S}(he:e.a≠e.b)(h:¬fR e (pt a) (pt b)):∃N0:Int,∀N,N0<=N->fS (thin a b N) e:=by
 obtain⟨f,f1,f2,f3,f4⟩:=sep (u:=e.a) (v:=e.b) (p:=pt a) (q:=pt b) (show(0:Int)<1 by decide) (show(0:Int)<1 by decide) he h;refine⟨(f.y*(b.x-a.x)-f.x*(b.y-a.y)).natAbs,λN hN=>Fj λx y h1 h2 h3 hq=> ?_⟩;have hL:=iQ hne;have e1:∀g:P3,x*ev g (pt e.a)+y*ev g (pt e.b)=ev g (cmb x (pt e.a) y (pt e.b)):=λg=>(ai _ _ _ _ _).symm;have hfq:0<ev f (cmb x (pt e.a) y (pt e.b)):=by
  rw[<-e1];have g1:=mpp h1 (show 0<=ev f (pt e.a) by omega);have g2:=mpp h2 (show 0<=ev f (pt e.b) by omega);rcases bo 0 x with k|k
  .have:=bV k f3;omega
  .have:=bV (show 0<y by omega) f4;omega
 have hT:In (thin a b N) (cmb x (pt e.a) y (pt e.b)):=⟨by simp only[cmb,pt];omega,by grind⟩;obtain⟨_,t1,t2,t3⟩:=kw.1 hT;have hF:=frame a b f (cmb x (pt e.a) y (pt e.b));generalize ev (lin a b) (cmb x (pt e.a) y (pt e.b))=X at*;generalize ev (aY a b) (cmb x (pt e.a) y (pt e.b))=T at*;generalize ev (aY b a) (cmb x (pt e.a) y (pt e.b))=T' at*;generalize f.y*(b.x-a.x)-f.x*(b.y-a.y)=c at*;have p1:=bV hL hfq;have hN0:0<=N*X:=mpp (by omega) (by omega);have p2:T'*ev f (pt a)<= -T':=by have:=dg (show ev f (pt a)<= -1 by omega) (show 0<=T' by omega);omega
 have p3:T*ev f (pt b)<= -T:=by have:=dg (show ev f (pt b)<= -1 by omega) (show 0<=T by omega);omega
 have p4:X*c<=N*X:=by rw[fu N];exact dg (by omega) (by omega)
 omega
def F8{a b:V}{e:S}(h:e.a=a):∃N0:Int,∀N,N0<=N->fS (thin a b N) e:=by
 refine⟨(ev (aY a b) (pt e.b)).natAbs,λN hN x y h1 h2 h3=> ?_⟩;rw[h];by_cases hX:0<y*ev (lin a b) (pt e.b)
 .refine⟨l5 a b N,by simp[thin],?_⟩;have hv:0<ev (lin a b) (pt e.b):=by
   rcases bo 0 (ev (lin a b) (pt e.b))with k|k
   .exact k
   .have:=mpn h2 k;omega
  rw[ko,ko,kB,cG];have k1:=dg (show 1<=ev (lin a b) (pt e.b) by omega) (show 0<=N by omega);have k2:=mpn h2 (show ev (aY a b) (pt e.b)-N*ev (lin a b) (pt e.b)<=0 by omega);omega
 .refine⟨lin a b,by simp[thin],?_⟩;rw[cG];omega
def F7{a b:V}{e:S}(h:e.a=b):∃N0:Int,∀N,N0<=N->fS (thin a b N) e:=by
 refine⟨(ev (aY b a) (pt e.b)).natAbs,λN hN x y h1 h2 h3=> ?_⟩;rw[h];by_cases hX:0<y*ev (lin a b) (pt e.b)
 .refine⟨⟨(aY b a).x-N*(lin a b).x,(aY b a).y-N*(lin a b).y,(aY b a).d-N*(lin a b).d⟩,by simp[thin],?_⟩;have hv:0<ev (lin a b) (pt e.b):=by
   rcases bo 0 (ev (lin a b) (pt e.b))with k|k
   .exact k
   .have:=mpn h2 k;omega
  rw[nY,nY,kB,cZ];have k1:=dg (show 1<=ev (lin a b) (pt e.b) by omega) (show 0<=N by omega);have k2:=mpn h2 (show ev (aY b a) (pt e.b)-N*ev (lin a b) (pt e.b)<=0 by omega);omega
 .refine⟨lin a b,by simp[thin],?_⟩;rw[cZ];omega
def Wy{a b:V}(hne:a≠b){e:S}(h:Off a b e\/(e.a=a/\e.b=b)\/(e.a=b/\e.b=a)):∃N0:Int,∀N,N0<=N->fS (thin a b N) e:=by
 have sw:(∃N0:Int,∀N,N0<=N->fS (thin a b N) ⟨e.b,e.a⟩)->∃N0:Int,∀N,N0<=N->fS (thin a b N) e:=λ⟨N0,h⟩=>⟨N0,λN hN=>(h N hN).swap⟩;rcases h with⟨h0,h|h|h|h|h⟩|h|h
 .exact Wx hne h0 h
 .exact F8 h.1
 .exact sw (F8 (e:=⟨e.b,e.a⟩) h.1)
 .exact F7 h.1
 .exact sw (F7 (e:=⟨e.b,e.a⟩) h.1)
 .exact F8 h.1
 .exact F7 h.1
def LK{a b:V}(hne:a≠b):∀{l:List S},(∀e∈l,Off a b e\/(e.a=a/\e.b=b)\/(e.a=b/\e.b=a))->∃N0:Int,1<=N0/\∀N,N0<=N->∀e∈l,fS (thin a b N) e
 |[],_=>⟨1,by omega,by grind⟩
 |e::l,h=>by
  obtain⟨N0,h0,h1⟩:=LK hne (l:=l) (by grind);obtain⟨N1,h2⟩:=Wy hne (h e cE);refine⟨max N0 N1,by omega,λN hN e' he=> ?_⟩;grind
def ce(a b:V)(M x y:Int):P3:=⟨M*(a.x+b.x)+x,M*(a.y+b.y)+y,2*M⟩
def DZ(a b:V)(M x y:Int):ev (lin a b) (ce a b M x y)=(b.x-a.x)*y-(b.y-a.y)*x:=by unfold ev lin ce;grind
def YS(a b:V)(M x y:Int):ev (aY a b) (ce a b M x y)=M*bj a b+((b.x-a.x)*x+(b.y-a.y)*y):=by unfold ev aY ce bj;grind
def YR(a b:V)(M x y:Int):ev (aY b a) (ce a b M x y)=M*bj a b-((b.x-a.x)*x+(b.y-a.y)*y):=by unfold ev aY ce bj;grind
def zo(a b:V):bj b a=bj a b:=by unfold bj;grind
def DK(a b:V)(M x y:Int):ce b a M x y=ce a b M x y:=by unfold ce;grind
def nQ{a b:V}(hne:a≠b){x y:Int}(h:0<(b.x-a.x)*y-(b.y-a.y)*x)(N:Int):∃M0:Int,1<=M0/\∀M,M0<=M->In (thin a b N) (ce a b M x y):=by have hL:=iQ hne;refine⟨1+(N*((b.x-a.x)*y-(b.y-a.y)*x)).natAbs+((b.x-a.x)*x+(b.y-a.y)*y).natAbs,by omega,λM hM=> ?_⟩;rw[kw,DZ,YS,YR];have:=dg (show 1<=bj a b by omega) (show 0<=M by omega);refine⟨by show 0<2*M;omega,h,?_,?_⟩<;>omega
def Mn{g:S->Bool}{e:S}:∀{l:List S},l.Nodup->e∈l->g e=true->(∀e'∈l,e'≠e->g e'=false)->dh (l.map g)=true
 |[],_,h,_,_=>by cases h
 |x::l,hn,h,h1,h2=>by
  rw[List.nodup_cons]at hn;have h0:∀{l:List S},(∀e'∈l,g e'=false)->dh (l.map g)=false:=by
   intro l;induction l with
   |nil=>intro _;rfl
   |cons y l ih=>
    intro hh;show(g y !=dh (l.map g))=false;grind
  show(g x !=dh (l.map g))=true;rcases bO.1 h with rfl|h
  .grind
  .rw[h2 x (by grind) (by grind),Mn hn.2 h h1 (by grind)];rfl
def WQ{a b:V}{N:Int}(hN:0<=N){e:S}(ho:Off a b e)(h1:fS (thin a b N) e)(h2:fS (thin b a N) e){p q:P3}(hp:In (thin b a N) p)(hq:In (thin a b N) q):¬fR e p q:=by
 rintro⟨x,y,s,t,hx,hy,hxy,hs,ht,he⟩;obtain⟨p0,p1,p2,p3⟩:=kw.1 hp;obtain⟨q0,q1,q2,q3⟩:=kw.1 hq;have lsw:∀r:P3,ev (lin b a) r= -ev (lin a b) r:=λr=>jl a b r;rw[lsw]at p1 p2 p3;have ed:=congrArg P3.d he;simp only[cmb,pt]at ed;have eX:=congrArg (ev (lin a b)) he;have eA:=congrArg (ev (aY a b)) he;have eB:=congrArg (ev (aY b a)) he;rw[ai,ai]at eX eA eB;have hst:0<s\/0<t:=by
  refine eW λhn=> ?_;have:s=0:=by omega
  have:t=0:=by omega
  subst s t;omega
 have kpos:∀{u v:Int},0<u->0<v->0<s*u+t*v:=λ{u v} hu hv=>by
  have g1:=mpp hs (show 0<=u by omega);have g2:=mpp ht (show 0<=v by omega);rcases hst with k|k
  .have:=bV k hu;omega
  .have:=bV k hv;omega
 have nX:N*(-(ev (lin a b) p))= -(N*ev (lin a b) p):=by rw[mJ]
 have nn:0<=N* -(ev (lin a b) p):=mpp hN (by omega);have nq:0<=N*ev (lin a b) q:=mpp hN (by omega);have hA:=kpos (u:=ev (aY a b) p) (v:=ev (aY a b) q) (by omega) (by omega);have hB:=kpos (u:=ev (aY b a) p) (v:=ev (aY b a) q) (by omega) (by omega);have hA1:=kpos (u:=ev (aY a b) p-N*ev (lin a b) p) (v:=ev (aY a b) q-N*ev (lin a b) q) (by omega) (by omega);have hB1:=kpos (u:=ev (aY b a) p-N*ev (lin a b) p) (v:=ev (aY b a) q-N*ev (lin a b) q) (by omega) (by omega);have hA2:=kpos (u:=ev (aY a b) p+N*ev (lin a b) p) (v:=ev (aY a b) q+N*ev (lin a b) q) (by omega) (by omega);have hB2:=kpos (u:=ev (aY b a) p+N*ev (lin a b) p) (v:=ev (aY b a) q+N*ev (lin a b) q) (by omega) (by omega);have z1:∀(g:P3),x*ev g (pt e.a)+y*ev g (pt e.b)=s*ev g p+t*ev g q:=λg=>by have:=congrArg (ev g) he;rw[ai,ai]at this;exact this
 rcases vM (x*ev (lin a b) (pt e.a)+y*ev (lin a b) (pt e.b)) 0 with hX|hX|hX
 .obtain⟨f,hf,g⟩:=h2 x y hx hy hxy;rw[z1]at g;simp only[thin,bO,cl,or_false]at hf;rcases hf with rfl|rfl|rfl
  .rw[lsw,lsw,mJ,mJ]at g;omega
  .rw[ko,ko,lsw,lsw,mJ,mJ,Hy,Hy]at g;omega
  .rw[nY,nY,lsw,lsw,mJ,mJ,Hy,Hy]at g;omega
 .rcases ho with⟨_,h|⟨h,g⟩|⟨h,g⟩|⟨h,g⟩|⟨h,g⟩⟩
  .have hne:a≠b:=by grind
   have hL:=iQ hne;have hz:ev (lin a b) (cmb x (pt e.a) y (pt e.b))=0:=by rw[ai];exact hX
   have oz:=kT hz;have hab:ev (aY b a) (cmb x (pt e.a) y (pt e.b))=bj a b*(cmb x (pt e.a) y (pt e.b)).d-ev (aY a b) (cmb x (pt e.a) y (pt e.b)):=by unfold ev aY bj;grind
   rw[ai,eB]at hab;rw[ai,eA]at oz hab;refine h ⟨bj a b*x,bj a b*y,bj a b*(cmb x (pt e.a) y (pt e.b)).d-(s*ev (aY a b) p+t*ev (aY a b) q),s*ev (aY a b) p+t*ev (aY a b) q,mpp (by omega) hx,mpp (by omega) hy,by have:=bV hL hxy;grind,by omega,by omega,?_⟩;rw[oz];unfold cmb;grind
  .rw[h,cG]at hX;rw[h,kB]at eA;have hy0:0<y:=by
    rcases bo 0 y with k|k
    .exact k
    .grind
   have hv:ev (lin a b) (pt e.b)=0:=by
    have:y*ev (lin a b) (pt e.b)=0:=by omega
    rcases dd.1 this with k|k
    .omega
    .exact k
   have:=gQ hy0 (show ev (aY a b) (pt e.b)<0 by omega);omega
  .rw[h,cG]at hX;rw[h,kB]at eA;have hy0:0<x:=by
    rcases bo 0 x with k|k
    .exact k
    .grind
   have hv:ev (lin a b) (pt e.a)=0:=by
    have:x*ev (lin a b) (pt e.a)=0:=by omega
    rcases dd.1 this with k|k
    .omega
    .exact k
   have:=gQ hy0 (show ev (aY a b) (pt e.a)<0 by omega);omega
  .rw[h,cZ]at hX;rw[h,kB]at eB;have hy0:0<y:=by
    rcases bo 0 y with k|k
    .exact k
    .grind
   have hv:ev (lin a b) (pt e.b)=0:=by
    have:y*ev (lin a b) (pt e.b)=0:=by omega
    rcases dd.1 this with k|k
    .omega
    .exact k
   have:=gQ hy0 (show ev (aY b a) (pt e.b)<0 by omega);omega
  .rw[h,cZ]at hX;rw[h,kB]at eB;have hy0:0<x:=by
    rcases bo 0 x with k|k
    .exact k
    .grind
   have hv:ev (lin a b) (pt e.a)=0:=by
    have:x*ev (lin a b) (pt e.a)=0:=by omega
    rcases dd.1 this with k|k
    .omega
    .exact k
   have:=gQ hy0 (show ev (aY b a) (pt e.a)<0 by omega);omega
 .obtain⟨f,hf,g⟩:=h1 x y hx hy hxy;rw[z1]at g;simp only[thin,bO,cl,or_false]at hf;rcases hf with rfl|rfl|rfl
  .omega
  .rw[ko,ko]at g;omega
  .rw[nY,nY]at g;omega
def flip{r:aD}(h2:2<=r.length)(hn:(aJ r).Nodup){a b:V}(hne:a≠b)(he:(⟨a,b⟩:S)∈aJ r){N:Int}(hN:0<=N)
  (ho:∀e∈aJ r,e≠⟨a,b⟩->Off a b e/\fS (thin a b N) e/\fS (thin b a N) e):∃p q:P3,In (thin b a N) p/\In (thin a b N) q/\cD r p≠cD r q:=by
 have sum:∀{p q:P3},0<p.d->0<q.d->p.y*q.d<=q.y*p.d->(∀e∈aJ r,e≠⟨a,b⟩->¬fR e p q)->((hit p ⟨a,b⟩ !=hit q ⟨a,b⟩) !=(rgt p q a !=rgt p q b))=true->cD r p≠cD r q:=by
  intro p q hp hq hy hm hab;have h1:=Mn (g:=λe=>(hit p e !=hit q e) !=(rgt p q e.a !=rgt p q e.b)) hn he hab λe he hne=>by rw[Ki hp hq hy (hm e he hne)];grind
  rw[uG,uG,uG,EL h2]at h1;unfold cD;generalize dh ((aJ r).map (hit p))=x at*;generalize dh ((aJ r).map (hit q))=y at*;cases x<;>cases y<;>simp at h1|-
 have off:∀{p q:P3},In (thin b a N) p->In (thin a b N) q->∀e∈aJ r,e≠⟨a,b⟩->¬fR e p q:=λhp hq e he hne=>WQ hN (ho e he hne).1 (ho e he hne).2.1 (ho e he hne).2.2 hp hq;have hdn:∀(M x y:Int) (w:V),dn (ce a b M x y) w=decide (w.y*(2*M)<=M*(a.y+b.y)+y):=λ_ _ _ _=>rfl;have hln:∀(M:Int) (w:V),ev (ln (ce a b M 0 (-1)) (ce a b M 0 1)) (pt w)=2*M*(a.x+b.x-2*w.x):=λM w=>by unfold ev ln ce pt;grind
 have horiz:∀M:Int,1<=M->a.y=b.y->a.x≠b.x->((hit (ce a b M 0 (-1)) ⟨a,b⟩ !=hit (ce a b M 0 1) ⟨a,b⟩) !=(rgt (ce a b M 0 (-1)) (ce a b M 0 1) a !=rgt (ce a b M 0 (-1)) (ce a b M 0 1) b))=true:=by
  intro M hM hy hx;have e1:M*(a.y+b.y)=a.y*(2*M):=by rw[<-hy];grind
  have e2:M*(a.y+b.y)=b.y*(2*M):=by rw[hy];grind
  have a1:dn (ce a b M 0 (-1)) a=false:=by rw[hdn];grind
  have a2:dn (ce a b M 0 (-1)) b=false:=by rw[hdn];grind
  have a3:dn (ce a b M 0 1) a=true:=by rw[hdn];grind
  have a4:dn (ce a b M 0 1) b=true:=by rw[hdn];grind
  unfold hit rgt;dsimp only;rw[a1,a2,a3,a4,hln,hln];rcases lK hx with hx|hx
  .have p1:=bV (show 0<2*M by omega) (show 0<a.x+b.x-2*a.x by omega);grind
  .have p1:=gQ (show 0<2*M by omega) (show a.x+b.x-2*a.x<0 by omega);grind
 have ydec:∀M:Int,1<=M->(ce a b M 0 (-1)).y*(ce a b M 0 1).d<=(ce a b M 0 1).y*(ce a b M 0 (-1)).d:=λM hM=>by unfold ce;grind
 have vert:∀M x:Int,1<=M->a.y≠b.y->0<(b.x-a.x)*0-(b.y-a.y)*x->((hit (ce a b M (-x) 0) ⟨a,b⟩ !=hit (ce a b M x 0) ⟨a,b⟩) !=(rgt (ce a b M (-x) 0) (ce a b M x 0) a !=rgt (ce a b M (-x) 0) (ce a b M x 0) b))=true:=by
  intro M x hM hy hx;have hne':dn (ce a b M x 0) a≠dn (ce a b M x 0) b:=by
   rw[hdn,hdn];have e1:M*(a.y+b.y)-a.y*(2*M)=M*(b.y-a.y):=by grind
   have e2:M*(a.y+b.y)-b.y*(2*M)=M*(a.y-b.y):=by grind
   rcases lK hy with h|h
   .have p1:=bV (show 0<M by omega) (show 0<b.y-a.y by omega);grind
   .have p1:=gQ (show 0<M by omega) (show b.y-a.y<0 by omega);grind
  have same:∀w,dn (ce a b M (-x) 0) w=dn (ce a b M x 0) w:=λw=>by rw[hdn,hdn]
  unfold hit rgt;dsimp only;rw[same,same,DZ,DZ];rw[decide_eq_true hx,decide_eq_false (by grind)];revert hne';cases dn (ce a b M x 0) a<;>cases dn (ce a b M x 0) b<;>simp
 have hne2:b≠a:=by grind
 by_cases hy:a.y=b.y
 .have hx:a.x≠b.x:=λhx=>hne (by cases a;simp_all);rcases lK hx with hx'|hx'
  .obtain⟨M0,hM,hI⟩:=nQ hne (x:=0) (y:=1) (by omega) N;obtain⟨M1,hM1,hI1⟩:=nQ hne2 (x:=0) (y:= -1) (by omega) N;have i1:=hI (max M0 M1) (by omega);have i2:=hI1 (max M0 M1) (by omega);rw[DK]at i2;exact⟨_,_,i2,i1,sum i2.1 i1.1 (ydec _ (by omega)) (off i2 i1) (horiz _ (by omega) hy hx)⟩
  .obtain⟨M0,hM,hI⟩:=nQ hne (x:=0) (y:= -1) (by omega) N;obtain⟨M1,hM1,hI1⟩:=nQ hne2 (x:=0) (y:=1) (by omega) N;have i1:=hI (max M0 M1) (by omega);have i2:=hI1 (max M0 M1) (by omega);rw[DK]at i2;exact⟨_,_,i2,i1,λh=>sum i1.1 i2.1 (ydec _ (by omega)) (λe he hne hm=>off i2 i1 e he hne hm.flip) (horiz _ (by omega) hy hx) h.symm⟩
 .have go:∀x:Int,0<(b.x-a.x)*0-(b.y-a.y)*x->∃p q:P3,In (thin b a N) p/\In (thin a b N) q/\cD r p≠cD r q:=by intro x hx;obtain⟨M0,hM,hI⟩:=nQ hne (x:=x) (y:=0) hx N;obtain⟨M1,hM1,hI1⟩:=nQ hne2 (x:= -x) (y:=0) (by grind) N;have i1:=hI (max M0 M1) (by omega);have i2:=hI1 (max M0 M1) (by omega);rw[DK]at i2;exact⟨_,_,i2,i1,sum i2.1 i1.1 (iz _) (off i2 i1) (vert _ _ (by omega) hy hx)⟩
  rcases lK hy with h|h
  .exact go (-1) (by omega)
  .exact go 1 (by omega)
end Geo
section
namespace Geo
structure Net(W:List V)(side:V->V->Prop):Prop where
 symm:∀{a b},side a b->side b a
 ne:∀{a b},side a b->a≠b
 mem:∀{a b},side a b->a∈W
 clear:∀{a b v},side a b->v∈W->∀s t k:Int,0<=s->0<=t->cmb s (pt a) t (pt b)=cmb k (pt v) 0 (pt v)->0<k->v=a\/v=b
 apart:∀{a b c d},side a b->side c d->∀x y s t:Int,0<x->0<y->0<s->0<t->cmb x (pt a) y (pt b)=cmb s (pt c) t (pt d)->(a=c/\b=d)\/(a=d/\b=c)
def kU(x y:Int)(p q:P3):cmb x p y q=cmb y q x p:=by unfold cmb;grind
def u6{F G z g:P3}(h1:0<ev F z)(h2:0<ev G z)(h:ev F g<0\/ev G g<0):
  ∃s t:Int,0<s/\0<t/\((ev F (cmb s z t g)=0/\0<=ev G (cmb s z t g))\/(ev G (cmb s z t g)=0/\0<=ev F (cmb s z t g))):=by
 have i1:ev F (cmb (-(ev F g)) z (ev F z) g)=0:=by rw[ai,nH,fu];omega
 have i2:ev G (cmb (-(ev G g)) z (ev G z) g)=0:=by rw[ai,nH,fu];omega
 have i3:ev G (cmb (-(ev F g)) z (ev F z) g)= -ev F (cmb (-(ev G g)) z (ev G z) g):=by rw[ai,ai,nH,nH,fu (ev F z),fu (ev G z)];rw[fu (ev F g),fu (ev G g)];omega
 by_cases hF:ev F g<0
 .by_cases hG:0<=ev G (cmb (-(ev F g)) z (ev F z) g)
  .grind
  .have hg:ev G g<0:=by rw[ai]at hG;refine ki.1 λhn=>hG ?_;have:=mpp (show 0<= -(ev F g) by omega) (show 0<=ev G z by omega);have:=mpp (show 0<=ev F z by omega) hn;omega
   grind
 .refine⟨_,_,by omega,h2,.inr ⟨i2,?_⟩⟩;rw[ai];have:=mpp (show 0<= -(ev G g) by omega) (show 0<=ev F z by omega);have:=mpp (show 0<=ev G z by omega) (show 0<=ev F g by omega);omega
def Rz(a b c:V)(f q:P3):ev (lin a b) (pt c)*ev f q=ev (lin b c) q*ev f (pt a)+ev (lin c a) q*ev f (pt b)+ev (lin a b) q*ev f (pt c):=by unfold ev lin pt;grind
def E3(a b c:V)(q:P3):ev (lin a b) (pt c)*q.d=ev (lin b c) q+ev (lin c a) q+ev (lin a b) q:=by unfold ev lin pt;grind
def qf{a b c:V}{q:P3}(h:ev (lin a b) q=0):cmb (ev (lin b c) q) (pt a) (ev (lin c a) q) (pt b)=⟨ev (lin a b) (pt c)*q.x,ev (lin a b) (pt c)*q.y,ev (lin a b) (pt c)*q.d⟩:=by unfold ev lin at h;unfold cmb ev lin pt;grind
def gk(a b c:V):ev (lin b c) (pt a)=ev (lin a b) (pt c):=by unfold ev lin pt;grind
def uB{a b:V}{s t:Int}(ht:0<t)(h:cmb s (pt a) t (pt b)=cmb (s+t) (pt a) 0 (pt a)):b=a:=by
 unfold cmb pt at h;simp only[P3.mk.injEq]at h;have e1:t*(b.x-a.x)=0:=by grind
 have e2:t*(b.y-a.y)=0:=by grind
 cases a;cases b;rcases dd.1 e1 with k|k<;>rcases dd.1 e2 with k2|k2<;>first|omega|grind
section
variable {W:List V} {side:V->V->Prop}
def Net.same(H:Net W side){a b u v:V}(hab:side a b)(huv:side u v){x y s t:Int}(hx:0<x)(hy:0<y)(hs:0<=s)(ht:0<=t)(h:cmb x (pt u) y (pt v)=cmb s (pt a) t (pt b)):
  (u=a/\v=b)\/(u=b/\v=a):=by
 have hd:=congrArg P3.d h;simp only[cmb,pt]at hd;rcases bo 0 s with hs'|hs'
 .rcases bo 0 t with ht'|ht'
  .exact H.apart huv hab x y s t hx hy hs' ht' h
  .have t0:t=0:=by omega
   subst t0;have h':cmb x (pt u) y (pt v)=cmb s (pt a) 0 (pt a):=by rw[h];unfold cmb;simp
   rcases H.clear huv (H.mem hab) x y s (by omega) (by omega) h' hs' with e|e
   .exfalso;subst e;have:=uB (a:=a) (b:=v) (s:=x) hy (by grind);exact H.ne huv this.symm
   .exfalso;subst e;have:=uB (a:=a) (b:=u) (s:=y) hx (by rw[kU,h'];grind);exact H.ne huv this
 .have s0:s=0:=by omega
  subst s0;have h':cmb x (pt u) y (pt v)=cmb t (pt b) 0 (pt b):=by rw[h];unfold cmb;simp
  rcases H.clear huv (H.mem (H.symm hab)) x y t (by omega) (by omega) h' (by omega)with e|e
  .exfalso;subst e;have:=uB (a:=b) (b:=v) (s:=x) hy (by grind);exact H.ne huv this.symm
  .exfalso;subst e;have:=uB (a:=b) (b:=u) (s:=y) hx (by rw[kU,h'];grind);exact H.ne huv this
structure Corner(W:List V)(side:V->V->Prop)(a b c:V)(h:Int):Prop where
 ab:side a b
 ac:side a c
 left:0<ev (lin a b) (pt c)
 none:∀x,side a x->¬(0<ev (lin a b) (pt x)/\0<ev (lin c a) (pt x))
 low:0<=h
 top:∀w∈W,w≠a->0<=ev (lin a b) (pt w)->0<=ev (lin c a) (pt w)->ev (lin b c) (pt w)<=h
def over(b c:V)(h:Int):P3:=⟨(lin b c).x,(lin b c).y,(lin b c).d-h⟩
def ky(b c:V)(h:Int)(q:P3):ev (over b c h) q=ev (lin b c) q-h*q.d:=by unfold ev over;grind
def Corner.free(H:Net W side){a b c:V}{h:Int}(K:Corner W side a b c h){u v:V}(huv:side u v):fS [lin a b,lin c a,over b c h] ⟨u,v⟩:=by
 have key:∀{u v:V},side u v->∀x y:Int,0<=x->0<=y->0<x+y->0<ev (lin a b) (cmb x (pt u) y (pt v))->0<ev (lin c a) (cmb x (pt u) y (pt v))->0<ev (over b c h) (cmb x (pt u) y (pt v))->0<ev (over b c h) (pt u)->0<x->False:=by
  intro u v huv x y hx hy hxy h1 h2 h3 h4 hx0;have hη:0<ev (lin b c) (pt u):=by rw[ky]at h4;have:=K.low;simp only[pt]at h4|-;omega
  by_cases hin:0<=ev (lin a b) (pt u)/\0<=ev (lin c a) (pt u)
  .by_cases hua:u=a
   .subst hua;have:=K.none v huv;rw[ai,cG]at h1;rw[ai,cZ]at h2;refine this ⟨?_,?_⟩
    .rcases bo 0 (ev (lin u b) (pt v))with g|g
     .exact g
     .have:=mpn hy g;omega
    .rcases bo 0 (ev (lin c u) (pt v))with g|g
     .exact g
     .have:=mpn hy g;omega
   .have:=K.top u (H.mem huv) hua hin.1 hin.2;rw[ky]at h4;simp only[pt]at h4 this;omega
  .obtain⟨s,t,hs,ht,hp⟩:=u6 (F:=lin a b) (G:=lin c a) (z:=cmb x (pt u) y (pt v)) (g:=pt u) h1 h2 (by omega);have hover:0<ev (over b c h) (cmb s (cmb x (pt u) y (pt v)) t (pt u)):=by rw[ai];have:=bV hs h3;have:=bV ht h4;omega
   have hd:0<(cmb s (cmb x (pt u) y (pt v)) t (pt u)).d:=by simp only[cmb,pt];have:=bV hs hxy;grind
   have hη2:0<ev (lin b c) (cmb s (cmb x (pt u) y (pt v)) t (pt u)):=by rw[ky]at hover;have:=mpp K.low (show 0<=(cmb s (cmb x (pt u) y (pt v)) t (pt u)).d by omega);omega
   have hy0:0<y:=by
    rcases bo 0 y with g|g
    .exact g
    .have:y=0:=by omega
     subst y;rw[ai]at h1 h2;exfalso;apply hin;refine⟨?_,?_⟩
     .rcases bo (ev (lin a b) (pt u)) 0 with g|g
      .have:=gQ hx0 g;omega
      .exact g
     .rcases bo (ev (lin c a) (pt u)) 0 with g|g
      .have:=gQ hx0 g;omega
      .exact g
   have exp:cmb s (cmb x (pt u) y (pt v)) t (pt u)=cmb (s*x+t) (pt u) (s*y) (pt v):=by unfold cmb;simp only[P3.mk.injEq];refine⟨?_,?_,?_⟩<;>grind
   have w1:0<s*x+t:=by have:=bV hs hx0;omega
   have w2:0<s*y:=bV hs hy0;rw[exp]at hp hη2;have D:=K.left;have sc:∀{q:P3} {p1 p2:V} {m n:Int},cmb m (pt p1) n (pt p2)=⟨ev (lin a b) (pt c)*q.x,ev (lin a b) (pt c)*q.y,ev (lin a b) (pt c)*q.d⟩->∀{X Y:Int},q=cmb X (pt u) Y (pt v)->cmb (ev (lin a b) (pt c)*X) (pt u) (ev (lin a b) (pt c)*Y) (pt v)=cmb m (pt p1) n (pt p2):=by intro q p1 p2 m n hq X Y hXY;rw[hq,hXY];unfold cmb;simp only[P3.mk.injEq];refine⟨?_,?_,?_⟩<;>grind
   rcases hp with⟨g1,g2⟩|⟨g1,g2⟩
   .have:=sc (qf (c:=c) g1) rfl;rcases H.same K.ab huv (bV D w1) (bV D w2) (by omega) g2 this with⟨rfl,rfl⟩|⟨rfl,rfl⟩
    .rw[ai,cG,cZ]at h1;omega
    .rw[ai,cG,cZ]at h1;omega
   .have e0:ev (lin c a) (pt b)=ev (lin a b) (pt c):=(gk b c a).symm▸by rw[gk]
    have:=qf (a:=c) (b:=a) (c:=b) g1;rw[e0]at this;have:=sc this rfl;rcases H.same (H.symm K.ac) huv (bV D w1) (bV D w2) g2 (by omega) this with⟨rfl,rfl⟩|⟨rfl,rfl⟩
    .rw[ai,cG,cZ]at h2;omega
    .rw[ai,cG,cZ]at h2;omega
 refine Fj λx y hx hy hxy hq=> ?_;have e1:∀g:P3,x*ev g (pt u)+y*ev g (pt v)=ev g (cmb x (pt u) y (pt v)):=λg=>(ai _ _ _ _ _).symm;simp only[bO,cl,or_false,forall_eq_or_imp,forall_eq,e1]at hq;obtain⟨h1,h2,h3⟩:=hq;have h3':=h3;rw[ai]at h3';by_cases hu:0<x*ev (over b c h) (pt u)
 .have hx0:0<x:=by
   rcases bo 0 x with g|g
   .exact g
   .grind
  refine key huv x y hx hy hxy h1 h2 h3 ?_ hx0;rcases bo 0 (ev (over b c h) (pt u))with g|g
  .exact g
  .have:=mpn hx g;omega
 .have hy0:0<y:=by
   rcases bo 0 y with g|g
   .exact g
   .grind
  rw[kU]at h1 h2 h3;refine key (H.symm huv) y x hy hx (by omega) h1 h2 h3 ?_ hy0;rcases bo 0 (ev (over b c h) (pt v))with g|g
  .exact g
  .have:=mpn hy g;omega
end
end Geo
end
section
namespace Geo
structure Filled(W:List V)(side:V->V->Prop)(ins:P3->Bool):Prop where
 net:Net W side
 same:∀p q:P3,0<p.d->0<q.d->(∀u v,side u v->¬fR ⟨u,v⟩ p q)->ins p=ins q
 max:∀u∈W,∀w∈W,u≠w->(∀c d,side c d->∀x y s t:Int,0<=x->0<=y->0<s->0<t->cmb x (pt c) y (pt d)≠cmb s (pt u) t (pt w))->ins (cmb 1 (pt u) 1 (pt w))=true->side u w
 far:∃B:Int,0<=B/\∀q:P3,0<q.d->(B*q.d<q.x\/q.x< -(B*q.d)\/B*q.d<q.y\/q.y< -(B*q.d))->ins q=false
def Lft(ins:P3->Bool)(a b:V):Prop:=∃N0:Int,∀N,N0<=N->∀q,In (thin a b N) q->ins q=true
def BQ{α:Type}(f:α->Int):∀{l:List α},l≠[]->∃x∈l,∀y∈l,f y<=f x
 |[],h=>absurd rfl h
 |[x],_=>⟨x,by grind,by grind⟩
 |x::y::l,_=>by
  obtain⟨z,hz,h⟩:=BQ f (l:=y::l) (by simp);grind
section
variable {W:List V} {side:V->V->Prop} {ins:P3->Bool}
def Filled.const(H:Filled W side ins){F:List P3}(hF:∀u v,side u v->fS F ⟨u,v⟩){p q:P3}(hp:In F p)(hq:In F q):ins p=ins q:=
 H.same p q hp.1 hq.1 λu v huv=>(hF u v huv).no hp hq
def Lft.near{a b c:V}(hne:a≠b)(hL:Lft ins a b)(hc:0<ev (lin a b) (pt c)){h:Int}(hh:h<ev (lin a b) (pt c)):
  ∃q,In [lin a b,lin c a,over b c h] q/\ins q=true:=by
 obtain⟨N0,hN⟩:=hL;have hL2:=iQ hne;have e9:(b.x-a.x)*(b.x-a.x)-(b.y-a.y)* -(b.y-a.y)=bj a b:=by unfold bj;grind
 obtain⟨M0,hM0,hI⟩:=nQ hne (x:= -(b.y-a.y)) (y:=b.x-a.x) (by omega) (max N0 0);have e1:∀M:Int,ev (lin c a) (ce a b M (-(b.y-a.y)) (b.x-a.x))=M*ev (lin a b) (pt c)+ev (lin c a) ⟨-(b.y-a.y),b.x-a.x,0⟩:=λM=>by unfold ev lin ce pt;grind
 generalize hk:ev (lin c a) ⟨-(b.y-a.y),b.x-a.x,0⟩=k at e1;have hP:=hI (M0+k.natAbs) (by omega);have hβ:0<ev (lin c a) (ce a b (M0+k.natAbs) (-(b.y-a.y)) (b.x-a.x)):=by rw[e1];have:=dg (show 1<=ev (lin a b) (pt c) by omega) (show 0<=M0+(k.natAbs:Int) by omega);omega
 generalize ce a b (M0+k.natAbs) (-(b.y-a.y)) (b.x-a.x)=P at*;obtain⟨p0,p1,p2,p3⟩:=kw.1 hP;have e0:ev (lin b c) (pt a)=ev (lin a b) (pt c):=gk a b c;refine⟨cmb (1+(ev (over b c h) P).natAbs) (pt a) 1 P,⟨by simp only[cmb,pt];omega,?_⟩,hN (max N0 0) (by omega) _ ?_⟩
 .simp only[bO,cl,or_false,forall_eq_or_imp,forall_eq];refine⟨?_,?_,?_⟩
  .rw[ai,cG];omega
  .rw[ai,cZ];omega
  .rw[ai];have ho:1<=ev (over b c h) (pt a):=by rw[ky,e0];show 1<=ev (lin a b) (pt c)-h*1;omega
   have:=dg ho (show 0<=1+((ev (over b c h) P).natAbs:Int) by omega);omega
 .rw[kw,ai,ai,ai,cG,kB,pO,zo];have g1:=mpp (show 0<=1+((ev (over b c h) P).natAbs:Int) by omega) (show 0<=bj a b by omega);have g2:max N0 0*(1*ev (lin a b) P)=max N0 0*ev (lin a b) P:=by rw[Hz]
  refine⟨by simp only[cmb,pt];omega,by omega,?_,?_⟩<;>rw[dw,vN]at* <;>omega
def aAz{u v b c:V}{D p q r s:Int}(hD:D≠0)(g1:cmb p (pt b) q (pt c)=⟨D*u.x,D*u.y,D⟩)(g2:cmb r (pt b) s (pt c)=⟨D*v.x,D*v.y,D⟩):
  cmb r (pt u) (-p) (pt v)=cmb (q-s) (pt c) 0 (pt c)/\cmb (-s) (pt u) q (pt v)=cmb (q-s) (pt b) 0 (pt b):=by
 unfold cmb pt at*;simp only[P3.mk.injEq]at*;refine⟨⟨?_,?_,by omega⟩,⟨?_,?_,by omega⟩⟩<;>(apply mK hD;grind)
def ear(H:Filled W side ins){a b c:V}(hab:side a b)(hac:side a c)(hc:0<ev (lin a b) (pt c))(hn:∀x,side a x->¬(0<ev (lin a b) (pt x)/\0<ev (lin c a) (pt x)))(hL:Lft ins a b):
  (∀w∈W,0<=ev (lin a b) (pt w)->0<=ev (lin b c) (pt w)->0<=ev (lin c a) (pt w)->w=a\/w=b\/w=c)/\
  (∀u v,side u v->fS [lin a b,lin c a,over b c 0] ⟨u,v⟩)/\(∀q,In [lin a b,lin c a,over b c 0] q->ins q=true)/\side b c:=by
 have N:=H.net;have hne:=N.ne hab;by_cases hE:W.filter (λw=>decide (0<=ev (lin a b) (pt w))&&decide (0<=ev (lin b c) (pt w))&&decide (0<=ev (lin c a) (pt w))&&decide (w≠a)&&decide (w≠b)&&decide (w≠c))=[]
 case neg=>
  exfalso;obtain⟨w,hw,hmax⟩:=BQ (λw=>ev (lin b c) (pt w)) hE;simp only[fB,bm,decide_eq_true_eq]at hw hmax;obtain⟨hwW,⟨⟨⟨⟨⟨w1,w2⟩,w3⟩,w4⟩,w5⟩,w6⟩⟩:=hw;have K:Corner W side a b c (ev (lin b c) (pt w)):=by
   refine⟨hab,hac,hc,hn,w2,λw' hw' ha h1 h2=> ?_⟩;by_cases h3:ev (lin b c) (pt w')<=0
   .omega
   .refine hmax w' ⟨hw',⟨⟨⟨⟨⟨h1,by omega⟩,h2⟩,ha⟩,?_⟩,?_⟩⟩
    .rintro rfl;rw[cG]at h3;omega
    .rintro rfl;rw[cZ]at h3;omega
  have bs:=E3 a b c (pt w);have α0:ev (lin a b) (pt w)≠0:=λh0=>by
   have hb:=qf (c:=c) h0;rcases N.clear hab hwW (ev (lin b c) (pt w)) (ev (lin c a) (pt w)) (ev (lin a b) (pt c)) w2 w3 (by rw[hb];unfold cmb;simp) hc with e|e
   .exact w4 e
   .exact w5 e
  have β0:ev (lin c a) (pt w)≠0:=λh0=>by
   have hb:=qf (a:=c) (b:=a) (c:=b) h0;have e0:ev (lin c a) (pt b)=ev (lin a b) (pt c):=by unfold ev lin pt;grind
   rw[e0]at hb;rcases N.clear (N.symm hac) hwW (ev (lin a b) (pt w)) (ev (lin b c) (pt w)) (ev (lin a b) (pt c)) w1 w2 (by rw[hb];unfold cmb;simp) hc with e|e
   .exact w6 e
   .exact w4 e
  simp only[pt]at bs;have hlt:ev (lin b c) (pt w)<ev (lin a b) (pt c):=by simp only[pt]at*;omega
  have hfree:∀u v,side u v->fS _ ⟨u,v⟩:=λu v huv=>K.free N huv;have hin:∀s t:Int,0<s->0<t->In [lin a b,lin c a,over b c (ev (lin b c) (pt w))] (cmb s (pt a) t (pt w)):=by
   intro s t hs ht;refine⟨by simp only[cmb,pt];omega,?_⟩;simp only[bO,cl,or_false,forall_eq_or_imp,forall_eq];refine⟨?_,?_,?_⟩
   .rw[ai,cG];have:=bV ht (show 0<ev (lin a b) (pt w) by omega);omega
   .rw[ai,cZ];have:=bV ht (show 0<ev (lin c a) (pt w) by omega);omega
   .rw[ai,ky,ky,gk];have e1:ev (lin b c) (pt w)-ev (lin b c) (pt w)*(pt w).d=0:=by simp only[pt];omega
    have:=bV hs (show 0<ev (lin a b) (pt c)-ev (lin b c) (pt w)*(pt a).d by simp only[pt]at*;omega);simp_all
  obtain⟨q,hq,hqi⟩:=hL.near hne hc hlt;have hmid:ins (cmb 1 (pt a) 1 (pt w))=true:=by rw[H.const hfree (hin 1 1 (by omega) (by omega)) hq];exact hqi
  have haw:=H.max a (N.mem hab) w hwW (λe=>w4 e.symm) (λc' d' hcd x y s t hx hy hs ht he=>by obtain⟨f,hf,g⟩:=hfree c' d' hcd x y hx hy (by have:=congrArg P3.d he;simp only[cmb,pt]at this;omega);have:=(hin s t hs ht).2 f hf;rw[<-he,ai]at this;grind) hmid
  grind
 case pos=>
  have hv:∀w∈W,0<=ev (lin a b) (pt w)->0<=ev (lin b c) (pt w)->0<=ev (lin c a) (pt w)->w=a\/w=b\/w=c:=by
   intro w hw h1 h2 h3;refine eW λhne'=> ?_;have:w∈([] :List V):=by rw[<-hE];simp only[fB,bm,decide_eq_true_eq];refine⟨hw,⟨⟨⟨⟨⟨h1,h2⟩,h3⟩,?_⟩,?_⟩,?_⟩⟩<;>intro e<;>exact hne' (by simp[e])
   cases this
  have K:Corner W side a b c 0:=by
   refine⟨hab,hac,hc,hn,iz _,λw' hw' ha h1 h2=> ?_⟩;refine CP.1 λh3=> ?_;rcases hv w' hw' h1 (by omega) h2 with e|e|e
   .exact ha e
   .rw[e,cG]at h3;omega
   .rw[e,cZ]at h3;omega
  have hfree:∀u v,side u v->fS [lin a b,lin c a,over b c 0] ⟨u,v⟩:=λu v huv=>K.free N huv;obtain⟨q,hq,hqi⟩:=hL.near hne hc hc;have hins:∀q,In [lin a b,lin c a,over b c 0] q->ins q=true:=λq' hq'=>by rw[H.const hfree hq' hq];exact hqi
  refine⟨hv,hfree,hins,?_⟩;have hbc:b≠c:=λe=>by subst e;rw[cZ]at hc;omega
  have e1:ev (lin c a) (pt b)=ev (lin a b) (pt c):=by unfold ev lin pt;grind
  have bs:∀w:V,ev (lin a b) (pt c)=ev (lin b c) (pt w)+ev (lin c a) (pt w)+ev (lin a b) (pt w):=λw=>by have:=E3 a b c (pt w);simp only[pt]at this|-;omega
  refine eW λhns=> ?_;have hopen:∀c' d',side c' d'->∀x y s t:Int,0<=x->0<=y->0<s->0<t->cmb x (pt c') y (pt d')≠cmb s (pt b) t (pt c):=by
   intro u v huv x y s t hx hy hs ht he;have ed:=congrArg P3.d he;have eη:=congrArg (ev (lin b c)) he;have eα:=congrArg (ev (lin a b)) he;have eβ:=congrArg (ev (lin c a)) he;simp only[cmb,pt]at ed;rw[ai,ai,cG,cZ]at eη;rw[ai,ai,cZ]at eα;rw[ai,ai,cG,e1]at eβ;have p1:=bV ht hc;have p2:=bV hs hc;have novert:∀w,w∈W->∀k:Int,0<k->k*ev (lin a b) (pt w)=t*ev (lin a b) (pt c)->k*ev (lin c a) (pt w)=s*ev (lin a b) (pt c)->k*ev (lin b c) (pt w)=0->False:=by
    intro w hw k hk h1 h2 h3;have g1:0<ev (lin a b) (pt w):=by
     rcases bo 0 (ev (lin a b) (pt w))with g|g
     .exact g
     .have:=mpn (show 0<=k by omega) g;omega
    have g2:0<ev (lin c a) (pt w):=by
     rcases bo 0 (ev (lin c a) (pt w))with g|g
     .exact g
     .have:=mpn (show 0<=k by omega) g;omega
    have g3:ev (lin b c) (pt w)=0:=by
     rcases dd.1 h3 with g|g
     .omega
     .exact g
    rcases hv w hw (by omega) (by omega) (by omega)with e|e|e<;>subst e
    .rw[cG]at g1;omega
    .grind
    .grind
   have hx0:0<x:=by
    rcases bo 0 x with g|g
    .exact g
    .have:x=0:=by omega
     subst x;exact(novert v (N.mem (N.symm huv)) y (by omega) (by omega) (by omega) (by omega)).elim
   have hy0:0<y:=by
    rcases bo 0 y with g|g
    .exact g
    .have:y=0:=by omega
     subst y;exact(novert u (N.mem huv) x (by omega) (by omega) (by omega) (by omega)).elim
   have up:∀{u v:V} {x y:Int},side u v->0<x->0<y->x*ev (lin b c) (pt u)+y*ev (lin b c) (pt v)=0->0<x*ev (lin a b) (pt u)+y*ev (lin a b) (pt v)->0<x*ev (lin c a) (pt u)+y*ev (lin c a) (pt v)->¬0<ev (lin b c) (pt u):=by
    intro u v x y huv hx hy h1 h2 h3 h4;obtain⟨f,hf,g⟩:=hfree u v huv ((1+(ev (lin a b) (pt u)).natAbs+(ev (lin c a) (pt u)).natAbs)*x+1) ((1+(ev (lin a b) (pt u)).natAbs+(ev (lin c a) (pt u)).natAbs)*y) (by have:=mpp (show 0<=(1:Int)+(ev (lin a b) (pt u)).natAbs+(ev (lin c a) (pt u)).natAbs by omega) (show 0<=x by omega);omega) (mpp (by omega) (by omega)) (by have:=mpp (show 0<=(1:Int)+(ev (lin a b) (pt u)).natAbs+(ev (lin c a) (pt u)).natAbs by omega) (show 0<=x by omega);have:=mpp (show 0<=(1:Int)+(ev (lin a b) (pt u)).natAbs+(ev (lin c a) (pt u)).natAbs by omega) (show 0<=y by omega);omega);change (_*x+1)*ev f (pt u)+_*y*ev f (pt v)<=0 at g;have e2:∀K A B:Int,(K*x+1)*A+K*y*B=K*(x*A+y*B)+A:=λK A B=>by grind
    rw[e2]at g;simp only[bO,cl,or_false]at hf;rcases hf with rfl|rfl|rfl
    .have:=dg (show 1<=x*ev (lin a b) (pt u)+y*ev (lin a b) (pt v) by omega) (show 0<=(1:Int)+(ev (lin a b) (pt u)).natAbs+(ev (lin c a) (pt u)).natAbs by omega);omega
    .have:=dg (show 1<=x*ev (lin c a) (pt u)+y*ev (lin c a) (pt v) by omega) (show 0<=(1:Int)+(ev (lin a b) (pt u)).natAbs+(ev (lin c a) (pt u)).natAbs by omega);omega
    .have e3:∀w:V,ev (over b c 0) (pt w)=ev (lin b c) (pt w):=λw=>by rw[ky];omega
     rw[e3,e3,h1]at g;omega
   have uu:=up huv hx0 hy0 (by omega) (by omega) (by omega);have vv:=up (N.symm huv) hy0 hx0 (by omega) (by omega) (by omega);have s1:=mpn (show 0<=x by omega) (show ev (lin b c) (pt u)<=0 by omega);have s2:=mpn (show 0<=y by omega) (show ev (lin b c) (pt v)<=0 by omega);have u0:ev (lin b c) (pt u)=0:=by
    rcases dd.1 (show x*ev (lin b c) (pt u)=0 by omega)with g|g
    .omega
    .exact g
   have v0:ev (lin b c) (pt v)=0:=by
    rcases dd.1 (show y*ev (lin b c) (pt v)=0 by omega)with g|g
    .omega
    .exact g
   have out:∀w∈W,ev (lin b c) (pt w)=0->¬(0<ev (lin a b) (pt w)/\0<ev (lin c a) (pt w)):=by
    rintro w hw h0 ⟨h1,h2⟩;rcases hv w hw (by omega) (by omega) (by omega)with e|e|e<;>subst e
    .rw[cG]at h1;omega
    .grind
    .grind
   have ou:=out u (N.mem huv) u0;have ov:=out v (N.mem (N.symm huv)) v0;have bu:=bs u;have bv:=bs v;have fin:∀{u v:V},side u v->ev (lin b c) (pt u)=0->ev (lin b c) (pt v)=0->0<ev (lin a b) (pt u)->ev (lin c a) (pt u)<=0->0<ev (lin c a) (pt v)->ev (lin a b) (pt v)<=0->False:=by
    intro u v huv u0 v0 h1 h2 h3 h4;have bu:=bs u;have bv:=bs v;have D0:ev (lin a b) (pt c)≠0:=by omega
    have g1:=qf (a:=b) (b:=c) (c:=a) (q:=pt u) u0;have g2:=qf (a:=b) (b:=c) (c:=a) (q:=pt v) v0;rw[gk a b c]at g1 g2;have cc:=aAz (u:=u) (v:=v) D0 (g1.trans (by show(⟨_,_,ev (lin a b) (pt c)*1⟩:P3)=_;rw[yQ];rfl)) (g2.trans (by show(⟨_,_,ev (lin a b) (pt c)*1⟩:P3)=_;rw[yQ];rfl));have k1:c=u\/c=v:=N.clear huv (N.mem (N.symm hac)) (ev (lin c a) (pt v)) (-(ev (lin c a) (pt u))) (ev (lin a b) (pt u)-ev (lin a b) (pt v)) (by omega) (by omega) cc.1 (by omega);have k2:b=u\/b=v:=N.clear huv (N.mem (N.symm hab)) (-(ev (lin a b) (pt v))) (ev (lin a b) (pt u)) (ev (lin a b) (pt u)-ev (lin a b) (pt v)) (by omega) (by omega) cc.2 (by omega);rcases k1 with e|e<;>rcases k2 with e'|e'
    .grind
    .subst e e';exact hns (N.symm huv)
    .grind
    .grind
   by_cases hu:0<ev (lin a b) (pt u)
   .have:ev (lin c a) (pt u)<=0:=by omega
    have hvv:0<ev (lin c a) (pt v):=by
     rcases bo 0 (ev (lin c a) (pt v))with g|g
     .exact g
     .have:=mpn (show 0<=x by omega) this;have:=mpn (show 0<=y by omega) g;omega
    exact fin huv u0 v0 hu this hvv (by omega)
   .have hu':0<ev (lin c a) (pt u):=by omega
    have hvv:0<ev (lin a b) (pt v):=by
     rcases bo 0 (ev (lin a b) (pt v))with g|g
     .exact g
     .have:=mpn (show 0<=x by omega) (show ev (lin a b) (pt u)<=0 by omega);have:=mpn (show 0<=y by omega) g;omega
    exact fin (N.symm huv) v0 u0 hvv (by omega) hu' (by omega)
  refine hns (H.max b (N.mem (N.symm hab)) c (N.mem (N.symm hac)) hbc hopen ?_);rw[<-hqi];refine H.same _ _ (by simp only[cmb,pt];omega) hq.1 λu v huv hm=> ?_;obtain⟨x,y,s,t,hx,hy,hxy,hs,ht,he⟩:=hm;rcases bo 0 t with ht0|ht0
  .obtain⟨f,hf,g⟩:=hfree u v huv x y hx hy hxy;have eF:=congrArg (ev f) he;rw[ai,ai]at eF;change x*ev f (pt u)+y*ev f (pt v)<=0 at g;change x*ev f (pt u)+y*ev f (pt v)=_ at eF;have g1:=bV ht0 (hq.2 f hf);have g2:0<=s*ev f (cmb 1 (pt b) 1 (pt c)):=mpp hs (by
    simp only[bO,cl,or_false]at hf;rcases hf with rfl|rfl|rfl
    .rw[ai,cZ];omega
    .rw[ai,cG,e1];omega
    .rw[ai,ky,ky,cG,cZ];omega)
   omega
  .have t0:t=0:=by omega
   subst t0;have hs0:0<s:=by
    have:=congrArg P3.d he;simp only[cmb,pt]at this;rcases bo 0 s with g|g
    .exact g
    .omega
   refine hopen u v huv x y s s hx hy hs0 hs0 ?_;rw[show cmb x (pt u) y (pt v)=cmb s (cmb 1 (pt b) 1 (pt c)) 0 q from he];unfold cmb;grind
end
end Geo
end
section
namespace Geo
def As{α:Type}(f g:α->Int):∀{l:List α},l≠[]->(∀x∈l,0<g x)->∃x∈l,∀y∈l,f x*g y<=f y*g x
 |[],h,_=>absurd rfl h
 |[x],_,_=>⟨x,by grind,by grind⟩
 |x::y::l,_,hg=>by
  obtain⟨z,hz,h⟩:=As f g (l:=y::l) (by simp) (by grind);have gx:=hg x cE;have gz:=hg z (cB _ hz);by_cases hx:f x*g z<=f z*g x
  .refine⟨x,by grind,λw hw=> ?_⟩;rcases bO.1 hw with rfl|hw
   .omega
   .have gw:=hg w (cB _ hw);have h1:=h w hw;have e1:=lM hx (show 0<=g w by omega);have e2:=lM h1 (show 0<=g x by omega);have e3:(f x*g w)*g z<=(f w*g x)*g z:=by
     have a1:f x*g w*g z=f x*g z*g w:=by grind
     have a2:f w*g x*g z=f w*g z*g x:=by grind
     have a3:f z*g x*g w=f z*g w*g x:=by grind
     omega
    simp_all
  grind
def BF{a b:V}{P r:P3}(h:ev (ln (pt a) P) r=0)(f:P3):ev (lin a b) P*ev f r=(ev (lin a b) P*r.d-ev (lin a b) r*P.d)*ev f (pt a)+ev (lin a b) r*ev f P:=by unfold ev ln lin pt at*;grind
def Of{a b:V}{P r:P3}(h:ev (ln (pt a) P) r=0):cmb (ev (lin a b) P) r 0 r=cmb (ev (lin a b) P*r.d-ev (lin a b) r*P.d) (pt a) (ev (lin a b) r) P:=by unfold cmb ev ln lin pt at*;grind
def around{a b x:V}{P q:P3}:ev (lin a b) P*ev (lin a x) q=ev (lin a b) (pt x)*ev (ln (pt a) P) q-ev (lin a b) q*ev (ln (pt a) P) (pt x):=by unfold ev ln lin pt;grind
def fan{a b u:V}{P w:P3}:ev (ln (pt a) P) (pt u)*ev (lin a b) w=ev (lin u a) w*ev (lin a b) P+ev (ln (pt a) P) w*ev (lin a b) (pt u):=by unfold ev ln lin pt;grind
def WO(u v:V)(a:V)(P:P3)(f:P3):ev f (cmb (-(ev (ln (pt a) P) (pt v))) (pt u) (ev (ln (pt a) P) (pt u)) (pt v))=ev (lin u v) P*ev f (pt a)-ev (lin u v) (pt a)*ev f P:=by unfold ev cmb ln lin pt;grind
def AJ{u v:V}{p:P3}(h:ev (lin v u) p=0)(f:P3):bj v u*ev f p=(bj v u*p.d-ev (aY v u) p)*ev f (pt v)+ev (aY v u) p*ev f (pt u):=by have h1:=congrArg (ev f) (kT h);rw[ai]at h1;rw[h1];unfold ev;grind
def Oz{u v:V}(hne:u≠v){ρ q p:P3}(hq:ev (lin v u) q=0)(hp:ev (lin v u) p=0)(h0:ev ρ q=0)(f:P3):
  ev ρ (pt u)*q.d*ev f p=(ev ρ (pt u)*p.d-ev ρ p)*ev f q+ev ρ p*q.d*ev f (pt u):=by
 have hL:=iQ (u:=v) (v:=u) (by grind);have a1:=AJ hp f;have a2:=AJ hp ρ;have a3:=AJ hq f;have a4:=AJ hq ρ;generalize bj v u=L at*;have hL2:L*L≠0:=Int.mul_ne_zero (by omega) (by omega);apply mK hL2;grind
section
variable {W:List V} {side:V->V->Prop} {ins:P3->Bool}
structure Seen(W:List V)(side:V->V->Prop)(a b u v x:V)(P q:P3):Prop where
 net:Net W side
 pos:0<ev (lin a b) P
 thinR:∀w∈W,0<ev (lin a b) (pt w)->0<ev (ln (pt a) P) (pt w)
 uv:side u v
 ru:0<ev (ln (pt a) P) (pt u)
 rv:ev (ln (pt a) P) (pt v)<0
 au:0<ev (lin a b) (pt u)
 first:∀c d,side c d->0<ev (ln (pt a) P) (pt c)->ev (ln (pt a) P) (pt d)<0->∀p:P3,0<p.d->ev (ln (pt a) P) p=0->0<ev (lin a b) p->(∃x y:Int,0<x/\0<y/\p=cmb x (pt c) y (pt d))->ev (lin v u) p<=0
 ka:0<ev (lin v u) (pt a)
 mem:x∈W
 rx:0<ev (ln (pt a) P) (pt x)
 kx:0<=ev (lin v u) (pt x)
 ax:0<ev (lin a b) (pt x)
 ux:0<=ev (lin a x) (pt u)
 least:∀w∈W,0<ev (ln (pt a) P) (pt w)->0<=ev (lin v u) (pt w)->0<=ev (lin a w) (pt u)->0<=ev (lin a x) (pt w)/\(ev (lin a x) (pt w)=0->ev (lin a b) (pt x)<=ev (lin a b) (pt w))
 qd:0<q.d
 qr:ev (ln (pt a) P) q=0
 qk:ev (lin v u) q=0
 qa:0<ev (lin a b) q
 quv:∃x y:Int,0<x/\0<y/\q=cmb x (pt u) y (pt v)
def i8{a k:Int}(hk:0<k)(h:0<k*a):0<a:=by
 rcases bo 0 a with g|g
 .exact g
 .have:=mpn (show 0<=k by omega) g;omega
def wT{a k:Int}(hk:0<k)(h:k*a<0):a<0:=by
 rcases bo a 0 with g|g
 .exact g
 .have:=mpp (show 0<=k by omega) g;omega
def Seen.ang{a b u v x:V}{P q:P3}(_S:Seen W side a b u v x P q){w:V}(r:P3):ev (lin a b) P*ev (lin a w) r=ev (lin a b) (pt w)*ev (ln (pt a) P) r-ev (lin a b) r*ev (ln (pt a) P) (pt w):=around
def Seen.wedge{a b u v x:V}{P q:P3}(S:Seen W side a b u v x P q){c d:V}(hcd:side c d){x1 y1:Int}(hx1:0<x1)(hy1:0<=y1)
  (h1:0<ev (ln (pt a) P) (cmb x1 (pt c) y1 (pt d))) (h2:0<ev (lin v u) (cmb x1 (pt c) y1 (pt d))) (h3:ev (lin a x) (cmb x1 (pt c) y1 (pt d))<=0) (hc:ev (lin a x) (pt c)<0):False:=by
 have N:=S.net;have hap:=S.pos;have hvu:u≠v:=N.ne S.uv;by_cases hin:0<=ev (ln (pt a) P) (pt c)/\0<=ev (lin v u) (pt c)
 ·
  have e1:=S.ang (w:=x) (pt c);have n1:=gQ hap hc;have hr:0<ev (ln (pt a) P) (pt c):=by
   rcases bo 0 (ev (ln (pt a) P) (pt c))with g|g
   .exact g
   .have r0:ev (ln (pt a) P) (pt c)=0:=by omega
    have ac:ev (lin a b) (pt c)<=0:=by refine CP.1 λg2=> ?_;have:=S.thinR c (N.mem hcd) g2;omega
    rw[r0,dw]at e1;have:=mnp ac (show 0<=ev (ln (pt a) P) (pt x) by have:=S.rx;omega);omega
  have hac:0<ev (lin a b) (pt c):=by
   have p1:=bV S.ax hr;have p2:0<ev (lin a b) (pt c)*ev (ln (pt a) P) (pt x):=by omega
   rw[fu]at p2;exact i8 S.rx p2
  have eu:=S.ang (w:=x) (pt u);have ec:=S.ang (w:=c) (pt u);have m1:=mpp (show 0<=ev (lin a b) P by omega) S.ux;have key:0<=ev (lin a b) P*ev (lin a c) (pt u):=by
   rw[ec];have k1:ev (ln (pt a) P) (pt c)*ev (lin a b) (pt x)<ev (ln (pt a) P) (pt x)*ev (lin a b) (pt c):=by rw[fu (ev (ln (pt a) P) (pt c)),fu (ev (ln (pt a) P) (pt x))];omega
   have k2:ev (ln (pt a) P) (pt x)*ev (lin a b) (pt u)<=ev (ln (pt a) P) (pt u)*ev (lin a b) (pt x):=by rw[fu (ev (ln (pt a) P) (pt x)),fu (ev (ln (pt a) P) (pt u))];omega
   have k3:=DU (n1:=ev (ln (pt a) P) (pt c)) (d1:=ev (lin a b) (pt c)) (n2:=ev (ln (pt a) P) (pt x)) (d2:=ev (lin a b) (pt x)) (n3:=ev (ln (pt a) P) (pt u)) (d3:=ev (lin a b) (pt u)) hac S.ax S.au k1 k2;rw[fu (ev (lin a b) (pt c)),fu (ev (lin a b) (pt u))];omega
  have hsc:0<=ev (lin a c) (pt u):=nnl hap (by grind);have:=(S.least c (N.mem hcd) hr hin.2 hsc).1;omega
 .obtain⟨s,t,hs,ht,hp⟩:=u6 (F:=ln (pt a) P) (G:=lin v u) (z:=cmb x1 (pt c) y1 (pt d)) (g:=pt c) h1 h2 (by omega);have hd0:0<(cmb s (cmb x1 (pt c) y1 (pt d)) t (pt c)).d:=by simp only[cmb,pt];have:=mpp (show 0<=s by omega) (show 0<=x1*1+y1*1 by omega);omega
  have hγ:ev (lin a x) (cmb s (cmb x1 (pt c) y1 (pt d)) t (pt c))<0:=by rw[ai];have:=mpn (show 0<=s by omega) h3;have:=gQ ht hc;omega
  have hy0:0<y1:=by
   rcases bo 0 y1 with g|g
   .exact g
   .have:y1=0:=by omega
    subst y1;rw[ai,yP,nD]at h1 h2;exact(hin ⟨by have:=i8 hx1 h1;omega,by have:=i8 hx1 h2;omega⟩).elim
  have exp:cmb s (cmb x1 (pt c) y1 (pt d)) t (pt c)=cmb (s*x1+t) (pt c) (s*y1) (pt d):=by unfold cmb;simp only[P3.mk.injEq];refine⟨?_,?_,?_⟩<;>grind
  have w1:0<s*x1+t:=by have:=bV hs hx1;omega
  have w2:0<s*y1:=bV hs hy0;have hev:∀f,ev f (cmb s (cmb x1 (pt c) y1 (pt d)) t (pt c))=s*ev f (cmb x1 (pt c) y1 (pt d))+t*ev f (pt c):=λf=>ai _ _ _ _ _;have hr1:=hev (ln (pt a) P);generalize hpp:cmb s (cmb x1 (pt c) y1 (pt d)) t (pt c)=p at*;obtain⟨xq,yq,hxq,hyq,hq⟩:=S.quv;have clash:∀k m:Int,0<k->0<m->cmb k p 0 p=cmb m q 0 q->False:=by
   intro k m hk hm he;have:cmb (k*(s*x1+t)) (pt c) (k*(s*y1)) (pt d)=cmb (m*xq) (pt u) (m*yq) (pt v):=by rw[exp,hq]at he;unfold cmb at he|-;simp only[P3.mk.injEq]at he|-;refine⟨?_,?_,?_⟩<;>grind
   rcases N.apart hcd S.uv _ _ _ _ (bV hk w1) (bV hk w2) (bV hm hxq) (bV hm hyq) this with⟨rfl,rfl⟩|⟨rfl,rfl⟩
   .rw[ai,cG,cZ]at h2;omega
   .rw[ai,cG,cZ]at h2;omega
  have caseR:ev (ln (pt a) P) p=0->0<=ev (lin v u) p->False:=by
   intro g1 g2;have e1:=S.ang (w:=x) p;have n1:=gQ hap hγ;have hap':0<ev (lin a b) p:=by
    rw[g1,dw]at e1;have p2:0<ev (lin a b) p*ev (ln (pt a) P) (pt x):=by omega
    rw[fu]at p2;exact i8 S.rx p2
   have rz:=bV hs h1;have rc:ev (ln (pt a) P) (pt c)<0:=wT ht (by omega);have rd:0<ev (ln (pt a) P) (pt d):=by rw[ai]at h1;have:=gQ hx1 rc;exact i8 hy0 (by omega)
   have hf:=S.first d c (N.symm hcd) rd rc p hd0 g1 hap' ⟨s*y1,s*x1+t,w2,w1,by rw[exp,kU]⟩;have k0:ev (lin v u) p=0:=by omega
   have r1:=Of (a:=a) (b:=b) g1;have r2:=Of (a:=a) (b:=b) S.qr;have v1:=BF (a:=a) (b:=b) g1 (lin v u);have v2:=BF (a:=a) (b:=b) S.qr (lin v u);rw[k0,dw]at v1;rw[S.qk,dw]at v2;have hqa:=S.qa;have hka:=S.ka;have hqd:=S.qd;have cross:ev (lin a b) q*p.d=ev (lin a b) p*q.d:=by
    have e3:ev (lin a b) P*ev (lin v u) (pt a)*(ev (lin a b) q*p.d-ev (lin a b) p*q.d)=0:=by generalize ev (lin a b) P=A at*;generalize ev (lin v u) (pt a)=K at*;generalize ev (lin a b) q=aq at*;generalize ev (lin a b) p=ap at*;generalize ev (lin v u) P=KP at*;grind
    rcases dd.1 e3 with g|g
    .have:=bV hap hka;omega
    .omega
   refine clash (ev (lin a b) P*ev (lin a b) q) (ev (lin a b) P*ev (lin a b) p) (bV hap hqa) (bV hap hap') ?_;unfold cmb at r1 r2|-;simp only[P3.mk.injEq]at r1 r2|-;generalize ev (lin a b) P=A at*;generalize ev (lin a b) q=aq at*;generalize ev (lin a b) p=ap at*;refine⟨?_,?_,?_⟩<;>grind
  rcases hp with⟨g1,g2⟩|⟨g1,g2⟩
  .grind
  .by_cases hr0:ev (ln (pt a) P) p=0
   .grind
   .have hrp:0<ev (ln (pt a) P) p:=by omega
    have lq:=Oz hvu S.qk g1 S.qr (lin a x);have γq:ev (lin a x) q<0:=by have e1:=S.ang (w:=x) q;rw[S.qr,dw]at e1;have:=bV S.qa S.rx;exact wT hap (by omega)
    have hbet:0<ev (ln (pt a) P) (pt u)*p.d-ev (ln (pt a) P) p:=by refine ki.1 λhn=> ?_;have t1:=mnn hn (show ev (lin a x) q<=0 by omega);have t2:=mpp (mpp (show 0<=ev (ln (pt a) P) p by omega) (show 0<=q.d by have:=S.qd;omega)) S.ux;have t3:=gQ (bV S.ru S.qd) hγ;omega
    have lx:∀f,ev (ln (pt a) P) (pt u)*q.d*ev f p=(ev (ln (pt a) P) (pt u)*p.d-ev (ln (pt a) P) p)*ev f q+ev (ln (pt a) P) p*q.d*ev f (pt u):=λf=>Oz hvu S.qk g1 S.qr f;have cx:=lx ⟨1,0,0⟩;have cy:=lx ⟨0,1,0⟩;have cd:=lx ⟨0,0,1⟩;have ex:∀r:P3,ev ⟨1,0,0⟩ r=r.x:=λr=>by unfold ev;simp
    have ey:∀r:P3,ev ⟨0,1,0⟩ r=r.y:=λr=>by unfold ev;simp
    have ed:∀r:P3,ev ⟨0,0,1⟩ r=r.d:=λr=>by unfold ev;simp
    rw[ex,ex,ex]at cx;rw[ey,ey,ey]at cy;rw[ed,ed,ed]at cd;have hM:0<ev (ln (pt a) P) (pt u)*q.d:=bV S.ru S.qd;have hB:0<ev (ln (pt a) P) p*q.d:=bV hrp S.qd;generalize ev (ln (pt a) P) (pt u)*q.d=M at*;generalize ev (ln (pt a) P) (pt u)*p.d-ev (ln (pt a) P) p=A at*;generalize ev (ln (pt a) P) p*q.d=B at*;have:cmb (M*(s*x1+t)) (pt c) (M*(s*y1)) (pt d)=cmb (A*xq+B) (pt u) (A*yq) (pt v):=by rw[exp,hq]at cx cy cd;unfold cmb at*;simp only[P3.mk.injEq]at*;refine⟨?_,?_,?_⟩<;>grind
    rcases N.apart hcd S.uv _ _ _ _ (bV hM w1) (bV hM w2) (show 0<A*xq+B by have:=bV hbet hxq;omega) (bV hbet hyq) this with⟨rfl,rfl⟩|⟨rfl,rfl⟩
    .rw[ai,cG,cZ]at h2;omega
    .rw[ai,cG,cZ]at h2;omega
end
end Geo
end
section
namespace Geo
def Py{α:Type}(f:α->Int):∀l:List α,∃M:Int,0<=M/\∀x∈l,f x<=M/\ -M<=f x
 |[] =>⟨0,iz _,λx hx=>by cases hx⟩
 |x::l=>by
  obtain⟨M,h0,h⟩:=Py f l;refine⟨M+(f x).natAbs,by omega,λy hy=> ?_⟩;grind
section
variable {W:List V} {side:V->V->Prop} {ins:P3->Bool}
def Lft.start{a b:V}(hne:a≠b)(hL:Lft ins a b)(W:List V):∃(N:Int) (P:P3),0<=N/\In (thin a b N) P/\(∀q,In (thin a b N) q->ins q=true)/\∀w∈W,0<ev (lin a b) (pt w)->0<ev (ln (pt a) P) (pt w):=by
 obtain⟨N0,hN⟩:=hL;have hL2:=iQ hne;have e9:(b.x-a.x)*(b.x-a.x)-(b.y-a.y)* -(b.y-a.y)=bj a b:=by unfold bj;grind
 obtain⟨M0,hM0,hI⟩:=nQ hne (x:= -(b.y-a.y)) (y:=b.x-a.x) (by omega) (max N0 0);obtain⟨M1,hM1,hB⟩:=Py (λw=>ev (ln (pt a) ⟨-(b.y-a.y),b.x-a.x,0⟩) (pt w)) W;refine⟨max N0 0,ce a b (M0+M1) (-(b.y-a.y)) (b.x-a.x),by omega,hI _ (by omega),hN _ (by omega),λw hw h=> ?_⟩;have e1:∀M:Int,ev (ln (pt a) (ce a b M (-(b.y-a.y)) (b.x-a.x))) (pt w)=M*ev (lin a b) (pt w)+ev (ln (pt a) ⟨-(b.y-a.y),b.x-a.x,0⟩) (pt w):=λM=>by unfold ev ln lin ce pt;grind
 rw[e1];have:=hB w hw;have h2:=dg (show 1<=ev (lin a b) (pt w) by omega) (show 0<=M0+M1 by omega);omega
def ZO(a w u:V):ev (lin u a) (pt w)=ev (lin a w) (pt u):=by unfold ev lin pt;grind
open Classical in
def see(H:Filled W side ins){a b:V}(hab:side a b)(hL:Lft ins a b):
  ∃(N:Int) (u v x:V) (P q:P3),0<=N/\In (thin a b N) P/\(∀q,In (thin a b N) q->ins q=true)/\Seen W side a b u v x P q:=by
 have Nt:=H.net;have hne:=Nt.ne hab;obtain⟨N,P,hN0,hP,hin,hW⟩:=hL.start hne W;obtain⟨p0,p1,p2,p3⟩:=kw.1 hP;have hray:ev (ln (pt a) P) P=0:=Ai _ _;have hra:ev (ln (pt a) P) (pt a)=0:=Fk _ _;obtain⟨B,hB0,hB⟩:=H.far;have hfar:∃T:Int,0<=T/\ins (cmb (-(T*P.d)) (pt a) (T+1) P)=false:=by
  have hd:∀T:Int,(cmb (-(T*P.d)) (pt a) (T+1) P).d=P.d:=λT=>by simp only[cmb,pt];grind
  have hx:∀T:Int,(cmb (-(T*P.d)) (pt a) (T+1) P).x=P.x+T*(P.x-a.x*P.d):=λT=>by simp only[cmb,pt];grind
  have hy:∀T:Int,(cmb (-(T*P.d)) (pt a) (T+1) P).y=P.y+T*(P.y-a.y*P.d):=λT=>by simp only[cmb,pt];grind
  have hB2:=mpp hB0 (show 0<=P.d by omega);refine⟨1+B*P.d+P.x.natAbs+P.y.natAbs,by omega,hB _ (by simp_all) ?_⟩;rw[hd,hx,hy];have hδ:P.x-a.x*P.d≠0\/P.y-a.y*P.d≠0:=by
   refine eW λhn=> ?_;have h1:P.x=a.x*P.d:=by omega
   have h2:P.y=a.y*P.d:=by omega
   have:ev (lin a b) P=0:=by unfold ev lin;rw[h1,h2];grind
   omega
  have grow:∀δ:Int,0<δ->1+B*P.d+P.x.natAbs+P.y.natAbs<=(1+B*P.d+P.x.natAbs+P.y.natAbs)*δ:=λδ h=>by have:=dg (show 1<=δ by omega) (show 0<=1+B*P.d+(P.x.natAbs:Int)+(P.y.natAbs:Int) by omega);omega
  rcases hδ with h|h
  .rcases lK h with g|g
   .have:=grow (-(P.x-a.x*P.d)) (by omega);grind
   .have:=grow _ g;omega
  .rcases lK h with g|g
   .have:=grow (-(P.y-a.y*P.d)) (by omega);grind
   .have:=grow _ g;omega
 obtain⟨T,hT0,hT⟩:=hfar;have hTd:(cmb (-(T*P.d)) (pt a) (T+1) P).d=P.d:=by simp only[cmb,pt];grind
 have hcross:∃c d,side c d/\0<ev (ln (pt a) P) (pt c)/\ev (ln (pt a) P) (pt d)<0/\0<ev (lin a b) (cmb (-(ev (ln (pt a) P) (pt d))) (pt c) (ev (ln (pt a) P) (pt c)) (pt d)):=by
  refine eW λhn=> ?_;have hs:ins P=ins (cmb (-(T*P.d)) (pt a) (T+1) P):=by
   refine H.same _ _ p0 (by omega) λc d hcd hm=> ?_;obtain⟨x,y,s,t,hx,hy,hxy,hs,ht,he⟩:=hm;have eρ:=congrArg (ev (ln (pt a) P)) he;have eα:=congrArg (ev (lin a b)) he;have ed:=congrArg P3.d he;rw[ai,ai,ai,hray,hra]at eρ;rw[ai,ai,ai,cG,dw,vN]at eα;rw[dw,dw,dw,nD,dw,nD]at eρ;dsimp only at eρ eα;have hst:0<s\/0<t:=by
    simp only[cmb,pt]at ed;refine eW λh0=> ?_;have:s=0:=by omega
    have:t=0:=by omega
    subst s t;omega
   have hα:0<x*ev (lin a b) (pt c)+y*ev (lin a b) (pt d):=by
    have g1:=mpp hs (show 0<=ev (lin a b) P by omega);have g2:=mpp ht (show 0<=(T+1)*ev (lin a b) P from mpp (by omega) (by omega));rcases hst with k|k
    .have:=bV k p1;omega
    .have:=bV k (bV (show 0<T+1 by omega) p1);omega
   have hρ:x*ev (ln (pt a) P) (pt c)+y*ev (ln (pt a) P) (pt d)=0:=by omega
   have nv:∀w,w∈W->ev (ln (pt a) P) (pt w)<=0->ev (lin a b) (pt w)<=0:=λw hw h=>by grind
   have hcW:=Nt.mem hcd;have hdW:=Nt.mem (Nt.symm hcd);rcases vM (ev (ln (pt a) P) (pt c)) 0 with h1|h1|h1
   .have a1:=nv c hcW (by omega);have m1:=mpn hx a1;have hy0:0<y:=by
     rcases bo 0 y with g|g
     .exact g
     .grind
    have a2:0<ev (lin a b) (pt d):=i8 hy0 (by omega);have r2:=hW d hdW a2;refine hn ⟨d,c,Nt.symm hcd,r2,h1,?_⟩;rw[ai];have hx0:0<x:=by
     rcases bo 0 x with g|g
     .exact g
     .have:x=0:=by omega
      subst x;have:=bV hy0 r2;omega
    refine i8 hx0 ?_;have e2:x*(-(ev (ln (pt a) P) (pt c))*ev (lin a b) (pt d)+ev (ln (pt a) P) (pt d)*ev (lin a b) (pt c))=ev (ln (pt a) P) (pt d)*(x*ev (lin a b) (pt c)+y*ev (lin a b) (pt d)):=by generalize ev (ln (pt a) P) (pt c)=rc at*;generalize ev (ln (pt a) P) (pt d)=rd at*;generalize ev (lin a b) (pt c)=ac at*;generalize ev (lin a b) (pt d)=ad at*;grind
    rw[e2];exact bV r2 hα
   .have a1:=nv c hcW (by omega);have m1:=mpn hx a1;rw[h1]at hρ;have hy0:0<y:=by
     rcases bo 0 y with g|g
     .exact g
     .grind
    have r0:ev (ln (pt a) P) (pt d)=0:=by
     rcases dd.1 (show y*ev (ln (pt a) P) (pt d)=0 by omega)with g|g
     .omega
     .exact g
    have a2:=nv d hdW (by omega);have:=mpn hy a2;omega
   .by_cases hx0:0<x
    .have r2:ev (ln (pt a) P) (pt d)<0:=by have:=bV hx0 h1;refine ki.1 λg=> ?_;have:=mpp hy g;omega
     have hy0:0<y:=by
      rcases bo 0 y with g|g
      .exact g
      .have:y=0:=by omega
       subst y;have:=bV hx0 h1;omega
     refine hn ⟨c,d,hcd,h1,r2,?_⟩;rw[ai];refine i8 hy0 ?_;have e2:y*(-(ev (ln (pt a) P) (pt d))*ev (lin a b) (pt c)+ev (ln (pt a) P) (pt c)*ev (lin a b) (pt d))=ev (ln (pt a) P) (pt c)*(x*ev (lin a b) (pt c)+y*ev (lin a b) (pt d)):=by generalize ev (ln (pt a) P) (pt c)=rc at*;generalize ev (ln (pt a) P) (pt d)=rd at*;generalize ev (lin a b) (pt c)=ac at*;generalize ev (lin a b) (pt d)=ad at*;grind
     rw[e2];exact bV h1 hα
    .have x0:x=0:=by omega
     subst x;have hy0:0<y:=by omega
     have r0:ev (ln (pt a) P) (pt d)=0:=by
      rcases dd.1 (show y*ev (ln (pt a) P) (pt d)=0 by omega)with g|g
      .omega
      .exact g
     have a2:=nv d hdW (by omega);have:=mpn hy a2;omega
  rw[hin P hP,hT]at hs;cases hs
 have hl:((W.flatMap λc=>W.map λd=>(c,d)).filter λq=>decide (side q.1 q.2/\0<ev (ln (pt a) P) (pt q.1)/\ev (ln (pt a) P) (pt q.2)<0/\0<ev (lin a b) (cmb (-(ev (ln (pt a) P) (pt q.2))) (pt q.1) (ev (ln (pt a) P) (pt q.1)) (pt q.2))))≠[] :=by obtain⟨c,d,h1,h2⟩:=hcross;exact H0 (fB.2 ⟨dI.2 ⟨c,Nt.mem h1,bM.2 ⟨d,Nt.mem (Nt.symm h1),rfl⟩⟩,decide_eq_true ⟨h1,h2⟩⟩)
 obtain⟨⟨u,v⟩,huv,hmin⟩:=As (λq:V×V=>ev (lin a b) (cmb (-(ev (ln (pt a) P) (pt q.2))) (pt q.1) (ev (ln (pt a) P) (pt q.1)) (pt q.2))) (λq:V×V=>ev (ln (pt a) P) (pt q.1)-ev (ln (pt a) P) (pt q.2)) hl λq hq=>by grind
 have hs:=of_decide_eq_true (fB.1 huv).2;dsimp only at hs hmin;obtain⟨suv,ru,rv,aq⟩:=hs;have uW:=Nt.mem suv;have vW:=Nt.mem (Nt.symm suv);have qd:(cmb (-(ev (ln (pt a) P) (pt v))) (pt u) (ev (ln (pt a) P) (pt u)) (pt v)).d=ev (ln (pt a) P) (pt u)-ev (ln (pt a) P) (pt v):=by show-(ev (ln (pt a) P) (pt v))*1+ev (ln (pt a) P) (pt u)*1=_;omega
 have qr:ev (ln (pt a) P) (cmb (-(ev (ln (pt a) P) (pt v))) (pt u) (ev (ln (pt a) P) (pt u)) (pt v))=0:=by rw[ai,nH,fu];omega
 have qk:ev (lin v u) (cmb (-(ev (ln (pt a) P) (pt v))) (pt u) (ev (ln (pt a) P) (pt u)) (pt v))=0:=by rw[ai,cG,cZ];omega
 have ka:0<ev (lin v u) (pt a):=by have:=WO u v a P (lin a b);rw[this,cG,dw,Int.zero_sub,<-nH]at aq;rw[jl];rw[fu]at aq;exact i8 p1 aq
 have av:ev (lin a b) (pt v)<=0:=by refine CP.1 λg=> ?_;have:=hW v vW g;omega
 have au:0<ev (lin a b) (pt u):=by rw[ai]at aq;have:=mpn (show 0<=ev (ln (pt a) P) (pt u) by omega) av;exact i8 (show 0< -(ev (ln (pt a) P) (pt v)) by omega) (by omega)
 have αX:∀w:V,0<ev (ln (pt a) P) (pt w)->0<=ev (lin a w) (pt u)->0<ev (lin a b) (pt w):=λw h1 h2=>by have:=fan (a:=a) (b:=b) (u:=u) (P:=P) (w:=pt w);rw[ZO a w u]at this;have g1:=mpp h2 (show 0<=ev (lin a b) P by omega);have g2:=bV h1 au;exact i8 ru (by omega)
 have hX:(W.filter λw=>decide (0<ev (ln (pt a) P) (pt w))&&decide (0<=ev (lin v u) (pt w))&&decide (0<=ev (lin a w) (pt u)))≠[] :=by refine H0 (a:=u) (fB.2 ⟨uW,?_⟩);rw[decide_eq_true ru,cZ,cZ];rfl
 have memX:∀{w:V},w∈(W.filter λw=>decide (0<ev (ln (pt a) P) (pt w))&&decide (0<=ev (lin v u) (pt w))&&decide (0<=ev (lin a w) (pt u)))↔(w∈W/\0<ev (ln (pt a) P) (pt w)/\0<=ev (lin v u) (pt w)/\0<=ev (lin a w) (pt u)):=λ{w}=>by grind
 obtain⟨x1,hx1,hm1⟩:=As (λw:V=>ev (ln (pt a) P) (pt w)) (λw:V=>ev (lin a b) (pt w)) hX λw hw=>by grind
 have ang:∀w r:V,ev (lin a b) P*ev (lin a w) (pt r)=ev (lin a b) (pt w)*ev (ln (pt a) P) (pt r)-ev (lin a b) (pt r)*ev (ln (pt a) P) (pt w):=λw r=>around;have hX2:((W.filter λw=>decide (0<ev (ln (pt a) P) (pt w))&&decide (0<=ev (lin v u) (pt w))&&decide (0<=ev (lin a w) (pt u))).filter λw=>decide (ev (lin a x1) (pt w)=0))≠[] :=
  H0 (a:=x1) (fB.2 ⟨hx1,by rw[cZ];rfl⟩)
 obtain⟨x,hx2,hm2⟩:=BQ (λw:V=> -(ev (lin a b) (pt w))) hX2;obtain⟨hx,hx0⟩:=fB.1 hx2;have hx0:ev (lin a x1) (pt x)=0:=of_decide_eq_true hx0;obtain⟨xW,xr,xk,xs⟩:=memX.1 hx;obtain⟨x1W,x1r,x1k,x1s⟩:=memX.1 hx1;have ax:=αX x xr xs;have ax1:=αX x1 x1r x1s;have eq1:ev (lin a b) (pt x1)*ev (ln (pt a) P) (pt x)=ev (lin a b) (pt x)*ev (ln (pt a) P) (pt x1):=by have:=ang x1 x;rw[hx0,dw]at this;omega
 refine⟨N,u,v,x,P,_,hN0,hP,hin,Nt,p1,hW,suv,ru,rv,au,?_,ka,xW,xr,xk,ax,xs,?_,by omega,qr,qk,aq,⟨_,_,by omega,ru,rfl⟩⟩
 .intro c d hcd rc rd p hpd hpr hpa ⟨x',y',hx',hy',hp⟩;have cW:=Nt.mem hcd;have dW:=Nt.mem (Nt.symm hcd);have eρ:=hpr;rw[hp,ai]at eρ;have prop:∀f:P3,ev (ln (pt a) P) (pt c)*ev f p=y'*ev f (cmb (-(ev (ln (pt a) P) (pt d))) (pt c) (ev (ln (pt a) P) (pt c)) (pt d)):=λf=>by rw[hp,ai,ai];grind
  have pα:=prop (lin a b);have pd:=prop ⟨0,0,1⟩;have ed:∀r:P3,ev ⟨0,0,1⟩ r=r.d:=λr=>by unfold ev;simp
  rw[ed,ed]at pd;have cd':(cmb (-(ev (ln (pt a) P) (pt d))) (pt c) (ev (ln (pt a) P) (pt c)) (pt d)).d=ev (ln (pt a) P) (pt c)-ev (ln (pt a) P) (pt d):=by show-(ev (ln (pt a) P) (pt d))*1+ev (ln (pt a) P) (pt c)*1=_;omega
  have hca:0<ev (lin a b) (cmb (-(ev (ln (pt a) P) (pt d))) (pt c) (ev (ln (pt a) P) (pt c)) (pt d)):=
   i8 hy' (by rw[<-pα];exact bV rc hpa)
  have hm:=hmin (c,d) (fB.2 ⟨dI.2 ⟨c,cW,bM.2 ⟨d,dW,rfl⟩⟩,decide_eq_true ⟨hcd,rc,rd,hca⟩⟩);dsimp only at hm;rw[<-cd',<-qd]at hm;have v1:=BF (a:=a) (b:=b) hpr (lin v u);have v2:=BF (a:=a) (b:=b) qr (lin v u);rw[qk,dw]at v2;have hqd:0<(cmb (-(ev (ln (pt a) P) (pt v))) (pt u) (ev (ln (pt a) P) (pt u)) (pt v)).d:=by rw[qd];omega
  generalize cmb (-(ev (ln (pt a) P) (pt v))) (pt u) (ev (ln (pt a) P) (pt u)) (pt v)=q at*;generalize cmb (-(ev (ln (pt a) P) (pt d))) (pt c) (ev (ln (pt a) P) (pt c)) (pt d)=q' at*;refine CP.1 λhk=> ?_;have e3:ev (lin a b) P*(ev (lin a b) q*ev (lin v u) p)=ev (lin a b) P*(ev (lin v u) (pt a)*(ev (lin a b) q*p.d-ev (lin a b) p*q.d)):=by generalize ev (lin a b) P=A at*;generalize ev (lin v u) (pt a)=K at*;generalize ev (lin a b) q=aq' at*;generalize ev (lin a b) p=ap at*;generalize ev (lin v u) P=KP at*;generalize ev (lin v u) p=kp at*;grind
  have e4:=mK (show ev (lin a b) P≠0 by omega) e3;have g1:=bV aq hk;have g2:0<ev (lin a b) q*p.d-ev (lin a b) p*q.d:=i8 ka (by omega);have g3:=dg hm (show 0<=y' by omega);have g4:ev (ln (pt a) P) (pt c)*(ev (lin a b) q*p.d-ev (lin a b) p*q.d)<=0:=by
   have a1:ev (ln (pt a) P) (pt c)*(ev (lin a b) q*p.d-ev (lin a b) p*q.d)=ev (lin a b) q*(ev (ln (pt a) P) (pt c)*p.d)-(ev (ln (pt a) P) (pt c)*ev (lin a b) p)*q.d:=by grind
   rw[a1,pα,pd];have a2:ev (lin a b) q*(y'*q'.d)=y'*(ev (lin a b) q*q'.d):=by grind
   have a3:y'*ev (lin a b) q'*q.d=y'*(ev (lin a b) q'*q.d):=by grind
   rw[a2,a3];omega
  have:=bV rc g2;omega
 .intro w wW wr wk ws;have hw:=memX.2 ⟨wW,wr,wk,ws⟩;have aw:=αX w wr ws;have h1:=hm1 w hw;have e1:=ang x w;have e2:ev (lin a b) (pt x1)*(ev (lin a b) (pt x)*ev (ln (pt a) P) (pt w)-ev (lin a b) (pt w)*ev (ln (pt a) P) (pt x))=ev (lin a b) (pt x)*(ev (ln (pt a) P) (pt w)*ev (lin a b) (pt x1)-ev (ln (pt a) P) (pt x1)*ev (lin a b) (pt w)):=by generalize ev (lin a b) (pt x1)=A1 at*;generalize ev (lin a b) (pt x)=A at*;generalize ev (lin a b) (pt w)=Aw at*;generalize ev (ln (pt a) P) (pt x1)=R1 at*;generalize ev (ln (pt a) P) (pt x)=R at*;generalize ev (ln (pt a) P) (pt w)=Rw at*;grind
  constructor
  .have g:=mpp (show 0<=ev (lin a b) (pt x) by omega) (show 0<=ev (ln (pt a) P) (pt w)*ev (lin a b) (pt x1)-ev (ln (pt a) P) (pt x1)*ev (lin a b) (pt w) by omega);rw[<-e2]at g;have g2:0<=ev (lin a b) (pt x)*ev (ln (pt a) P) (pt w)-ev (lin a b) (pt w)*ev (ln (pt a) P) (pt x):=by rw[fu]at g;exact nnl ax1 g
   rw[<-e1]at g2;rw[fu]at g2;exact nnl p1 g2
  .intro h0;rw[h0,dw]at e1;rw[<-e1,dw]at e2;have z:ev (ln (pt a) P) (pt w)*ev (lin a b) (pt x1)-ev (ln (pt a) P) (pt x1)*ev (lin a b) (pt w)=0:=by
    rcases dd.1 e2.symm with g|g
    .omega
    .exact g
   have e3:=ang x1 w;have z2:ev (lin a x1) (pt w)=0:=by
    have:ev (lin a b) P*ev (lin a x1) (pt w)=0:=by rw[e3,fu (ev (lin a b) (pt x1)),fu (ev (lin a b) (pt w))];exact z
    rcases dd.1 this with g|g
    .omega
    .exact g
   grind
def xS{a b x w:V}(h0:ev (lin a x) (pt w)=0)(f:P3):ev (lin a b) (pt x)*ev f (pt w)=(ev (lin a b) (pt x)-ev (lin a b) (pt w))*ev f (pt a)+ev (lin a b) (pt w)*ev f (pt x):=by unfold ev lin pt at*;grind
def aBi{a b x c d:V}(hA:ev (lin a b) (pt x)≠0)(c0:ev (lin a x) (pt c)=0)(d0:ev (lin a x) (pt d)=0):
  cmb (ev (lin a b) (pt d)) (pt c) (-(ev (lin a b) (pt c))) (pt d)=cmb (ev (lin a b) (pt d)-ev (lin a b) (pt c)) (pt a) 0 (pt a):=by
 have rc1:=xS (b:=b) c0 ⟨1,0,0⟩;have rc2:=xS (b:=b) c0 ⟨0,1,0⟩;have rd1:=xS (b:=b) d0 ⟨1,0,0⟩;have rd2:=xS (b:=b) d0 ⟨0,1,0⟩;have ex:∀w:V,ev ⟨1,0,0⟩ (pt w)=w.x:=λw=>by unfold ev pt;simp
 have ey:∀w:V,ev ⟨0,1,0⟩ (pt w)=w.y:=λw=>by unfold ev pt;simp
 rw[ex,ex,ex]at rc1 rd1;rw[ey,ey,ey]at rc2 rd2;clear c0 d0 ex ey;generalize ev (lin a b) (pt x)=A at*;generalize ev (lin a b) (pt c)=C at*;generalize ev (lin a b) (pt d)=D at*;unfold cmb pt;simp only[P3.mk.injEq];refine⟨?_,?_,by omega⟩
 .apply mK hA;grind
 .apply mK hA;grind
def XO{a x c d:V}{z:P3}{x1 y1 s:Int}(he:cmb x1 (pt c) y1 (pt d)=cmb s (cmb 1 (pt a) 1 (pt x)) 0 z):cmb x1 (pt c) y1 (pt d)=cmb s (pt a) s (pt x):=by rw[he];unfold cmb;grind
def VG(H:Filled W side ins){a b:V}(hab:side a b)(hL:Lft ins a b):∃x,side a x/\0<ev (lin a b) (pt x):=by
 have Nt:=H.net;have hne:=Nt.ne hab;refine eW λhno=> ?_;obtain⟨N,u,v,x,P,q,hN0,hP,hin,S⟩:=see H hab hL;obtain⟨p0,p1,p2,p3⟩:=kw.1 hP;have hra:ev (ln (pt a) P) (pt a)=0:=Fk _ _;have hka:=S.ka;have hax:=S.ax;have hrx:=S.rx;have hkx:=S.kx;have hane:a≠x:=λe=>by grind
 have vr:∀s t:Int,0<s->0<t->0<ev (ln (pt a) P) (cmb s (pt a) t (pt x)):=λs t hs ht=>by rw[ai,hra];have:=bV ht hrx;omega
 have vk:∀s t:Int,0<s->0<t->0<ev (lin v u) (cmb s (pt a) t (pt x)):=λs t hs ht=>by rw[ai];have:=bV hs hka;have:=mpp (show 0<=t by omega) hkx;omega
 have vg:∀s t:Int,ev (lin a x) (cmb s (pt a) t (pt x))=0:=λs t=>by rw[ai,cG,cZ];omega
 have tie:∀w∈W,ev (lin a x) (pt w)=0->0<ev (lin a b) (pt w)->0<=ev (lin v u) (pt w)->ev (lin a b) (pt x)<=ev (lin a b) (pt w):=by
  intro w hw h0 h1 h2;have e1:=S.ang (w:=x) (pt w);rw[h0,dw]at e1;have rw':0<ev (ln (pt a) P) (pt w):=S.thinR w hw h1;have eu:=S.ang (w:=x) (pt u);have ew:=S.ang (w:=w) (pt u);have m1:=mpp (show 0<=ev (lin a b) P by omega) S.ux;have e2:ev (lin a b) (pt x)*(ev (lin a b) (pt w)*ev (ln (pt a) P) (pt u)-ev (lin a b) (pt u)*ev (ln (pt a) P) (pt w))=ev (lin a b) (pt w)*(ev (lin a b) (pt x)*ev (ln (pt a) P) (pt u)-ev (lin a b) (pt u)*ev (ln (pt a) P) (pt x)):=by generalize ev (lin a b) (pt x)=A at*;generalize ev (lin a b) (pt w)=Aw at*;generalize ev (ln (pt a) P) (pt x)=R at*;generalize ev (ln (pt a) P) (pt w)=Rw at*;generalize ev (ln (pt a) P) (pt u)=Ru at*;generalize ev (lin a b) (pt u)=Au at*;grind
  have g1:=mpp (show 0<=ev (lin a b) (pt w) by omega) (show 0<=ev (lin a b) (pt x)*ev (ln (pt a) P) (pt u)-ev (lin a b) (pt u)*ev (ln (pt a) P) (pt x) by omega);rw[<-e2,fu]at g1;have g2:=nnl hax g1;rw[<-ew,fu]at g2;exact(S.least w hw rw' h2 (nnl p1 g2)).2 h0
 have hopen:∀c d,side c d->∀x1 y1 s t:Int,0<=x1->0<=y1->0<s->0<t->cmb x1 (pt c) y1 (pt d)≠cmb s (pt a) t (pt x):=by
  intro c d hcd x1 y1 s t hx1 hy1 hs ht he;have zr:=vr s t hs ht;have zk:=vk s t hs ht;have zg:=vg s t;have ed:=congrArg P3.d he;simp only[cmb,pt]at ed;have eα:=congrArg (ev (lin a b)) he;rw[ai,ai,cG]at eα;have m1:=bV ht hax;rw[<-he]at zr zk zg;have hz:=zg;rw[ai]at hz;have n1:¬(0<x1/\ev (lin a x) (pt c)<0):=λ⟨h1,h2⟩=>S.wedge hcd h1 hy1 zr zk (by omega) h2;have n2:¬(0<y1/\ev (lin a x) (pt d)<0):=λ⟨h1,h2⟩=>by rw[kU]at zr zk zg;exact S.wedge (Nt.symm hcd) h1 hx1 zr zk (by omega) h2
  have t1:0<=x1*ev (lin a x) (pt c):=by
   rcases bo 0 x1 with g|g
   .exact mpp hx1 (by omega)
   .grind
  have t2:0<=y1*ev (lin a x) (pt d):=by
   rcases bo 0 y1 with g|g
   .exact mpp hy1 (by omega)
   .grind
  have kr:=zk;rw[ai]at kr;have alone:∀{w:V} {k:Int},w∈W->0<k->k*ev (lin a x) (pt w)=0->k*ev (lin a b) (pt w)=t*ev (lin a b) (pt x)->0<k*ev (lin v u) (pt w)->k=s+t->False:=by
   intro w k hw hk h1 h2 h3 h4;have g0:ev (lin a x) (pt w)=0:=by
    rcases dd.1 h1 with g|g
    .omega
    .exact g
   have:=tie w hw g0 (i8 hk (by omega)) (by have:=i8 hk h3;omega);have q1:=dg this (show 0<=k by omega);rw[h2,h4,rI]at q1;have:=bV hs hax;omega
  by_cases hx0:x1=0
  .subst x1;exact alone (Nt.mem (Nt.symm hcd)) (show 0<y1 by omega) (by omega) (by omega) (by omega) (by omega)
  by_cases hy0:y1=0
  .subst y1;exact alone (Nt.mem hcd) (show 0<x1 by omega) (by omega) (by omega) (by omega) (by omega)
  have c0:ev (lin a x) (pt c)=0:=by
   rcases dd.1 (show x1*ev (lin a x) (pt c)=0 by omega)with g|g
   .omega
   .exact g
  have d0:ev (lin a x) (pt d)=0:=by
   rcases dd.1 (show y1*ev (lin a x) (pt d)=0 by omega)with g|g
   .omega
   .exact g
  have fin:∀{c d:V} {x1 y1:Int},side c d->0<x1->0<y1->ev (lin a x) (pt c)=0->ev (lin a x) (pt d)=0->x1*ev (lin a b) (pt c)+y1*ev (lin a b) (pt d)=t*ev (lin a b) (pt x)->x1+y1=s+t->ev (lin a b) (pt c)<=ev (lin a b) (pt d)->False:=by
   intro c d x1 y1 hcd hx1 hy1 c0 d0 hs1 hs2 hle;have hca:c≠a:=λe=>by subst e;rw[cG]at hs1;exact hno ⟨d,hcd,i8 hy1 (by omega)⟩
   have hda:d≠a:=λe=>by subst e;rw[cG]at hs1;exact hno ⟨c,Nt.symm hcd,i8 hx1 (by omega)⟩
   rcases bo 0 (ev (lin a b) (pt c))with g|g
   ·
    have hlt:ev (lin a b) (pt c)<ev (lin a b) (pt x):=by
     have q1:=dg hle (show 0<=y1 by omega);have q2:(s+t)*ev (lin a b) (pt c)<=t*ev (lin a b) (pt x):=by rw[<-hs2,rI];omega
     have q3:=bV hs hax;refine ki.1 λh=> ?_;have q4:=dg h (show 0<=s+t by omega);have q5:(s+t)*ev (lin a b) (pt x)=s*ev (lin a b) (pt x)+t*ev (lin a b) (pt x):=rI _ _ _;omega
    have hk:0<=ev (lin v u) (pt c):=by have r:=xS (b:=b) c0 (lin v u);have q1:=mpp (show 0<=ev (lin a b) (pt x)-ev (lin a b) (pt c) by omega) (show 0<=ev (lin v u) (pt a) by omega);have q2:=mpp (show 0<=ev (lin a b) (pt c) by omega) hkx;exact nnl hax (by grind)
    have:=tie c (Nt.mem hcd) c0 g hk;omega
   ·
    have hd:0<ev (lin a b) (pt d):=by have:=mpn (show 0<=x1 by omega) g;exact i8 hy1 (by omega)
    have k:a=c\/a=d:=Nt.clear hcd (Nt.mem hab) (ev (lin a b) (pt d)) (-(ev (lin a b) (pt c))) (ev (lin a b) (pt d)-ev (lin a b) (pt c)) (by omega) (by omega) (aBi (by omega) c0 d0) (by omega);grind
  rcases vJ (ev (lin a b) (pt c)) (ev (lin a b) (pt d))with h|h
  .exact fin (x1:=x1) (y1:=y1) hcd (by omega) (by omega) c0 d0 (by omega) (by omega) h
  .exact fin (x1:=y1) (y1:=x1) (Nt.symm hcd) (by omega) (by omega) d0 c0 (by omega) (by omega) h
 have hG:∀c d,side c d->fS [ln (pt a) P,lin x a,lin v u] ⟨c,d⟩:=by
  intro c d hcd;refine Fj λx1 y1 hx1 hy1 hxy hq=> ?_;have e1:∀g:P3,x1*ev g (pt c)+y1*ev g (pt d)=ev g (cmb x1 (pt c) y1 (pt d)):=λg=>(ai _ _ _ _ _).symm;simp only[bO,cl,or_false,forall_eq_or_imp,forall_eq,e1]at hq;obtain⟨h1,h2,h3⟩:=hq;rw[jl]at h2;have h2':=h2;rw[ai]at h2';by_cases hc:x1*ev (lin a x) (pt c)<0
  .have hx0:0<x1:=by
    rcases bo 0 x1 with g|g
    .exact g
    .grind
   exact S.wedge hcd hx0 hy1 h1 h3 (by omega) (wT hx0 hc)
  .have hd:y1*ev (lin a x) (pt d)<0:=by omega
   have hy0:0<y1:=by
    rcases bo 0 y1 with g|g
    .exact g
    .grind
   rw[kU]at h1 h2 h3;exact S.wedge (Nt.symm hcd) hy0 hx1 h1 h3 (by omega) (wT hy0 hd)
 have hγP:ev (lin a x) P<0:=by have:=S.ang (w:=x) P;rw[show ev (ln (pt a) P) P=0 from Ai _ _,dw]at this;have:=bV p1 hrx;exact wT p1 (by omega)
 have hL2:=iQ hne;have hpt:∃z,In [ln (pt a) P,lin x a,lin v u] z/\In (thin a b N) z:=by
  let K:Int:=1+(ev (l5 a b N) (pt x)).natAbs
  have hK:0<K:=by show 0<1+((ev (l5 a b N) (pt x)).natAbs:Int);omega
  have hKdef:ev (l5 a b N) (pt x)<=K-1/\ -(K-1)<=ev (l5 a b N) (pt x):=by show _<=1+((ev (l5 a b N) (pt x)).natAbs:Int)-1/\_;omega
  have hFa:1<=ev (l5 a b N) P:=by rw[ko];omega
  generalize K=K at*;obtain⟨M,hM⟩:∃M:Int,0<=M/\0<M*ev (lin v u) (pt a)+(K*ev (lin v u) P+ev (lin v u) (pt x))/\0<M*bj a b+(K*(ev (aY b a) P-N*ev (lin a b) P)+(ev (aY b a) (pt x)-N*ev (lin a b) (pt x))):=by
   refine⟨1+(K*ev (lin v u) P+ev (lin v u) (pt x)).natAbs+(K*(ev (aY b a) P-N*ev (lin a b) P)+(ev (aY b a) (pt x)-N*ev (lin a b) (pt x))).natAbs,by omega,?_,?_⟩
   .have:=dg (show 1<=ev (lin v u) (pt a) by omega) (show 0<=1+((K*ev (lin v u) P+ev (lin v u) (pt x)).natAbs:Int)+((K*(ev (aY b a) P-N*ev (lin a b) P)+(ev (aY b a) (pt x)-N*ev (lin a b) (pt x))).natAbs:Int) by omega);omega
   .have:=dg (show 1<=bj a b by omega) (show 0<=1+((K*ev (lin v u) P+ev (lin v u) (pt x)).natAbs:Int)+((K*(ev (aY b a) P-N*ev (lin a b) P)+(ev (aY b a) (pt x)-N*ev (lin a b) (pt x))).natAbs:Int) by omega);omega
  obtain⟨hM0,hM1,hM2⟩:=hM;have hzd:0<(cmb 1 (cmb M (pt a) K P) 1 (pt x)).d:=by simp only[cmb,pt];have:=bV hK p0;omega
  refine⟨cmb 1 (cmb M (pt a) K P) 1 (pt x),⟨hzd,?_⟩,?_⟩
  .simp only[bO,cl,or_false,forall_eq_or_imp,forall_eq];refine⟨?_,?_,?_⟩
   .rw[ai,ai,hra,show ev (ln (pt a) P) P=0 from Ai _ _];omega
   .rw[jl,ai,ai,cG,cZ];have:=gQ hK hγP;omega
   .rw[ai,ai];omega
  .rw[kw];refine⟨hzd,?_,?_,?_⟩
   .rw[ai,ai,cG];have:=bV hK p1;omega
   .have g:0<ev (l5 a b N) (cmb 1 (cmb M (pt a) K P) 1 (pt x)):=by
     rw[ai,ai];have z:ev (l5 a b N) (pt a)=0:=by rw[ko,kB,cG];omega
     rw[z];have:=dg hFa (show 0<=K by omega);omega
    rw[ko]at g;omega
   .rw[ai,ai,ai,ai,pO,zo,cG];grind
 obtain⟨z,hz1,hz2⟩:=hpt;have hzi:=hin z hz2;refine hno ⟨x,H.max a (Nt.mem hab) x S.mem hane hopen ?_,hax⟩;rw[<-hzi];refine H.same _ _ (by simp only[cmb,pt];omega) hz1.1 λc d hcd hm=> ?_;obtain⟨x1,y1,s,t,hx1,hy1,hxy,hs,ht,he⟩:=hm;rcases bo 0 t with ht0|ht0
 .obtain⟨f,hf,g⟩:=hG c d hcd x1 y1 hx1 hy1 hxy;have eF:=congrArg (ev f) he;rw[ai,ai]at eF;change x1*ev f (pt c)+y1*ev f (pt d)<=0 at g;change x1*ev f (pt c)+y1*ev f (pt d)=_ at eF;have g1:=bV ht0 (hz1.2 f hf);have g2:0<=s*ev f (cmb 1 (pt a) 1 (pt x)):=mpp hs (by
   simp only[bO,cl,or_false]at hf;rcases hf with rfl|rfl|rfl
   .grind
   .rw[jl,vg];omega
   grind)
  omega
 .have t0:t=0:=by omega
  subst t0;have hs0:0<s:=by
   have:=congrArg P3.d he;simp only[cmb,pt]at this;rcases bo 0 s with g|g
   .exact g
   .omega
  exact hopen c d hcd x1 y1 s s hx1 hy1 hs0 hs0 (XO he)
end
end Geo
end
section
namespace Geo
section
variable {W:List V} {side:V->V->Prop} {ins:P3->Bool}
structure Tri(W:List V)(side:V->V->Prop)(ins:P3->Bool)(a b c:V):Prop where
 ab:side a b
 bc:side b c
 ca:side c a
 left:0<ev (lin a b) (pt c)
 empty:∀w∈W,0<=ev (lin a b) (pt w)->0<=ev (lin b c) (pt w)->0<=ev (lin c a) (pt w)->w=a\/w=b\/w=c
 mid:ins ⟨a.x+b.x+c.x,a.y+b.y+c.y,3⟩=true
def ctr(a b c:V):P3:=⟨a.x+b.x+c.x,a.y+b.y+c.y,3⟩
def Tri.rot{a b c:V}(h:Tri W side ins a b c):Tri W side ins b c a:=by
 refine⟨h.bc,h.ca,h.ab,by rw[gk];exact h.left,λw hw h1 h2 h3=> ?_,?_⟩
 .rcases h.empty w hw h3 h1 h2 with e|e|e
  .grind
  .exact .inl e
  grind
 .have:=h.mid;grind
def PD{a b c:V}(h:0<ev (lin a b) (pt c)):In [lin a b,lin b c,lin c a] (ctr a b c):=by
 refine⟨by show(0:Int)<3;omega,?_⟩;have e:∀f:P3,ev f (ctr a b c)=ev f (pt a)+ev f (pt b)+ev f (pt c):=λf=>by unfold ev ctr pt;grind
 have e1:ev (lin c a) (pt b)=ev (lin a b) (pt c):=by unfold ev lin pt;grind
 simp only[bO,cl,or_false,forall_eq_or_imp,forall_eq];refine⟨?_,?_,?_⟩
 .rw[e,cG,cZ];omega
 .rw[e,cG,cZ,gk a b c];omega
 .rw[e,cG,cZ,e1];omega
def Wu(N:Net W side){a b c:V}(hab:side a b)(hbc:side b c)(hca:side c a)(hD:0<ev (lin a b) (pt c))(hv:∀w∈W,0<=ev (lin a b) (pt w)->0<=ev (lin b c) (pt w)->0<=ev (lin c a) (pt w)->w=a\/w=b\/w=c):
  ∀u v,side u v->fS [lin a b,lin b c,lin c a] ⟨u,v⟩:=by
 have sector:∀x,side a x->¬(0<ev (lin a b) (pt x)/\0<ev (lin c a) (pt x)):=by
  rintro x hax ⟨h1,h2⟩;by_cases h3:0<=ev (lin b c) (pt x)
  .rcases hv x (N.mem (N.symm hax)) (by omega) h3 (by omega)with e|e|e<;>subst e
   .rw[cG]at h1;omega
   .rw[cZ]at h1;omega
   .rw[cG]at h2;omega
  ·
   have hp:ev (lin b c) (cmb (-(ev (lin b c) (pt x))) (pt a) (ev (lin a b) (pt c)) (pt x))=0:=by rw[ai,gk a b c,nH,fu];omega
   have g:=qf (a:=b) (b:=c) (c:=a) hp;rw[gk a b c]at g;have p1:=bV hD h1;have p2:=bV hD h2;have v1:ev (lin c a) (cmb (-(ev (lin b c) (pt x))) (pt a) (ev (lin a b) (pt c)) (pt x))=ev (lin a b) (pt c)*ev (lin c a) (pt x):=by rw[ai,cZ];omega
   have v2:ev (lin a b) (cmb (-(ev (lin b c) (pt x))) (pt a) (ev (lin a b) (pt c)) (pt x))=ev (lin a b) (pt c)*ev (lin a b) (pt x):=by rw[ai,cG];omega
   rw[v1,v2]at g;have:cmb (ev (lin a b) (pt c)* -(ev (lin b c) (pt x))) (pt a) (ev (lin a b) (pt c)*ev (lin a b) (pt c)) (pt x)=cmb (ev (lin a b) (pt c)*ev (lin c a) (pt x)) (pt b) (ev (lin a b) (pt c)*ev (lin a b) (pt x)) (pt c):=by rw[g];unfold cmb;simp only[P3.mk.injEq];refine⟨?_,?_,?_⟩<;>grind
   rcases N.apart hax hbc _ _ _ _ (bV hD (by omega)) (bV hD hD) p2 p1 this with⟨rfl,rfl⟩|⟨rfl,rfl⟩
   .exact N.ne hab rfl
   .exact N.ne hca rfl
 have K:Corner W side a b c 0:=by
  refine⟨hab,N.symm hca,hD,sector,iz _,λw hw ha h1 h2=> ?_⟩;refine CP.1 λh3=> ?_;rcases hv w hw h1 (by omega) h2 with e|e|e
  .exact ha e
  .rw[e,cG]at h3;omega
  .rw[e,cZ]at h3;omega
 intro u v huv x y hx hy hxy;obtain⟨f,hf,g⟩:=K.free N huv x y hx hy hxy;simp only[bO,cl,or_false]at hf;rcases hf with rfl|rfl|rfl
 .grind
 .grind
 .have e3:∀w:V,ev (over b c 0) (pt w)=ev (lin b c) (pt w):=λw=>by rw[ky];omega
  grind
def Tri.free(N:Net W side){a b c:V}(h:Tri W side ins a b c):∀u v,side u v->fS [lin a b,lin b c,lin c a] ⟨u,v⟩:=Wu N h.ab h.bc h.ca h.left h.empty
open Classical in
def z7(H:Filled W side ins){a b:V}(hab:side a b)(hL:Lft ins a b):∃c,Tri W side ins a b c:=by
 have N:=H.net;have hne:=N.ne hab;have hL2:=iQ hne;obtain⟨x0,hx0,hα0⟩:=VG H hab hL;have hl:(W.filter λx=>decide (side a x/\0<ev (lin a b) (pt x)))≠[] :=H0 (fB.2 ⟨N.mem (N.symm hx0),by grind⟩);obtain⟨c,hc,hm⟩:=As (λx:V=> -(ev (aY a b) (pt x))) (λx:V=>ev (lin a b) (pt x)) hl (by grind);obtain⟨hac,hD⟩:=of_decide_eq_true (fB.1 hc).2;have ang:∀x:V,bj a b*ev (lin a c) (pt x)=ev (aY a b) (pt c)*ev (lin a b) (pt x)-ev (lin a b) (pt c)*ev (aY a b) (pt x):=λx=>by unfold bj ev aY lin pt;grind
 have hn:∀x,side a x->¬(0<ev (lin a b) (pt x)/\0<ev (lin c a) (pt x)):=by rintro x hx ⟨h1,h2⟩;have:=hm x (fB.2 ⟨N.mem (N.symm hx),by grind⟩);have e1:=ang x;rw[jl]at h2;have:=gQ hL2 (show ev (lin a c) (pt x)<0 by omega);rw[nH,nH]at*;have e2:ev (lin a b) (pt c)*ev (aY a b) (pt x)=ev (aY a b) (pt x)*ev (lin a b) (pt c):=fu _ _;omega
 obtain⟨e1,e2,e3,e4⟩:=ear H hab hac hD hn hL;refine⟨c,hab,e4,N.symm hac,hD,e1,e3 _ ?_⟩;obtain⟨c0,c1⟩:=PD hD;refine⟨c0,λf hf=> ?_⟩;simp only[bO,cl,or_false]at hf;rcases hf with rfl|rfl|rfl
 .exact c1 _ (by simp)
 .exact c1 _ (by simp)
 .have:=c1 (lin b c) (by simp);rw[ky];show 0<ev (lin b c) (ctr a b c)-0*3;omega
def UG(N:Net W side){a b c c':V}(h:Tri W side ins a b c)(h':Tri W side ins a b c'):c=c':=by
 refine eW λhne=> ?_;have cW:=N.mem h.ca;have cW':=N.mem h'.ca;have d:=h.left;have d':=h'.left;have hca:c≠a:=N.ne h.ca;have hca':c'≠a:=N.ne h'.ca;have hcb:c≠b:=λe=>N.ne h.bc e.symm;have hcb':c'≠b:=λe=>N.ne h'.bc e.symm;have n1:¬(0<=ev (lin b c) (pt c')/\0<=ev (lin c a) (pt c')):=λ⟨h1,h2⟩=>by
  rcases h.empty c' cW' (by omega) h1 h2 with e|e|e
  .exact hca' e
  .exact hcb' e
  grind
 have n2:¬(0<=ev (lin b c') (pt c)/\0<=ev (lin c' a) (pt c)):=λ⟨h1,h2⟩=>by
  rcases h'.empty c cW (by omega) h1 h2 with e|e|e
  .exact hca e
  .exact hcb e
  grind
 have s1:ev (lin b c') (pt c)= -ev (lin b c) (pt c'):=by unfold ev lin pt;grind
 have s2:ev (lin c' a) (pt c)= -ev (lin c a) (pt c'):=by unfold ev lin pt;grind
 have key:∀{c c':V},side c a->side b c->side c' a->side b c'->c≠c'->0<ev (lin a b) (pt c)->0<ev (lin a b) (pt c')->ev (lin b c) (pt c')<0->0<ev (lin c a) (pt c')->False:=by
  intro c c' hca hbc hca' hbc' hne d d' h1 h2;have hp:ev (lin b c) (cmb (-(ev (lin b c) (pt c'))) (pt a) (ev (lin a b) (pt c)) (pt c'))=0:=by rw[ai,gk a b c,nH,fu];omega
  have g:=qf (a:=b) (b:=c) (c:=a) hp;rw[gk a b c]at g;have v1:ev (lin c a) (cmb (-(ev (lin b c) (pt c'))) (pt a) (ev (lin a b) (pt c)) (pt c'))=ev (lin a b) (pt c)*ev (lin c a) (pt c'):=by rw[ai,cZ];omega
  have v2:ev (lin a b) (cmb (-(ev (lin b c) (pt c'))) (pt a) (ev (lin a b) (pt c)) (pt c'))=ev (lin a b) (pt c)*ev (lin a b) (pt c'):=by rw[ai,cG];omega
  rw[v1,v2]at g;have:cmb (ev (lin a b) (pt c)* -(ev (lin b c) (pt c'))) (pt a) (ev (lin a b) (pt c)*ev (lin a b) (pt c)) (pt c')=cmb (ev (lin a b) (pt c)*ev (lin c a) (pt c')) (pt b) (ev (lin a b) (pt c)*ev (lin a b) (pt c')) (pt c):=by rw[g];unfold cmb;simp only[P3.mk.injEq];refine⟨?_,?_,?_⟩<;>grind
  rcases N.apart (N.symm hca') hbc _ _ _ _ (bV d (by omega)) (bV d d) (bV d h2) (bV d d') this with⟨e,e'⟩|⟨e,e'⟩
  .grind
  .exact N.ne hbc' e'.symm
 by_cases g:ev (lin b c) (pt c')<0
 .refine key h.ca h.bc h'.ca h'.bc hne d d' g ?_;omega
 .have g3:ev (lin b c') (pt c)<0:=by omega
  exact key h'.ca h'.bc h.ca h.bc (by grind) d' d g3 (by omega)
end
end Geo
end
section
namespace Geo
section
variable {W:List V} {side:V->V->Prop} {ins:P3->Bool}
def Net.ray(N:Net W side){a b v:V}(hab:side a b)(hav:side a v)(h0:ev (lin a b) (pt v)=0)(h1:0<=ev (aY a b) (pt v)):v=b:=by
 have hL:=iQ (N.ne hab);have g:=kT h0;by_cases h2:ev (aY a b) (pt v)<=bj a b
 .rcases N.clear hab (N.mem (N.symm hav)) (bj a b*(pt v).d-ev (aY a b) (pt v)) (ev (aY a b) (pt v)) (bj a b) (by show 0<=bj a b*1-_;omega) h1 (by rw[g];unfold cmb pt;simp) hL with e|e
  .exact absurd e.symm (N.ne hav)
  .exact e
 .rcases N.clear hav (N.mem (N.symm hab)) (ev (aY a b) (pt v)-bj a b) (bj a b) (ev (aY a b) (pt v)) (by omega) (by omega) (by unfold cmb pt at g|-;grind) (by omega)with e|e
  .exact absurd e.symm (N.ne hab)
  grind
def tT(s t:Int)(a b:V):(cmb s (pt a) t (pt b)).d=s+t:=by unfold cmb pt;simp
def Net.off(N:Net W side){a b u v:V}(hab:side a b)(huv:side u v):Off a b ⟨u,v⟩\/(u=a/\v=b)\/(u=b/\v=a):=by
 have ray:∀{a b v:V},side a b->side a v->v=b\/(ev (lin a b) (pt v)≠0\/ev (aY a b) (pt v)<0):=λ{a b v} hab hav=>by
  by_cases h0:ev (lin a b) (pt v)=0
  .by_cases h1:0<=ev (aY a b) (pt v)
   .exact .inl (N.ray hab hav h0 h1)
   omega
  omega
 have ray':∀{a b v:V},side a b->side b v->v=a\/(ev (lin a b) (pt v)≠0\/ev (aY b a) (pt v)<0):=λ{a b v} hab hbv=>by
  rcases ray (N.symm hab) hbv with e|e|e
  .exact .inl e
  .exact .inr (.inl (by rw[jl]at e;omega))
  omega
 by_cases hm:fR ⟨u,v⟩ (pt a) (pt b)
 .obtain⟨x,y,s,t,hx,hy,hxy,hs,ht,e⟩:=hm;have hd:=congrArg P3.d e;rw[tT,tT]at hd;have one:u=a\/u=b\/v=a\/v=b:=by
   rcases bo 0 x with hx'|hx'
   .rcases bo 0 y with hy'|hy'
    .rcases N.same hab huv hx' hy' hs ht e with⟨e1,_⟩|⟨e1,_⟩
     .exact .inl e1
     grind
    .have y0:y=0:=by omega
     subst y0;rcases N.clear hab (N.mem huv) s t x hs ht (by rw[<-e];unfold cmb;simp) hx' with e1|e1
     .exact .inl e1
     grind
   .have x0:x=0:=by omega
    subst x0;rcases N.clear hab (N.mem (N.symm huv)) s t y hs ht (by rw[<-e];unfold cmb;simp) (by omega)with e1|e1
    .grind
    grind
  rcases one with rfl|rfl|rfl|rfl
  .rcases ray hab huv with e1|e1
   .grind
   .exact .inl ⟨N.ne huv,.inr (.inl ⟨rfl,e1⟩)⟩
  .rcases ray' hab huv with e1|e1
   .grind
   .exact .inl ⟨N.ne huv,.inr (.inr (.inr (.inl ⟨rfl,e1⟩)))⟩
  .rcases ray hab (N.symm huv)with e1|e1
   .grind
   .exact .inl ⟨N.ne huv,.inr (.inr (.inl ⟨rfl,e1⟩))⟩
  .rcases ray' hab (N.symm huv)with e1|e1
   .grind
   .exact .inl ⟨N.ne huv,.inr (.inr (.inr (.inr ⟨rfl,e1⟩)))⟩
 .exact .inl ⟨N.ne huv,.inl hm⟩
open Classical in
def Net.thin(N:Net W side){a b:V}(hab:side a b):∃N0:Int,1<=N0/\∀n,N0<=n->∀u v,side u v->fS (thin a b n) ⟨u,v⟩:=by
 obtain⟨N0,h1,h2⟩:=LK (N.ne hab) (l:=(W.flatMap λu=>W.map λv=>(⟨u,v⟩:S)).filter λe=>decide (side e.a e.b)) λe he=>by have:=of_decide_eq_true (fB.1 he).2;exact N.off hab this
 refine⟨N0,h1,λn hn u v huv=>h2 n hn ⟨u,v⟩ (fB.2 ⟨?_,decide_eq_true huv⟩)⟩;exact dI.2 ⟨u,N.mem huv,bM.2 ⟨v,N.mem (N.symm huv),rfl⟩⟩
def qK{a b:V}{n m:Int}(hnm:n<=m){q:P3}(h:In (thin a b m) q):In (thin a b n) q:=by obtain⟨h0,h1,h2,h3⟩:=kw.1 h;have:=lM hnm (show 0<=ev (lin a b) q by omega);exact kw.2 ⟨h0,h1,by omega,by omega⟩
open Classical in
def Dg{a b c:V}(hne:a≠b)(n:Int){h:Int}(hc:0<ev (lin a b) (pt c))(hh:h<ev (lin a b) (pt c)):∃q,In (thin a b n) q/\In [lin a b,lin c a,over b c h] q:=by obtain⟨q,h1,h2⟩:=Lft.near (ins:=λp=>decide (In (thin a b n) p)) hne ⟨n,λm hm q hq=>decide_eq_true (qK hm hq)⟩ hc hh;grind
def wn{a b:V}(hne:a≠b)(n:Int):∃q,In (thin a b n) q:=by
 have hL2:=iQ hne;have e9:(b.x-a.x)*(b.x-a.x)-(b.y-a.y)* -(b.y-a.y)=bj a b:=by unfold bj;grind
 obtain⟨M0,hM0,hI⟩:=nQ hne (x:= -(b.y-a.y)) (y:=b.x-a.x) (by omega) n;exact⟨_,hI _ (iz _)⟩
structure Calm(W:List V)(side:V->V->Prop)(ins:P3->Bool):Prop where
 net:Net W side
 same:∀p q:P3,0<p.d->0<q.d->(∀u v,side u v->¬fR ⟨u,v⟩ p q)->ins p=ins q
def Filled.calm(H:Filled W side ins):Calm W side ins:=⟨H.net,H.same⟩
def Calm.const(H:Calm W side ins){F:List P3}(hF:∀u v,side u v->fS F ⟨u,v⟩){p q:P3}(hp:In F p)(hq:In F q):ins p=ins q:=
 H.same p q hp.1 hq.1 λu v huv=>(hF u v huv).no hp hq
def xh(H:Calm W side ins){a b:V}(hab:side a b)(h:∀n:Int,∃q,In (Geo.thin a b n) q/\ins q=true):Lft ins a b:=by obtain⟨N0,h1,h2⟩:=H.net.thin hab;obtain⟨q,hq,hi⟩:=h N0;refine⟨N0,λn hn p hp=> ?_⟩;rw[<-hi];exact H.const (h2 N0 (iz _)) (qK hn hp) hq
def Lft.not{a b:V}(hne:a≠b)(h:Lft ins a b):¬Lft (λp=> !ins p) a b:=by obtain⟨n,h⟩:=h;rintro⟨m,h'⟩;obtain⟨q,hq⟩:=wn hne (max n m);grind
def aAB(H:Calm W side ins){a b:V}(hab:side a b):Lft ins a b\/Lft (λp=> !ins p) a b:=by
 obtain⟨N0,h1,h2⟩:=H.net.thin hab;obtain⟨q,hq⟩:=wn (H.net.ne hab) N0;by_cases hi:ins q=true
 .exact .inl ⟨N0,λn hn p hp=>by rw[<-hi];exact H.const (h2 N0 (iz _)) (qK hn hp) hq⟩
 .exact .inr ⟨N0,λn hn p hp=>by show(!ins p)=true;rw[<-H.const (h2 N0 (iz _)) hq (qK hn hp)];grind⟩
def Tri.lft(H:Filled W side ins){a b c:V}(h:Tri W side ins a b c):Lft ins a b:=by
 have N:=H.net;refine xh H.calm h.ab λn=> ?_;obtain⟨q,hq,hq'⟩:=Dg (N.ne h.ab) n h.left (h:=0) h.left;refine⟨q,hq,?_⟩;have:=h.mid;rw[<-this];refine H.const (h.free N) ⟨hq.1,λf hf=> ?_⟩ (PD h.left);simp only[bO,cl,or_false]at hf;rcases hf with rfl|rfl|rfl
 .exact hq'.2 _ (by simp)
 .have:=hq'.2 (over b c 0) (by simp);rw[ky]at this;omega
 .exact hq'.2 _ (by simp)
end
end Geo
end
section
namespace Geo
def Vv{a b v:V}{s t k:Int}(h1:ag a 4000=true)(h2:ag b 4000=true)(hs:0<=s)(ht:0<=t)(hk:0<k)(h:cmb s (pt a) t (pt b)=cmb k (pt v) 0 (pt v)):onS ⟨a,b⟩ v=true:=by
 have hv:aj ⟨a,b⟩=true:=by unfold aj;simp[h1,h2]
 rw[gH hv];simp only[cmb,pt,P3.mk.injEq]at h;have box:∀p q r:Int,s*p+t*q=k*r->min p q<=r/\r<=max p q:=λp q r h=>by
  have e:k=s+t:=by omega
  have l1:k*min p q<=k*r:=by have:=dg (Int.min_le_left p q) hs;have:=dg (Int.min_le_right p q) ht;rw[<-h,e,rI];omega
  have l2:k*r<=k*max p q:=by have:=dg (Int.le_max_left p q) hs;have:=dg (Int.le_max_right p q) ht;rw[<-h,e,rI];omega
  simp_all
 refine⟨?_,?_⟩
 .unfold fA;grind
 .have:k*cross (sub b a) (sub v a)=0:=by
   have e:k=s+t:=by omega
   subst e;unfold cross sub;dsimp only;grind
  rcases dd.1 this with g|g
  .omega
  .exact g
def aBh{a b c d:V}(hne:c≠d)(h1:ev (lin c d) (pt a)=0)(h2:ev (lin c d) (pt b)=0):ev (lin a b) (pt c)=0:=by
 have g1:=kT h1;have g2:=kT h2;have hL:=iQ hne;have e:bj c d*(bj c d*ev (lin a b) (pt c))=0:=by generalize ev (aY c d) (pt a)=α at*;generalize ev (aY c d) (pt b)=β at*;generalize bj c d=L at*;unfold cmb pt at g1 g2;simp only[P3.mk.injEq]at g1 g2;unfold ev lin pt;dsimp only;grind
 rcases dd.1 e with g|g
 .omega
 .rcases dd.1 g with g|g
  .omega
  .exact g
structure Segs(W:List V)(side:V->V->Prop):Prop where
 symm:∀{a b},side a b->side b a
 ne:∀{a b},side a b->a≠b
 mem:∀{a b},side a b->a∈W
 near:∀v∈W,ag v 4000=true
 clear:∀{a b v},side a b->v∈W->onS ⟨a,b⟩ v=true->v=a\/v=b
 cross:∀{a b c d},side a b->side c d->bn ⟨a,b⟩ ⟨c,d⟩≠2
def LG{a b c d:V}{s t:Int}(hs:0<s)(ht:0<t)(h:s*ev (lin a b) (pt c)+t*ev (lin a b) (pt d)=0)(hc:ev (lin a b) (pt c)≠0):turn a b c*turn a b d<0:=by
 unfold turn;rw[wJ,<-eM,<-eM];rcases lK hc with g|g
 .have:=gQ hs g;exact .inr ⟨g,SA (a:=t) (by omega) (by omega)⟩
 .have:=bV hs g;refine .inl ⟨g,ki.1 λh'=> ?_⟩;have:=mpp (show 0<=t by omega) h';omega
section
variable {W:List V} {side:V->V->Prop}
def Segs.clear'(H:Segs W side){a b v:V}(hab:side a b)(hv:v∈W)(s t k:Int)(hs:0<=s)(ht:0<=t)(h:cmb s (pt a) t (pt b)=cmb k (pt v) 0 (pt v))(hk:0<k):v=a\/v=b:=
 H.clear hab hv (Vv (H.near _ (H.mem hab)) (H.near _ (H.mem (H.symm hab))) hs ht hk h)
def Segs.beyond(H:Segs W side){a b c d:V}(hab:side a b)(hcd:side c d)(hc:ev (lin a b) (pt c)=0)(hd:ev (lin a b) (pt d)=0)
  (h1:ev (aY a b) (pt c)<ev (aY a b) (pt d)) {x y s t:Int} (hx:0<x) (hy:0<y) (hs:0<s) (ht:0<t) (h:cmb x (pt a) y (pt b)=cmb s (pt c) t (pt d)):a=c/\b=d:=by
 have hL:=iQ (H.ne hab);have gc:=kT hc;have gd:=kT hd;have wc:=H.mem hcd;have wd:=H.mem (H.symm hcd);have e1:x*ev (aY a b) (pt a)+y*ev (aY a b) (pt b)=s*ev (aY a b) (pt c)+t*ev (aY a b) (pt d):=by rw[<-ai,<-ai,h]
 rw[kB,pO]at e1;have ed:=congrArg P3.d h;rw[tT,tT]at ed;have one:∀v:V,(pt v).d=1:=λ_=>rfl;rw[one]at gc gd;have p1:=bV hy hL;have c0:ev (aY a b) (pt c)<bj a b:=ki.1 λg=>by
  have:=dg g (show 0<=s by omega);have:=SB (show bj a b<ev (aY a b) (pt d) by omega) ht;have e:(x+y)*bj a b=(s+t)*bj a b:=by rw[ed]
  rw[rI,rI]at e;have:=bV hx hL;omega
 have d0:0<ev (aY a b) (pt d):=ki.1 λg=>by have:=mpn (show 0<=t by omega) g;have:=gQ hs (show ev (aY a b) (pt c)<0 by omega);omega
 have hac:a=c:=by
  rcases bo (ev (aY a b) (pt c)) 0 with g|g
  .rcases H.clear' hcd (H.mem hab) (ev (aY a b) (pt d)) (-(ev (aY a b) (pt c))) (ev (aY a b) (pt d)-ev (aY a b) (pt c)) (by omega) (by omega) (by
    unfold cmb pt at gc gd|-;simp only[P3.mk.injEq]at gc gd|-;have hL0:bj a b≠0:=by omega
    refine⟨?_,?_,?_⟩
    .refine mK hL0 ?_;grind
    .refine mK hL0 ?_;grind
    .omega) (by omega)with e|e
   .exact e
   .rw[<-e,kB]at d0;omega
  .rcases H.clear' hab wc (bj a b-ev (aY a b) (pt c)) (ev (aY a b) (pt c)) (bj a b) (by omega) g (by rw[yQ]at gc;rw[gc];unfold cmb pt;simp) hL with e|e
   .exact e.symm
   .rw[e,pO]at c0;omega
 refine⟨hac,?_⟩;rcases bo (bj a b) (ev (aY a b) (pt d))with g|g
 .rcases H.clear' hcd (H.mem (H.symm hab)) (ev (aY a b) (pt d)-bj a b) (bj a b) (ev (aY a b) (pt d)) (by omega) (by omega) (by unfold cmb pt at gd|-;grind) (by omega)with e|e
  .exact absurd (by grind) (H.ne hab)
  .exact e
 .rcases H.clear' hab wd (bj a b-ev (aY a b) (pt d)) (ev (aY a b) (pt d)) (bj a b) (by omega) (by omega) (by rw[yQ]at gd;rw[gd];unfold cmb pt;simp) hL with e|e
  .grind
  grind
def Segs.net(H:Segs W side):Net W side:=by
 refine⟨H.symm,H.ne,H.mem,λhab hv s t k hs ht h hk=>H.clear' hab hv s t k hs ht h hk,?_⟩;intro a b c d hab hcd x y s t hx hy hs ht h;have na:=H.near _ (H.mem hab);have nb:=H.near _ (H.mem (H.symm hab));have nc:=H.near _ (H.mem hcd);have nd:=H.near _ (H.mem (H.symm hcd));have f1:s*ev (lin a b) (pt c)+t*ev (lin a b) (pt d)=0:=by rw[<-ai,<-h,ai,cG,cZ];omega
 have f2:x*ev (lin c d) (pt a)+y*ev (lin c d) (pt b)=0:=by rw[<-ai,h,ai,cG,cZ];omega
 by_cases hc:ev (lin a b) (pt c)=0
 .have hd:ev (lin a b) (pt d)=0:=by
   rw[hc,dw,vN]at f1;rcases dd.1 f1 with g|g
   .omega
   .exact g
  rcases bo (ev (aY a b) (pt c)) (ev (aY a b) (pt d))with g|g
  .exact .inl (H.beyond hab hcd hc hd g hx hy hs ht h)
  .rcases bo (ev (aY a b) (pt d)) (ev (aY a b) (pt c))with g'|g'
   .obtain⟨e1,e2⟩:=H.beyond hab (H.symm hcd) hd hc g' hx hy ht hs (by rw[h,kU]);grind
   .exfalso;have gc:=kT hc;have gd:=kT hd;rw[show ev (aY a b) (pt d)=ev (aY a b) (pt c) by omega]at gd;have hL:=iQ (H.ne hab);have one:∀v:V,(pt v).d=1:=λ_=>rfl;rw[one]at gc gd;rw[gc]at gd;simp only[P3.mk.injEq,pt]at gd;have q1:=mK (by grind) gd.1;have q2:=mK (by grind) gd.2.1;refine H.ne hcd ?_;cases c;simp_all
 .exfalso;have ha:ev (lin c d) (pt a)≠0:=λg=>by
   have g2:ev (lin c d) (pt b)=0:=by
    rw[g,dw,vN]at f2;rcases dd.1 f2 with g|g
    .omega
    .exact g
   have k1:=aBh (a:=a) (b:=b) (H.ne hcd) g g2;exact hc k1
  have hd:ev (lin a b) (pt d)≠0:=λg=>by
   rw[g,dw,nD]at f1;rcases dd.1 f1 with g|g
   .omega
   .exact hc g
  refine H.cross hab hcd ((nZ ⟨a,b⟩ ⟨c,d⟩).cross (by simp[aj,na,nb,nc,nd]) ?_ ⟨LG hs ht f1 hc,LG hx hy f2 ha⟩);rintro p hp ⟨o1,o2⟩;have z1:ev (lin a b) (pt p)=0:=by rw[eM];exact((gH (by simp[aj,na,nb])).1 o1).2
  simp only[bO,cl,or_false]at hp;have z2:ev (lin c d) (pt p)=0:=by rw[eM];exact((gH (by simp[aj,nc,nd])).1 o2).2
  rcases hp with rfl|rfl|rfl|rfl
  .exact ha z2
  .rw[z2,dw,nD]at f2;rcases dd.1 f2 with g|g
   .omega
   .exact ha g
  .exact hc z1
  omega
end
end Geo
end
namespace Geo
def Yz{a b:V}{p:P3}(hne:a≠b)(h0:ev (lin a b) p=0)(x1:min a.x b.x*p.d<=p.x)(x2:p.x<=max a.x b.x*p.d)(y1:min a.y b.y*p.d<=p.y)(y2:p.y<=max a.y b.y*p.d):
  ∃x y k:Int,0<=x/\0<=y/\0<k/\x+y=k*p.d/\cmb x (pt a) y (pt b)=⟨k*p.x,k*p.y,k*p.d⟩:=by
 have hL:=iQ hne;have g:=kT h0;have one:∀u v q:Int,min u v*p.d<=q->q<=max u v*p.d->0<=(v-u)*(q-u*p.d)/\0<=(v-u)*(v*p.d-q):=λu v q h1 h2=>by
  rcases vJ u v with h|h
  .rw[Int.min_eq_left h]at h1;rw[Int.max_eq_right h]at h2;exact⟨mpp (by omega) (by omega),mpp (by omega) (by omega)⟩
  .rw[Int.min_eq_right h]at h1;rw[Int.max_eq_left h]at h2;exact⟨mnn (by omega) (by omega),mnn (by omega) (by omega)⟩
 obtain⟨u1,u2⟩:=one _ _ _ x1 x2;obtain⟨v1,v2⟩:=one _ _ _ y1 y2;have ea:ev (aY a b) p=(b.x-a.x)*(p.x-a.x*p.d)+(b.y-a.y)*(p.y-a.y*p.d):=by unfold ev aY;grind
 have eb:bj a b*p.d-ev (aY a b) p=(b.x-a.x)*(b.x*p.d-p.x)+(b.y-a.y)*(b.y*p.d-p.y):=by unfold ev aY bj;grind
 exact⟨bj a b*p.d-ev (aY a b) p,ev (aY a b) p,bj a b,by omega,by omega,hL,by omega,g⟩
def Oj{e:S}{p:Pt}(hp:0<p.den)(hne:e.a≠e.b)(h:onP e p=true):∃x y k:Int,0<=x/\0<=y/\0<k/\x+y=k*p.den/\cmb x (pt e.a) y (pt e.b)=⟨k*p.x,k*p.y,k*p.den⟩:=by rw[Pd e p hp]at h;unfold onR at h;simp only[bm,decide_eq_true_eq,beq_iff_eq,nU]at h;obtain⟨⟨⟨⟨h1,h2⟩,h3⟩,h4⟩,h5⟩:=h;exact Yz (p:=p3 p) hne (by rw[<-h5];unfold fP cross sub toV ev lin p3;grind) h1 h2 h3 h4
def Na{e:S}{v:V}(hv:aj e=true)(hne:e.a≠e.b)(h:onS e v=true):∃x y k:Int,0<=x/\0<=y/\0<k/\x+y=k/\cmb x (pt e.a) y (pt e.b)=cmb k (pt v) 0 (pt v):=by obtain⟨x,y,k,h1,h2,h3,h4,h5⟩:=Oj (p:=fT v) (by show(0:Int)<1;omega) hne ((Lx e v).2 ((gH hv).1 h));refine⟨x,y,k,h1,h2,h3,by rw[h4];show k*1=k;omega,?_⟩;rw[h5];unfold cmb pt fT;simp
def Lw{a b v:V}(ha:ag a 4000=true)(hb:ag b 4000=true):onS ⟨b,a⟩ v=onS ⟨a,b⟩ v:=by
 have v1:aj ⟨a,b⟩=true:=by simp[aj,ha,hb]
 have v2:aj ⟨b,a⟩=true:=by simp[aj,ha,hb]
 rw[eY,gH v1,gH v2];have e1:fA ⟨b,a⟩ v=fA ⟨a,b⟩ v:=by unfold fA;dsimp only;rw[Int.min_comm,Int.max_comm,Int.min_comm b.y,Int.max_comm b.y]
 have e2:cross (sub a b) (sub v b)= -cross (sub b a) (sub v a):=J4 b a v;grind
def FL{p:Pt}:∀{l:List S} {ins:Bool},(∃e∈l,onP e p=true)->dq p l ins=1
 |[],_,⟨e,he,_⟩=>by cases he
 |e::l,ins,⟨e',he',ho⟩=>by
  unfold dq;cases h:onP e p with
  |true=>rfl
  |false=>
   rcases bO.1 he' with rfl|he'
   .grind
   .exact FL ⟨e',he',ho⟩
def ZU{k:Int}(hk:0<k)(p:P3)(e:S):hit ⟨k*p.x,k*p.y,k*p.d⟩ e=hit p e:=by
 have e1:∀w,dn ⟨k*p.x,k*p.y,k*p.d⟩ w=dn p w:=λw=>decide_eq_decide.2 (by rw[show w.y*(k*p.d)=k*(w.y*p.d) by grind];simp_all)
 have e2:decide (0<ev (lin e.a e.b) ⟨k*p.x,k*p.y,k*p.d⟩)=decide (0<ev (lin e.a e.b) p):=decide_eq_decide.2 (by rw[show ev (lin e.a e.b) ⟨k*p.x,k*p.y,k*p.d⟩=k*ev (lin e.a e.b) p by unfold ev;grind];exact⟨λh=>SA h (by omega),λh=>bV hk h⟩)
 unfold hit;grind
def NS{k:Int}(hk:0<k)(r:aD)(p:P3):cD r ⟨k*p.x,k*p.y,k*p.d⟩=cD r p:=by
 unfold cD
 congr 1
 exact iy λe _=>ZU hk p e
def half(c:S):P3:=cmb 1 (pt c.a) 1 (pt c.b)
def N6(c:S):∃k:Int,0<k/\half c=⟨k*(p3 (fF c)).x,k*(p3 (fF c)).y,k*(p3 (fF c)).d⟩:=by
 unfold fF;split
 .refine⟨2,by omega,?_⟩;unfold half cmb pt p3;grind
 .refine⟨1,by omega,?_⟩;unfold half cmb pt p3;grind
def Ua(c:S):0<(fF c).den:=by unfold fF;grind
def VC{r:aD}(hr:VR r){c:S}(ha:ag c.a 2000=true)(hb:ag c.b 2000=true)(h:∀e∈aJ r,∀x y s:Int,0<=x->0<=y->0<s->cmb x (pt e.a) y (pt e.b)≠cmb s (pt c.a) s (pt c.b)):
  bY r (fF c)=if cD r (half c)then 2 else 0:=by
 obtain⟨k,hk,e⟩:=N6 c;rw[Db hr (wA ha hb) λe' he'=> ?_,e,NS hk];refine vO.2 λho=> ?_;have hne:=hr.rt he';obtain⟨x,y,m,h1,h2,h3,h4,h5⟩:=Oj (Ua c) hne ho;refine h e' he' (k*x) (k*y) m (mpp (by omega) h1) (mpp (by omega) h2) h3 ?_;unfold half at e;unfold cmb p3 at*;grind
def Nm{r:aD}(hr:VR r){c:S}(ha:ag c.a 2000=true)(hb:ag c.b 2000=true)(h:bY r (fF c)≠1):bY r (fF c)=if cD r (half c)then 2 else 0:=by obtain⟨k,hk,e⟩:=N6 c;rw[Db hr (wA ha hb) λe' he'=> ?_,e,NS hk];refine vO.2 λho=>h ?_;unfold bY;rw[(gv _).2 hr,wA ha hb];exact FL ⟨e',he',ho⟩
end Geo
namespace Geo
structure Most(s:Shape)(v:List V)(acc:List S)(i k:Nat):Prop where
 chord:∀d∈acc,pW s d=true
 apart:acc.Pairwise λd e=>cY d e≠2
 most:∀a b,a<b->b<v.length->(a<i\/(a=i/\b<k))->pW s ⟨nth v a,nth v b⟩=true->(⟨nth v a,nth v b⟩:S)∈acc\/∃d∈acc,cY d ⟨nth v a,nth v b⟩=2
def VJ{s:Shape}{v:List V}{acc:List S}{i k:Nat}(h:Most s v acc i k):Most s v (ug s v acc i k) i (k+1):=by
 have up:∀{acc':List S},(∀d∈acc,d∈acc')->((pW s ⟨nth v i,nth v k⟩=true)->(⟨nth v i,nth v k⟩:S)∈acc'\/∃d∈acc',cY d ⟨nth v i,nth v k⟩=2)->
   ∀a b,a<b->b<v.length->(a<i\/(a=i/\b<k+1))->pW s ⟨nth v a,nth v b⟩=true->(⟨nth v a,nth v b⟩:S)∈acc'\/∃d∈acc',cY d ⟨nth v a,nth v b⟩=2:=by
  intro acc' hs hn a b hab hb hl hc;by_cases he:a=i/\b=k
  .grind
  .rcases h.most a b hab hb (by omega) hc with h1|⟨d,h1,h2⟩
   .grind
   grind
 unfold ug;cases hc:pW s ⟨nth v i,nth v k⟩&&(acc.all λd=>cY d ⟨nth v i,nth v k⟩ !=2)with
 |true=>
  rw[if_pos rfl];rw[bm,bZ]at hc;refine⟨λd hd=> ?_,?_,by grind⟩
  .rcases bq.1 hd with hd|hd
   .exact h.chord d hd
   grind
  .rw[R7];refine⟨h.apart,by grind,λd hd e he=> ?_⟩;grind
 |false=>
  refine⟨h.chord,h.apart,up (λd hd=>hd) λh1=> ?_⟩;grind
def Lg{s:Shape}{v:List V}{acc:List S}{i:Nat}(h:Most s v acc i (i+1)):∀m,Most s v (pu s v acc i m) i (i+1+m)
 |0=>h
 |m+1=>VJ (Lg h m)
def Mq(s:Shape)(v:List V):∀i,Most s v (n7 s v i) i (i+1)
 |0=>⟨(λd hd=>by cases hd),rE,(by grind)⟩
 |i+1=>by
  have h:=Lg (Mq s v i) (v.length-(i+1));exact⟨h.chord,h.apart,λa b h1 h2 h3=>h.most a b h1 h2 (by omega)⟩
def EF(s:Shape)(v:List V):Most s v (m5 s v) v.length (v.length+1):=Mq s v v.length
end Geo
namespace Geo
def El{s t:S}(h:bn s t=2):(aj s&&aj t)=true/\(∀p,p∈ends s t->¬br s t p)/\turn s.a s.b t.a*turn s.a s.b t.b<0/\turn t.a t.b s.a*turn t.a t.b s.b<0:=by
 have M:=nZ s t;have hv:(aj s&&aj t)=true:=by
  cases hv:(aj s&&aj t)with
  |true=>rfl
  |false=>have:=M.none hv;omega
 have hn:∀p,p∈ends s t->¬br s t p:=by
  intro p hp ho;by_cases hu:∀p q,p∈[s.a,s.b,t.a,t.b]->q∈[s.a,s.b,t.a,t.b]->br s t p->br s t q->p=q
  .have:=M.touch hv hu ⟨p,hp,ho⟩;omega
  .refine hu λp q hp hq o1 o2=>eW λhne=> ?_;have:=M.over p q hp hq hne o1 o2;omega
 refine⟨hv,hn,eW λhc=> ?_⟩;have:=M.else_ hv hn hc;omega
def zN{s t:S}{p:V}(hp:p∈ends s t)(ho:br s t p):bn s t≠2:=λh=>(El h).2.1 p hp ho
def J5(a b c:V):turn b a c= -turn a b c:=by unfold turn;rw[show cross (sub a b) (sub c b)= -cross (sub b a) (sub c a) by have:=J4 a b c;omega];unfold sgn;grind
def wu{a b:V}{t:S}(h:bn ⟨b,a⟩ t=2):bn ⟨a,b⟩ t=2:=by
 obtain⟨h1,h2,h3,h4⟩:=El h;have hva:ag a 4000=true/\ag b 4000=true:=by simp[aj]at h1;grind
 have hv:(aj ⟨a,b⟩&&aj t)=true:=by simp[aj]at h1|-;grind
 refine(nZ ⟨a,b⟩ t).cross hv (λp hp ho=>h2 p ?_ ?_) ⟨?_,?_⟩
 .rw[j9];grind
 .obtain⟨o1,o2⟩:=ho;exact⟨by rw[Lw hva.1 hva.2];exact o1,o2⟩
 .rw[J5 b a,J5 b a,Int.neg_mul_neg];exact h3
 grind
def eR(B:List S)(a b:V):Prop:=(⟨a,b⟩:S)∈B\/(⟨b,a⟩:S)∈B
def NA{W:List V}{B:List S}(hn:∀v∈W,ag v 4000=true)(hw:∀e∈B,e.a∈W/\e.b∈W/\e.a≠e.b)(hc:∀e∈B,∀v∈W,onS e v=true->v=e.a\/v=e.b)(hx:∀e∈B,∀d∈B,bn e d≠2):Segs W (eR B):=by
 refine⟨λh=>h.symm,λh=> ?_,λh=> ?_,hn,λh hv ho=> ?_,λh h' hm=> ?_⟩
 .rcases h with h|h
  .grind
  grind
 .rcases h with h|h
  .grind
  grind
 .rcases h with h|h
  .grind
  .rw[Lw (hn _ (hw _ h).1) (by grind)]at ho;grind
 .rcases h with h|h<;>rcases h' with h'|h'
  .grind
  .exact hx _ h _ h' (by rw[lZ]at hm|-;exact wu hm)
  .exact hx _ h _ h' (wu hm)
  .exact hx _ h _ h' (by have:=wu hm;rw[lZ]at this|-;exact wu this)
def VR.nocross{r:aD}(h:VR r){e d:S}(he:e∈aJ r)(hd:d∈aJ r):bn e d≠2:=by
 obtain⟨_,i,hi,rfl⟩:=mem_edges.1 he;obtain⟨_,k,hk,rfl⟩:=mem_edges.1 hd;have vi:=iA h.near i hi;have main:∀i k,i<r.length->k<r.length->i<k->bn (bL r i) (bL r k)≠2:=λi k hi hk hik=>by
  have vi:=iA h.near i hi;have vk:=iA h.near k hk;by_cases e1:k=i+1
  .have e2:(bL r i).b=(bL r k).a:=by show nth r ((i+1) % r.length)=nth r k;rw[dj (by omega),e1]
   exact zN (p:=(bL r i).b) (by rw[j9];simp) ⟨jE vi,by rw[e2];exact fH vk⟩
  .by_cases e1:i=0/\k=r.length-1
   .have e2:(bL r k).b=(bL r i).a:=by show nth r ((k+1) % r.length)=nth r i;rw[e1.1,e1.2,show r.length-1+1=r.length by omega,kK]
    exact zN (p:=(bL r i).a) (by rw[j9];simp) ⟨fH vi,by rw[<-e2];exact jE vk⟩
   .have:=h.apart i k hik hk (by omega) e1;omega
 rcases yR i k with g|g|g
 .grind
 .subst g;exact zN (p:=(bL r i).a) (by rw[j9];simp) ⟨fH vi,fH vi⟩
 .rw[lZ];grind
def AE{α:Type}{R:α->α->Prop}(hs:∀a b,R a b->R b a):∀{l:List α},l.Pairwise R->∀a∈l,∀b∈l,a=b\/R a b
 |[],_,a,ha,_,_=>by cases ha
 |x::l,h,a,ha,b,hb=>by
  rw[gX]at h;rcases bO.1 ha with e|ha'<;>rcases bO.1 hb with e'|hb'
  .grind
  .grind
  .grind
  .exact AE hs h.2 a ha' b hb'
def VS.nocross{s:Shape}(h:VS s){e d:S}(he:e∈bW s)(hd:d∈bW s):bn e d≠2:=by
 obtain⟨r,hr,he⟩:=dI.1 he;obtain⟨q,hq,hd⟩:=dI.1 hd;rcases AE (λa b h=>by rw[rT];exact h) h.pair r hr q hq with rfl|g
 .exact(h.ring hr).nocross he hd
 .unfold dV at g;grind
def DW{s:Shape}{e:S}(he:e∈bW s):e.a∈bl s/\e.b∈bl s:=by obtain⟨r,hr,he⟩:=dI.1 he;obtain⟨h1,h2⟩:=iP he;exact⟨kh.2 ⟨r,hr,h1⟩,kh.2 ⟨r,hr,h2⟩⟩
structure Tg(s:Shape)(D:List S):Prop where
 vs:VS s
 chord:∀d∈D,fE s d=true
 ends:∀d∈D,d.a∈bl s/\d.b∈bl s/\d.a≠d.b
 apart:∀d∈D,∀e∈D,bn d e≠2
 most:∀a∈bl s,∀b∈bl s,a≠b->fE s ⟨a,b⟩=true->fE s ⟨b,a⟩=true->(⟨a,b⟩:S)∈D\/(⟨b,a⟩:S)∈D\/∃d∈D,bn d ⟨a,b⟩=2
 once:D.Pairwise λd e=>d≠e/\d≠⟨e.b,e.a⟩
def sides(s:Shape)(D:List S):V->V->Prop:=eR (bW s++D)
def Tg.segs{s:Shape}{D:List S}(T:Tg s D):Segs (bl s) (sides s D):=by
 have h:=T.vs;have hn:∀v∈bl s,ag v 4000=true:=λv hv=>ig (i9 h hv) (by omega);have ed:∀e∈bW s,∀d∈D,bn e d≠2:=λe he d hd hm=>by have:=T.chord d hd;unfold fE at this;rw[bm,bZ]at this;unfold cC at this;grind
 refine NA hn (λe he=> ?_) (λe he v hv ho=> ?_) (λe he d hd=> ?_)
 .rcases bq.1 he with he|he
  .exact⟨(DW he).1,(DW he).2,h.rt he⟩
  .exact T.ends e he
 .rcases bq.1 he with he|he
  .exact h.touch hv he ho
  .exact DI h (T.chord e he) hv ho
 .rcases bq.1 he with he|he<;>rcases bq.1 hd with hd|hd
  .exact h.nocross he hd
  .grind
  .rw[lZ];grind
  .exact T.apart e he d hd
end Geo
namespace Geo
def fK(s:Shape)(p:P3):Bool:=cD s.outer p&&s.holes.all λh=> !(cD h p)
def Ih{a b p:V}{y k:Int}(hk:0<k)(h:cmb 0 (pt a) y (pt b)=cmb k (pt p) 0 (pt p)):p=b:=by
 simp only[cmb,pt,P3.mk.injEq]at h;have e:y=k:=by omega
 subst e;have q1:=mK (by grind) (show y*b.x=y*p.x by omega);have q2:=mK (by grind) (show y*b.y=y*p.y by omega);cases p;cases b;grind
def Mb{a b u w:V}(h1:turn a b u*turn a b w<0)(h2:turn u w a*turn u w b<0):∃x y s t:Int,0<x/\0<y/\0<s/\0<t/\cmb x (pt a) y (pt b)=cmb s (pt u) t (pt w):=by
 unfold turn at h1 h2;rw[wJ,<-eM,<-eM]at h1 h2;have g:=gc a b (pt u) (pt w);rw[<-aAA]at g;have e:ev (lin u w) (pt b)-ev (lin u w) (pt a)=ev (lin a b) (pt u)-ev (lin a b) (pt w):=by unfold ev lin pt;grind
 rcases h1 with⟨p1,p2⟩|⟨p1,p2⟩
 .exact⟨_,_,_,_,by omega,by omega,by omega,by omega,g⟩
 .refine⟨-(ev (lin u w) (pt b)),ev (lin u w) (pt a),ev (lin a b) (pt w),-(ev (lin a b) (pt u)),by omega,by omega,by omega,by omega,?_⟩;unfold cmb at g|-;grind
def Wl{e c:S}(ve:aj e=true)(vc:aj c=true)(hne:e.a≠e.b)(hcne:c.a≠c.b)
  (hno:∀x y s t:Int,0<=x->0<=y->0<s->0<t->cmb x (pt e.a) y (pt e.b)≠cmb s (pt c.a) t (pt c.b)) (hte:∀p,p=c.a\/p=c.b->onS e p=true->p=e.a\/p=e.b):cC e c=true:=by
 have A:∀p,br e c p->p=c.a\/p=c.b:=by
  rintro p ⟨o1,o2⟩;obtain⟨x,y,k,h1,h2,h3,h4,h5⟩:=Na ve hne o1;obtain⟨s,t,m,g1,g2,g3,g4,g5⟩:=Na vc hcne o2;rcases bo 0 s with hs|hs
  .rcases bo 0 t with ht|ht
   .refine absurd ?_ (hno (m*x) (m*y) (k*s) (k*t) (mpp (by omega) h1) (mpp (by omega) h2) (bV h3 hs) (bV h3 ht));unfold cmb pt at*;grind
   .have:t=0:=by omega
    subst this;exact .inl (Ih g3 (by rw[kU];exact g5))
  .have:s=0:=by omega
   subst this;exact .inr (Ih g3 g5)
 have M:=nZ e c;have hv:(aj e&&aj c)=true:=by rw[ve,vc];rfl
 unfold cC;by_cases hp:∃p,p∈ends e c/\br e c p
 .obtain⟨p,hp,ho⟩:=hp;have c1:=A p ho;have c2:=hte p c1 ho.1;have k1:bn e c=1:=by
   refine M.touch hv (λq r hq hr oq or=>eW λhqr=> ?_) ⟨p,hp,ho⟩;have q1:=A q oq;have r1:=A r or;have q2:=hte q q1 oq.1;have r2:=hte r r1 or.1;have:(e.a=c.a/\e.b=c.b)\/(e.a=c.b/\e.b=c.a):=by grind
   rcases this with⟨w1,w2⟩|⟨w1,w2⟩
   .exact hno 1 1 1 1 (by omega) (by omega) (by omega) (by omega) (by rw[w1,w2])
   .exact hno 1 1 1 1 (by omega) (by omega) (by omega) (by omega) (by rw[w1,w2,kU])
  have k2:pQ e c=true:=by rw[zJ];grind
  grind
 .have k0:bn e c=0:=by refine M.else_ hv (λp hp' ho=>hp ⟨p,hp',ho⟩) λ⟨h1,h2⟩=> ?_;obtain⟨x,y,s,t,hx,hy,hs,ht,g⟩:=Mb h1 h2;grind
  rw[k0];rfl
def Mf{s:Shape}(h:VS s){u w:V}(hu:u∈bl s)(hw:w∈bl s)(hne:u≠w)(hno:∀e∈bW s,∀x y s t:Int,0<=x->0<=y->0<s->0<t->cmb x (pt e.a) y (pt e.b)≠cmb s (pt u) t (pt w))
  (hi:fK s (cmb 1 (pt u) 1 (pt w))=true):fE s ⟨u,w⟩=true:=by
 have nu:=i9 h hu;have nw:=i9 h hw;unfold fE;rw[bm,bZ];refine⟨λe he=>Wl (zE h he) (by unfold aj;rw[ig nu (by omega),ig nw (by omega)];rfl) (h.rt he) hne (hno e he) λp hp ho=> ?_,?_⟩
 .refine h.touch ?_ he ho;grind
 .rw[beq_iff_eq,tJ];have mem:∀r∈aE s,∀e∈aJ r,e∈bW s:=λr hr e he=>dI.2 ⟨r,hr,he⟩;have wm:∀r∈aE s,bY r (fF ⟨u,w⟩)=if cD r (half ⟨u,w⟩)then 2 else 0:=λr hr=>
   VC (h.ring hr) nu nw (by grind)
  unfold fK at hi;rw[bm,bZ]at hi;refine⟨(kS s).2 h,?_,λq hq=> ?_⟩
  .rw[wm _ cE];exact if_pos hi.1
  .rw[wm _ (cB _ hq)];have:=hi.2 q hq;exact if_neg (by unfold half;grind)
def YO{s:Shape}(h:VS s){c:S}(ha:c.a∈bl s)(hb:c.b∈bl s)(hc:fE s c=true):fK s (half c)=true:=by
 unfold fE at hc;rw[bm,beq_iff_eq,tJ]at hc;have na:=i9 h ha;have nb:=i9 h hb;unfold fK;rw[bm,bZ];refine⟨?_,λq hq=> ?_⟩
 .have:=Nm h.outer na nb (by omega);grind
 .have:=Nm (h.ring (cB _ hq)) na nb (by grind);grind
def J2:∀l:List S,dh (l.map λ_=>false)=false
 |[] =>rfl
 |e::l=>by show(false !=dh (l.map λ_=>false))=false;rw[J2 l];rfl
def NT{r:aD}(h2:2<=r.length)(hn:∀v∈r,-2000<=v.x/\v.x<=2000/\ -2000<=v.y/\v.y<=2000){q:P3}(hq:0<q.d)(h:2000*q.d<q.x\/q.x< -(2000*q.d)\/2000*q.d<q.y\/q.y< -(2000*q.d)):cD r q=false:=by
 have flat:∀q:P3,0<q.d->(2000*q.d<q.y\/q.y< -(2000*q.d))->cD r q=false:=by
  intro q hq h;have dnq:∀v∈r,dn q v=decide (2000*q.d<q.y):=λv hv=>decide_eq_decide.2 (by obtain⟨_,_,h3,h4⟩:=hn v hv;have l1:=lM h3 (show 0<=q.d by omega);have l2:=lM h4 (show 0<=q.d by omega);omega)
  have:∀e∈aJ r,hit q e=false:=λe he=>by obtain⟨ha,hb⟩:=iP he;unfold hit;grind
  unfold cD;rw[iy (g:=λ_=>false) this];exact J2 _
 by_cases hy:2000*q.d<q.y\/q.y< -(2000*q.d)
 .grind
 .have hx:2000*q.d<q.x\/q.x< -(2000*q.d):=by omega
  rw[tn (q:=⟨q.x,q.y+4001*q.d,q.d⟩) h2 hq hq λe he=> ?_]
  .grind
  .rintro⟨x,y,s,t,hx0,hy0,hxy,hs,ht,g⟩;obtain⟨ha,hb⟩:=iP he;simp only[cmb,pt,P3.mk.injEq]at g;have a1:=hn _ ha;have b1:=hn _ hb;have l1:=dg a1.1 hx0;have l2:=dg a1.2.1 hx0;have l3:=dg b1.1 hy0;have l4:=dg b1.2.1 hy0;have hst:0<s+t:=by
    refine ki.1 λh=> ?_;have:s=0:=by omega
    have:t=0:=by omega
    subst s t;omega
   rcases hx with hx|hx
   .have:=SB hx hst;grind
   .have:=SB hx hst;grind
def Ea{r:aD}(h:VR r):∀v∈r,-2000<=v.x/\v.x<=2000/\ -2000<=v.y/\v.y<=2000:=λv hv=>by have:=tw h.near hv;unfold ag at this;grind
def MH{s:Shape}(h:VS s){p q:P3}(hp:0<p.d)(hq:0<q.d)(hm:∀e∈bW s,¬fR e p q):fK s p=fK s q:=by
 have key:∀r∈aE s,cD r p=cD r q:=λr hr=>tn (by have:=(h.ring hr).three;omega) hp hq λe he=>hm e (dI.2 ⟨r,hr,he⟩);unfold fK;rw[key _ cE]
 congr 1
 rw[eY,bZ,bZ];constructor
 .intro g r hr;rw[<-key r (cB _ hr)];exact g r hr
 .intro g r hr;rw[key r (cB _ hr)];exact g r hr
def Tg.filled{s:Shape}{D:List S}(T:Tg s D):Filled (bl s) (sides s D) (fK s):=by
 have h:=T.vs;refine⟨T.segs.net,λp q hp hq hm=> ?_,λu hu w hw hne hno hi=> ?_,⟨2000,by omega,λq hq hf=> ?_⟩⟩
 .exact MH h hp hq λe he=>hm e.a e.b (.inl (gZ _ he))
 .have c1:fE s ⟨u,w⟩=true:=Mf h hu hw hne (λe he x y k m hx hy hk hm'=>hno e.a e.b (.inl (gZ _ he)) x y k m hx hy hk hm') hi;have c2:fE s ⟨w,u⟩=true:=Mf h hw hu hne.symm (λe he x y k m hx hy hk hm'=>by rw[kU k m];exact hno e.a e.b (.inl (gZ _ he)) x y m k hx hy hm' hk) (by rw[kU];exact hi)
  rcases T.most u hu w hw hne c1 c2 with g|g|⟨d,hd,hm⟩
  .exact .inl (by grind)
  .exact .inr (by grind)
  .exfalso;obtain⟨_,_,m1,m2⟩:=El hm;obtain⟨x,y,k,m,hx,hy,hk,hm',g⟩:=Mb m1 m2;exact hno d.a d.b (.inl (fY _ hd)) x y k m (by omega) (by omega) hk hm' g
 .unfold fK;rw[NT (by have:=h.outer.three;omega) (Ea h.outer) hq hf];rfl
def yN(acc:List (Nat×Nat))(i k:Nat):Prop:=acc.Nodup/\∀p∈acc,p.1<i\/(p.1=i/\p.2<k)
def Vu{s:Shape}{v:List V}{acc:List (Nat×Nat)}{i k:Nat}(h:yN acc i k):yN (n8 s v acc i k) i (k+1):=by
 unfold n8;split
 .refine⟨?_,λp hp=> ?_⟩
  .rw[nC];refine⟨h.1,by simp,λa ha b hb e=> ?_⟩;obtain rfl:=bh.1 hb;subst e;have:=h.2 _ ha;simp at this
  .rcases bq.1 hp with hp|hp
   .have:=h.2 p hp;omega
   grind
 .exact⟨h.1,λp hp=>by have:=h.2 p hp;omega⟩
def Lv{s:Shape}{v:List V}{acc:List (Nat×Nat)}{i:Nat}(h:yN acc i (i+1)):∀m,yN (rowP s v acc i m) i (i+1+m)
 |0=>h
 |m+1=>Vu (Lv h m)
def NY(s:Shape)(v:List V):∀i,yN (da s v i) i (i+1)
 |0=>⟨List.nodup_nil,λp hp=>by cases hp⟩
 |i+1=>by
  have:=Lv (s:=s) (v:=v) (NY s v i) (v.length-(i+1));exact⟨this.1,λp hp=>by have:=this.2 p hp;omega⟩
def PR{s:Shape}(h:VS s){v:List V}(hv:∀x,x∈v↔x∈bl s)(hn:v.Nodup):Tg s (m5 s v):=by
 obtain⟨e,F⟩:=xR h (by grind) hn;have O:=NY s v v.length;have hD:∀d∈m5 s v,∃p∈c7 s v,d=cS v p:=by grind
 have ends:∀d∈m5 s v,d.a∈bl s/\d.b∈bl s/\d.a≠d.b:=λd hd=>by obtain⟨p,hp,rfl⟩:=hD d hd;have:=F.lt p hp;exact⟨(hv _).1 (dD (by omega)),(hv _).1 (dD this.2),λg=>by have:=ll hn (by omega) this.2 g;omega⟩
 refine⟨h,λd hd=> ?_,ends,λd hd d' hd'=> ?_,λa ha b hb hab c1 c2=> ?_,?_⟩
 .obtain⟨p,hp,rfl⟩:=hD d hd;exact F.chord p hp
 .have vd:∀d∈m5 s v,aj d=true:=λd hd=>by obtain⟨h1,h2,_⟩:=ends d hd;unfold aj;rw[ig (i9 h h1) (by omega),ig (i9 h h2) (by omega)];rfl
  have ap:(m5 s v).Pairwise λd e=>bn d e≠2:=(EF s v).apart.imp λ{a b} h=>by rw[pH];exact h
  rcases AE (λa b h=>by rw[lZ];exact h) ap d hd d' hd' with rfl|g
  .exact zN (p:=d.a) (by rw[j9];simp) ⟨fH (vd d hd),fH (vd d hd)⟩
  .exact g
 .obtain⟨i,hi,rfl⟩:=fO.1 ((hv a).2 ha);obtain⟨k,hk,rfl⟩:=fO.1 ((hv b).2 hb);rcases yR i k with g|g|g
  .rcases(EF s v).most i k g hk (.inl hi) (by rw[<-E0 h ha hb hab];exact c1)with m|⟨d,hd,m⟩
   .exact .inl m
   .exact .inr (.inr ⟨d,hd,by rw[pH];exact m⟩)
  .grind
  .rcases(EF s v).most k i g hi (.inl hk) (by rw[<-E0 h hb ha hab.symm];exact c2)with m|⟨d,hd,m⟩
   .grind
   .refine .inr (.inr ⟨d,hd,?_⟩);rw[<-pH]at m;rw[lZ]at m|-;exact wu m
 .rw[<-e,ia];have O1:=O.1;refine(CQ.1 O1).imp ?_;rintro p q ⟨hp,hq,hne⟩;have lp:=F.lt p hp;have lq:=F.lt q hq;refine⟨λg=> ?_,λg=> ?_⟩
  .unfold cS at g;simp only[S.mk.injEq]at g;have i1:=ll hn (by omega) (by omega) g.1;have i2:=ll hn (by omega) (by omega) g.2;grind
  .unfold cS at g;simp only[S.mk.injEq]at g;have i1:=ll hn (by omega) (by omega) g.1;have i2:=ll hn (by omega) (by omega) g.2;omega
end Geo
section
namespace Geo
def JF{a b c:V}(hne:c≠a)(n:Int){h:Int}(hc:0<ev (lin a b) (pt c))(hh:h<ev (lin a b) (pt c)):∃q,In (thin c a n) q/\In [lin a b,lin c a,over b c h] q:=by
 have hL2:=iQ hne;have e9:(a.x-c.x)*(a.x-c.x)-(a.y-c.y)* -(a.y-c.y)=bj c a:=by unfold bj;grind
 obtain⟨M0,hM0,hI⟩:=nQ hne (x:= -(a.y-c.y)) (y:=a.x-c.x) (by omega) n;have e1:∀M:Int,ev (lin a b) (ce c a M (-(a.y-c.y)) (a.x-c.x))=M*ev (lin a b) (pt c)+ev (lin a b) ⟨-(a.y-c.y),a.x-c.x,0⟩:=λM=>by unfold ev lin ce pt;grind
 generalize hk:ev (lin a b) ⟨-(a.y-c.y),a.x-c.x,0⟩=k at e1;have hP:=hI (M0+k.natAbs) (by omega);have hβ:0<ev (lin a b) (ce c a (M0+k.natAbs) (-(a.y-c.y)) (a.x-c.x)):=by rw[e1];have:=dg (show 1<=ev (lin a b) (pt c) by omega) (show 0<=M0+(k.natAbs:Int) by omega);omega
 generalize ce c a (M0+k.natAbs) (-(a.y-c.y)) (a.x-c.x)=P at*;obtain⟨p0,p1,p2,p3⟩:=kw.1 hP;have e0:ev (lin b c) (pt a)=ev (lin a b) (pt c):=gk a b c;refine⟨cmb (1+(ev (over b c h) P).natAbs) (pt a) 1 P,?_,by simp only[cmb,pt];omega,?_⟩
 .rw[kw,ai,ai,ai,cZ,pO,kB];have g1:=mpp (show 0<=1+((ev (over b c h) P).natAbs:Int) by omega) (show 0<=bj c a by omega);have g2:n*(1*ev (lin c a) P)=n*ev (lin c a) P:=by rw[Hz]
  refine⟨by simp only[cmb,pt];omega,by omega,?_,?_⟩<;>rw[dw,vN]at* <;>omega
 .simp only[bO,cl,or_false,forall_eq_or_imp,forall_eq];refine⟨?_,?_,?_⟩
  .rw[ai,cG];omega
  .rw[ai,cZ];omega
  .rw[ai];have ho:1<=ev (over b c h) (pt a):=by rw[ky,e0];show 1<=ev (lin a b) (pt c)-h*1;omega
   have:=dg ho (show 0<=1+((ev (over b c h) P).natAbs:Int) by omega);omega
section
variable {W:List V} {side:V->V->Prop} {ins:P3->Bool}
def Corner.both(H:Calm W side ins){a b c:V}{h:Int}(K:Corner W side a b c h)(hab:side a b)(hac:side a c)(hc:0<ev (lin a b) (pt c))(hh:h<ev (lin a b) (pt c)):Lft ins a b↔Lft ins c a:=by
 have N:=H.net;have key:∀{q1 q2:P3},In [lin a b,lin c a,over b c h] q1->In [lin a b,lin c a,over b c h] q2->ins q1=ins q2:=λh1 h2=>H.const (λu v huv=>K.free N huv) h1 h2;constructor
 .rintro⟨n0,hn⟩;obtain⟨q1,g1,g2⟩:=Dg (N.ne hab) n0 hc hh;refine xh H (N.symm hac) λn=> ?_;obtain⟨q2,k1,k2⟩:=JF (N.ne (N.symm hac)) n hc hh;grind
 .rintro⟨n0,hn⟩;obtain⟨q1,g1,g2⟩:=JF (N.ne (N.symm hac)) n0 hc hh;refine xh H hab λn=> ?_;obtain⟨q2,k1,k2⟩:=Dg (N.ne hab) n hc hh;grind
open Classical in
def WT(_N:Net W side){a b c:V}(hab:side a b)(hac:side a c)(hc:0<ev (lin a b) (pt c))(hs:∀x,side a x->¬(0<ev (lin a b) (pt x)/\0<ev (lin c a) (pt x))):∃h,h<ev (lin a b) (pt c)/\Corner W side a b c h:=by
 have top:∀w∈W,w≠a->0<=ev (lin a b) (pt w)->0<=ev (lin c a) (pt w)->ev (lin b c) (pt w)<ev (lin a b) (pt c):=by
  intro w _ hwa h1 h2;have:=E3 a b c (pt w);rw[show(pt w).d=1 from rfl,yQ]at this;refine ki.1 λg=>hwa ?_;have z1:ev (lin a b) (pt w)=0:=by omega
  have z2:ev (lin c a) (pt w)=0:=by omega
  have z3:ev (lin b c) (pt w)=ev (lin a b) (pt c):=by omega
  have q1:=Rz a b c ⟨1,0,0⟩ (pt w);have q2:=Rz a b c ⟨0,1,0⟩ (pt w);rw[z1,z2,z3,yP,yP,nD,nD]at q1 q2;have r1:=mK (by omega) q1;have r2:=mK (by omega) q2;simp only[ev,pt]at r1 r2;cases w;cases a;simp only[V.mk.injEq];simp only at r1 r2;omega
 obtain⟨M,hM⟩:∃h,0<=h/\h<ev (lin a b) (pt c)/\∀w∈W,w≠a->0<=ev (lin a b) (pt w)->0<=ev (lin c a) (pt w)->ev (lin b c) (pt w)<=h:=by
  by_cases hl:(W.filter λw=>decide (w≠a/\0<=ev (lin a b) (pt w)/\0<=ev (lin c a) (pt w)))=[]
  .refine⟨0,iz _,hc,λw hw h1 h2 h3=> ?_⟩;have:w∈(W.filter λw=>decide (w≠a/\0<=ev (lin a b) (pt w)/\0<=ev (lin c a) (pt w))):=by grind
   grind
  .obtain⟨w,hw,hm⟩:=BQ (λw=>ev (lin b c) (pt w)) hl;obtain⟨w1,w2⟩:=fB.1 hw;have w3:=of_decide_eq_true w2;have:=top w w1 w3.1 w3.2.1 w3.2.2;refine⟨max 0 (ev (lin b c) (pt w)),by omega,by omega,λu hu h1 h2 h3=> ?_⟩;grind
 exact⟨M,hM.2.1,hab,hac,hc,hs,hM.1,hM.2.2⟩
def KR(H:Calm W side ins){a b c:V}(hab:side a b)(hac:side a c)(hc:0<ev (lin a b) (pt c))(hs:∀x,side a x->x=b\/x=c):Lft ins a b↔Lft ins c a:=by
 obtain⟨h,hh,K⟩:=WT H.net hab hac hc λx hx ⟨h1,h2⟩=>by
  rcases hs x hx with rfl|rfl
  .rw[cZ]at h1;omega
  .rw[cG]at h2;omega
 exact K.both H hab hac hc hh
end
end Geo
end
section
namespace Geo
structure T3 where
 a:V
 b:V
 c:V
deriving DecidableEq
def T3.sides(t:T3):List S:=[⟨t.a,t.b⟩,⟨t.b,t.c⟩,⟨t.c,t.a⟩]
def T3.rot(t:T3):T3:=⟨t.b,t.c,t.a⟩
section
variable {W:List V} {side:V->V->Prop} {ins:P3->Bool}
structure All3(W:List V)(side:V->V->Prop)(ins:P3->Bool)(TL:List T3):Prop where
 tri:∀t∈TL,Tri W side ins t.a t.b t.c
 all:∀a b c,Tri W side ins a b c->(⟨a,b,c⟩:T3)∈TL\/(⟨b,c,a⟩:T3)∈TL\/(⟨c,a,b⟩:T3)∈TL
 once:TL.Pairwise λt u=>t≠u/\t≠u.rot/\t≠u.rot.rot
def wq{t:T3}{e:S}:e∈t.sides↔(e.a=t.a/\e.b=t.b)\/(e.a=t.b/\e.b=t.c)\/(e.a=t.c/\e.b=t.a):=by cases e;unfold T3.sides;grind
def All3.perm(H:Filled W side ins){TL:List T3}(A:All3 W side ins TL){DS:List S}(hn:DS.Nodup)(hm:∀e:S,e∈DS↔side e.a e.b/\Lft ins e.a e.b):(TL.flatMap T3.sides).Perm DS:=by
 have N:=H.net;refine(List.perm_ext_iff_of_nodup ?_ hn).2 λe=> ?_
 .rw[oe,List.flatMap_def,SC];refine⟨λl hl=> ?_,?_⟩
  .obtain⟨t,ht,rfl⟩:=bM.1 hl;have h:=A.tri t ht;have n2:=N.ne h.bc;unfold T3.sides;simp_all
  .rw[ia];refine(CQ.1 A.once).imp ?_;rintro t u ⟨ht,hu,h1,h2,h3⟩ e he e' he' rfl;have T:=A.tri t ht;have U:=A.tri u hu;have key:∀{a b c x:V},Tri W side ins a b c->Tri W side ins a b x->c=x:=λh h'=>UG N h h';cases t;cases u;rw[wq]at he he';rcases he with⟨e1,e2⟩|⟨e1,e2⟩|⟨e1,e2⟩<;>rcases he' with⟨f1,f2⟩|⟨f1,f2⟩|⟨f1,f2⟩<;>rw[e1]at f1<;>rw[e2]at f2<;>subst f1<;>subst f2
   .grind
   .have:=key T U.rot;subst this;exact h2 rfl
   .have:=key T U.rot.rot;subst this;exact h3 rfl
   .have:=key T.rot U;subst this;exact h3 rfl
   .have:=key T.rot U.rot;grind
   .have:=key T.rot U.rot.rot;subst this;exact h2 rfl
   .have:=key T.rot.rot U;subst this;exact h2 rfl
   .have:=key T.rot.rot U.rot;subst this;exact h3 rfl
   .have:=key T.rot.rot U.rot.rot;grind
 .rw[hm,dI];constructor
  .rintro⟨t,ht,he⟩;have T:=A.tri t ht;rcases wq.1 he with⟨e1,e2⟩|⟨e1,e2⟩|⟨e1,e2⟩<;>rw[e1,e2]
   .exact⟨T.ab,T.lft H⟩
   .exact⟨T.bc,T.rot.lft H⟩
   .exact⟨T.ca,T.rot.rot.lft H⟩
  .rintro⟨h1,h2⟩;obtain⟨c,T⟩:=z7 H h1 h2;rcases A.all _ _ _ T with g|g|g
   .exact⟨_,g,wq.2 (by grind)⟩
   .exact⟨_,g,wq.2 (by grind)⟩
   .exact⟨_,g,wq.2 (by grind)⟩
def J8(f:S->Int):∀TL:List T3,((TL.flatMap T3.sides).map f).sum=(TL.map λt=>f ⟨t.a,t.b⟩+f ⟨t.b,t.c⟩+f ⟨t.c,t.a⟩).sum
 |[] =>rfl
 |t::TL=>by
  have:=J8 f TL;rw[fX,dQ,yW,this,cT,yS];unfold T3.sides;grind
def All3.sum(H:Filled W side ins){TL:List T3}(A:All3 W side ins TL){DS:List S}(hn:DS.Nodup)(hm:∀e:S,e∈DS↔side e.a e.b/\Lft ins e.a e.b)(f:S->Int):
  (TL.map λt=>f ⟨t.a,t.b⟩+f ⟨t.b,t.c⟩+f ⟨t.c,t.a⟩).sum=(DS.map f).sum:=by
 rw[<-J8];exact Do ((A.perm H hn hm).map f)
open Classical in
def K9(N:Net W side)(ins:P3->Bool)(hW:W.Nodup):∃TL,All3 W side ins TL:=by
 refine⟨(W.flatMap λa=>W.flatMap λb=>W.map λc=>(⟨a,b,c⟩:T3)).filter λt=>decide (Tri W side ins t.a t.b t.c/\bf t.a t.b=true/\bf t.a t.c=true),λt ht=> ?_,λa b c h=> ?_,?_⟩
 .grind
 .have wa:=N.mem h.ab;have wb:=N.mem h.bc;have wc:=N.mem h.ca;have n1:=N.ne h.ab;have n2:=N.ne h.bc;have n3:=N.ne h.ca;have inl:∀{a b c:V},a∈W->b∈W->c∈W->Tri W side ins a b c->bf a b=true->bf a c=true->(⟨a,b,c⟩:T3)∈(W.flatMap λa=>W.flatMap λb=>W.map λc=>(⟨a,b,c⟩:T3)).filter λt=>decide (Tri W side ins t.a t.b t.c/\bf t.a t.b=true/\bf t.a t.c=true):=
   by grind
  by_cases g1:bf a b=true
  .by_cases g2:bf a c=true
   .grind
   .have g3:=zn (by grind) n3.symm;exact .inr (.inr (inl wc wa wb h.rot.rot g3 (tL g3 g1)))
  .have g3:=zn (by grind) n1;by_cases g2:bf b c=true
   .exact .inr (.inl (inl wb wc wa h.rot g2 g3))
   .have g4:=zn (by grind) n2;exact .inr (.inr (inl wc wa wb h.rot.rot (tL g4 g3) g4))
 .have nd:(W.flatMap λa=>W.flatMap λb=>W.map λc=>(⟨a,b,c⟩:T3)).Nodup:=by
   rw[oe]at hW|-;rw[List.flatMap_def,SC];refine⟨λl hl=> ?_,?_⟩
   .grind
   .grind
  refine(CQ.1 (oe.1 (nd.filter _))).imp ?_;rintro t u ⟨ht,hu,hne⟩;have T:=(of_decide_eq_true (fB.1 ht).2).2;have U:=(of_decide_eq_true (fB.1 hu).2).2;refine⟨hne,λe=> ?_,λe=> ?_⟩
  .rw[e]at T;have:=tL U.1 T.2;unfold T3.rot at this;rw[wD]at this;cases this
  .rw[e]at T;have:=tL U.2 T.1;unfold T3.rot at this;rw[wD]at this;cases this
end
end Geo
end
section
namespace Geo
def swp(e:S):S:=⟨e.b,e.a⟩
def My(e:S):swp (swp e)=e:=rfl
section
variable {W:List V} {side:V->V->Prop} {ins:P3->Bool}
def O0(H:Calm W side ins){a b:V}(hab:side a b):∃N0:Int,1<=N0/\∀n,N0<=n->(∀u v,side u v->fS (thin a b n) ⟨u,v⟩)/\∀q,In (thin a b n) q->(Lft ins a b↔ins q=true):=by
 obtain⟨N0,h1,h2⟩:=H.net.thin hab;refine⟨N0,h1,λn hn=>⟨h2 n hn,λq hq=>⟨λ⟨m,hm⟩=> ?_,λhi=>xh H hab λm=> ?_⟩⟩⟩
 .obtain⟨p,hp⟩:=wn (H.net.ne hab) (max n m);rw[H.const (h2 n hn) hq (qK (by omega) hp)];grind
 .obtain⟨p,hp⟩:=wn (H.net.ne hab) (max n m);exact⟨p,qK (by omega) hp,by rw[<-hi];exact H.const (h2 n hn) (qK (by omega) hp) hq⟩
end
def VR.wM{r:aD}(h:VR r):(aJ r).Nodup:=by unfold aJ;rw[if_neg (by have:=h.three;omega),oe,ia];refine(CQ.1 (oe.1 List.nodup_range)).imp ?_;rintro i k ⟨hi,hk,hne⟩ e;exact hne (h.inj (by grind) (by grind) (congrArg S.a e))
def VR.ZC{r:aD}(h:VR r){e:S}(he:e∈aJ r):swp e∉aJ r:=by
 intro hs;have h3:=h.three;obtain⟨_,i,hi,rfl⟩:=mem_edges.1 he;obtain⟨_,k,hk,e⟩:=mem_edges.1 hs;have e1:nth r ((i+1) % r.length)=nth r k:=congrArg S.a e;have e2:nth r i=nth r ((k+1) % r.length):=congrArg S.b e;have m1:=bk (i+1) (show 0<r.length by omega);have m2:=bk (k+1) (show 0<r.length by omega);have i1:=h.inj m1 hk e1;have i2:=h.inj hi m2 e2;by_cases g1:i+1<r.length
 .rw[dj g1]at i1;by_cases g2:k+1<r.length
  .rw[dj g2]at i2;omega
  .rw[show k+1=r.length by omega,kK]at i2;omega
 .rw[show i+1=r.length by omega,kK]at i1;rw[dj (by omega)]at i2;omega
def VR.calm{r:aD}(h:VR r):Calm r (eR (aJ r)) (cD r):=by refine⟨(NA (λv hv=>ig (tw h.near hv) (by omega)) (λe he=>⟨(iP he).1,(iP he).2,h.rt he⟩) (λe he v hv ho=>h.J6 hv he ho) (λe he d hd=>h.nocross he hd)).net,λp q hp hq hm=> ?_⟩;exact tn (by have:=h.three;omega) hp hq λe he=>hm e.a e.b (.inl he)
def VR.flip{r:aD}(h:VR r){a b:V}(he:(⟨a,b⟩:S)∈aJ r):Lft (cD r) a b↔¬Lft (cD r) b a:=by
 have C:=h.calm;have hab:eR (aJ r) a b:= .inl he;have hne:=C.net.ne hab;obtain⟨n1,_,h1⟩:=O0 C hab;obtain⟨n2,_,h2⟩:=O0 C (C.net.symm hab);obtain⟨p,q,hp,hq,hpq⟩:=Geo.flip (r:=r) (by have:=h.three;omega) h.wM hne he (N:=max n1 n2) (by omega) λe he' hn=>by
  have hs:eR (aJ r) e.a e.b:= .inl he';refine⟨?_,(h1 _ (by omega)).1 _ _ hs,(h2 _ (by omega)).1 _ _ hs⟩;rcases C.net.off hab hs with g|⟨g1,g2⟩|⟨g1,g2⟩
  .exact g
  .exact absurd (by cases e;grind) hn
  .exfalso;refine h.ZC he ?_;have:swp ⟨a,b⟩=e:=by cases e;simp only at g1 g2;unfold swp;rw[g1,g2]
   grind
 grind
def VR.around{r:aD}(h:VR r){i:Nat}(hi:i<r.length){x:V}(hx:eR (aJ r) (nth r ((i+1) % r.length)) x):x=nth r ((i+1+1) % r.length)\/x=nth r i:=by
 have hm:=bk (i+1) (show 0<r.length by omega);rcases hx with hx|hx
 .obtain⟨_,k,hk,e⟩:=mem_edges.1 hx;have e1:=h.inj hm hk (congrArg S.a e);have e2:x=nth r ((k+1) % r.length):=congrArg S.b e;refine .inl ?_;rw[e2,<-e1,kN]
 .obtain⟨_,k,hk,e⟩:=mem_edges.1 hx;have e1:=h.inj hm (bk (k+1) (by grind)) (congrArg S.b e);have e2:x=nth r k:=congrArg S.a e;refine .inr ?_;rw[e2]
  congr 1
  by_cases g1:i+1<r.length<;>by_cases g2:k+1<r.length
  .rw[dj g1,dj g2]at e1;omega
  .rw[dj g1,show k+1=r.length by omega,kK]at e1;omega
  .rw[dj g2,show i+1=r.length by omega,kK]at e1;omega
  .omega
def Aj{r:aD}(h:VR r){i:Nat}(hi:i<r.length):bL r i∈aJ r:=mem_edges.2 ⟨by have:=h.three;omega,i,hi,rfl⟩
def VR.next{r:aD}(h:VR r){i:Nat}(hi:i<r.length):Lft (cD r) (bL r i).a (bL r i).b↔Lft (cD r) (bL r ((i+1) % r.length)).a (bL r ((i+1) % r.length)).b:=by
 have C:=h.calm;have hm:=bk (i+1) (show 0<r.length by omega);have t:=h.turn' i hi;have ei:bL r i=⟨nth r i,nth r ((i+1) % r.length)⟩:=rfl;have ek:bL r ((i+1) % r.length)=⟨nth r ((i+1) % r.length),nth r ((i+1+1) % r.length)⟩:=by show(⟨_,nth r (((i+1) % r.length+1) % r.length)⟩:S)=_;rw[kN]
 have m1:=Aj h hi;have m2:=Aj h hm;have ar:=λx=>h.around hi (x:=x);rw[ei]at m1|-;rw[ek]at m2|-;unfold Geo.turn at t;rw[Ne,nU,<-eM]at t;generalize nth r i=u at*;generalize nth r ((i+1) % r.length)=v at*;generalize nth r ((i+1+1) % r.length)=w at*;rcases lK t with g|g
 .have g':0<ev (lin v u) (pt w):=by rw[jl];omega
  have:=KR C (.inr m1) (.inl m2) g' (by grind);rw[h.flip m1,h.flip m2,this]
 .have g':0<ev (lin v w) (pt u):=by rw[gk];exact g
  exact(KR C (.inl m2) (.inr m1) g' ar).symm
def VR.E9{r:aD}(h:VR r):∀i,i<r.length->(Lft (cD r) (bL r i).a (bL r i).b↔Lft (cD r) (bL r 0).a (bL r 0).b)
 |0,_=>Iff.rfl
 |i+1,hi=>by
  have:=h.next (i:=i) (by omega);rw[dj hi]at this;rw[<-this];exact h.E9 i (by omega)
def Nn{s:Shape}{D:List S}(T:Tg s D){a b:V}(hab:sides s D a b)(hi:fK s (cmb 1 (pt a) 1 (pt b))=true)
  (ho:∀e∈bW s,∀x y k:Int,0<=x->0<=y->0<k->cmb x (pt e.a) y (pt e.b)≠cmb k (pt a) k (pt b)):Lft (fK s) a b:=by
 have H:=T.filled;have hne:=H.net.ne hab;have hL:=iQ hne;refine xh H.calm hab λn=> ?_;obtain⟨N0,_,h2⟩:=H.net.thin hab;obtain⟨q,hq⟩:=wn hne (max n N0);refine⟨q,qK (by omega) hq,?_⟩;rw[<-hi];refine MH T.vs hq.1 (by simp[cmb,pt]) λe he hm=> ?_;obtain⟨x,y,t,k,hx,hy,hxy,ht,hk,g⟩:=hm;rcases bo 0 t with ht'|ht'
 .obtain⟨f,hf,hle⟩:=h2 (max n N0) (by omega) e.a e.b (.inl (gZ _ he)) x y hx hy hxy;have e1:x*ev f (pt e.a)+y*ev f (pt e.b)=t*ev f q+k*(ev f (pt a)+ev f (pt b)):=by rw[<-ai,g,ai,ai,Hz,Hz]
  dsimp only at hle;have p1:=bV ht' (hq.2 f hf);have p2:0<=ev f (pt a)+ev f (pt b):=by
   unfold thin at hf;simp only[bO,cl,or_false]at hf;rcases hf with rfl|rfl|rfl
   .rw[cG,cZ];omega
   .rw[ko,ko,cG,cZ,kB,pO];omega
   .rw[nY,nY,cG,cZ,kB,pO,zo];omega
  have:=mpp hk p2;omega
 .have:t=0:=by omega
  subst this;have hd:=congrArg P3.d g;simp only[cmb,pt]at hd;refine ho e he x y k hx hy (by omega) ?_;rw[g];unfold cmb;grind
def nP{s:Shape}{D:List S}(T:Tg s D){d e:S}(hd:d∈D)(he:e∈bW s):e≠d/\e≠swp d:=by
 have h:=T.vs;have hc:=T.chord d hd;obtain⟨d1,d2,d3⟩:=T.ends d hd;have vd:aj d=true:=by unfold aj;rw[ig (i9 h d1) (by omega),ig (i9 h d2) (by omega)];rfl
 have ve:=zE h he;unfold fE at hc;rw[bm,bZ]at hc;have ht:=hc.1 e he;have k:br e d e.a->br e d e.b->False:=λo1 o2=>by have:=(nZ e d).over e.a e.b (by simp) (by simp) (h.rt he) o1 o2;unfold cC at ht;grind
 refine⟨λg=> ?_,λg=> ?_⟩
 .subst g;exact k ⟨fH ve,fH ve⟩ ⟨jE ve,jE ve⟩
 .subst g;exact k ⟨fH ve,jE vd⟩ ⟨jE ve,fH vd⟩
def MY{s:Shape}{D:List S}(T:Tg s D){a b:V}(hd:(⟨a,b⟩:S)∈D\/(⟨b,a⟩:S)∈D):∀e∈bW s,∀x y k:Int,0<=x->0<=y->0<k->cmb x (pt e.a) y (pt e.b)≠cmb k (pt a) k (pt b):=by
 intro e he x y k hx hy hk g;have N:=T.segs.net;have hab:sides s D a b:=hd.imp (by grind) (by grind);have hs:sides s D e.a e.b:= .inl (gZ _ he);have vt:∀{v:V} {y:Int},v∈bl s->cmb k (pt a) k (pt b)=cmb y (pt v) 0 (pt v)->0<y->False:=λ{v y} hv g hy=>by
  rcases N.clear hab hv k k y (by omega) (by omega) g hy with rfl|rfl
  .have:=uB (a:=v) (b:=b) (s:=k) hk (by rw[g];have:=congrArg P3.d g;simp only[cmb,pt]at this|-;grind);exact N.ne hab this.symm
  .have:=uB (a:=v) (b:=a) (s:=k) hk (by rw[kU,g];have:=congrArg P3.d g;simp only[cmb,pt]at this|-;grind);exact N.ne hab this
 have hd0:=congrArg P3.d g;rw[tT,tT]at hd0;have ev:=DW he;rcases bo 0 x with hx'|hx'
 .rcases bo 0 y with hy'|hy'
  .rcases N.apart hs hab _ _ _ _ hx' hy' hk hk g with⟨e1,e2⟩|⟨e1,e2⟩<;>rcases hd with hd|hd
   .exact(nP T hd he).1 (by cases e;grind)
   .exact(nP T hd he).2 (by cases e;simp only at e1 e2;rw[e1,e2];rfl)
   .exact(nP T hd he).2 (by cases e;simp only at e1 e2;rw[e1,e2];rfl)
   .exact(nP T hd he).1 (by cases e;grind)
  .have:y=0:=by omega
   subst this;exact vt ev.1 (by rw[<-g];unfold cmb;simp) hx'
 .have:x=0:=by omega
  subst this;exact vt ev.2 (by rw[<-g];unfold cmb;simp) (show 0<y by omega)
def MZ{s:Shape}{D:List S}(T:Tg s D){d:S}(hd:d∈D):Lft (fK s) d.a d.b/\Lft (fK s) d.b d.a:=by obtain⟨d1,d2,_⟩:=T.ends d hd;have hi:=YO T.vs d1 d2 (T.chord d hd);refine⟨Nn T (.inl (fY _ hd)) hi (MY T (.inl hd)),Nn T (.inr (fY _ hd)) ?_ (MY T (.inr hd))⟩;rw[kU];exact hi
end Geo
end
namespace Geo
def lI(E D:List S):List S:=E++(D++D.map swp)
def FF{l:List S}(h:l.Nodup):(l.map swp).Nodup:=by rw[oe]at h|-;rw[ia];exact h.imp λ{a b} hne e=>hne (by rw[<-My a,e,My])
def lm{l:List S}{e:S}:e∈l.map swp↔swp e∈l:=by rw[bM];exact⟨λ⟨d,hd,e⟩=>by rw[<-e];exact hd,λh=>⟨swp e,h,rfl⟩⟩
def Jv{s:Shape}{D E:List S}(T:Tg s D)(hE:E.Nodup)(hs:∀e∈E,e∈bW s\/swp e∈bW s):(lI E D).Nodup:=by
 have off:∀e∈E,∀d∈D,e≠d/\e≠swp d:=λe he d hd=>by
  rcases hs e he with g|g
  .exact nP T hd g
  .have:=nP T hd g;exact⟨by grind,λh=>this.1 (by rw[h];rfl)⟩
 have hD:D.Nodup:=oe.2 (T.once.imp (by grind));unfold lI;rw[nC,nC];refine⟨hE,⟨hD,FF hD,λa ha b hb e=> ?_⟩,λa ha b hb e=> ?_⟩
 .subst e;rw[lm]at hb;rcases AE (R:=λd e:S=>d≠swp e) (λa b h e=>h (by rw[e];rfl)) (T.once.imp λ{a b} h=>h.2) _ ha _ hb with g|g
  .exact(T.ends a ha).2.2 (congrArg S.a g)
  .exact g rfl
 grind
def MX{s:Shape}{D E:List S}(T:Tg s D)(hm:∀e:S,e∈E↔eR (bW s) e.a e.b/\Lft (fK s) e.a e.b)(e:S):e∈lI E D↔sides s D e.a e.b/\Lft (fK s) e.a e.b:=by
 unfold lI;rw[bq,bq,lm,hm];constructor
 .rintro(⟨h1,h2⟩|h|h)
  .exact⟨h1.imp (by grind) (by grind),h2⟩
  .exact⟨.inl (fY _ h),(MZ T h).1⟩
  .exact⟨.inr (fY _ h),(MZ T h).2⟩
 .rintro⟨h1,h2⟩;rcases h1 with h|h<;>rcases bq.1 h with h|h
  .exact .inl ⟨.inl h,h2⟩
  .simp_all
  .exact .inl ⟨.inr h,h2⟩
  .exact .inr (.inr h)
def W4(f:S->Int)(E D:List S):((lI E D).map f).sum=(E.map f).sum+(D.map λd=>f d+f (swp d)).sum:=by unfold lI;rw[dQ,dQ,yW,yW,cv,xL];rfl
def ER{α:Type}{f:α->Int}:∀{l:List α},(∀x∈l,f x=0)->(l.map f).sum=0
 |[],_=>rfl
 |x::l,h=>by rw[cT,yS,h x (by grind),ER (by grind)];rfl
def JG{α:Type}{f:α->Int}:∀{l:List α},(∀x∈l,0<=f x)->0<=(l.map f).sum
 |[],_=>iz _
 |x::l,h=>by
  have:=JG λy hy=>h y (cB _ hy);grind
def WP(a b c:V):cross a b+cross b c+cross c a=ev (lin a b) (pt c):=by unfold cross ev lin pt;grind
def VR.alone{r:aD}(h:VR r):VS ⟨r,[]⟩:=by refine⟨Nat.zero_le _,h,by grind,?_,by grind,by grind,by grind,by grind,by grind⟩;have:=h.most;unfold fN aE;grind
def VR.left{r:aD}(h:VR r){e:S}(he:e∈aJ r):Lft (cD r) e.a e.b:=by
 obtain⟨_,i,hi,rfl⟩:=mem_edges.1 he;rw[h.E9 i hi];refine eW λhn=> ?_;have hv:=h.alone;have hvs:bl ⟨r,[]⟩=r:=by unfold bl aE;simp
 have hes:bW ⟨r,[]⟩=aJ r:=by unfold bW aE;simp
 have T:=PR hv (v:=r) (by grind) h.nodup;have H:=T.filled;have hi':fK ⟨r,[]⟩=cD r:=by funext p;unfold fK;simp
 obtain⟨TL,A⟩:=K9 H.net (fK ⟨r,[]⟩) hv.nodup;have no:∀e∈aJ r,¬Lft (cD r) e.a e.b:=λe he=>by obtain⟨_,i,hi,rfl⟩:=mem_edges.1 he;rw[h.E9 i hi];exact hn
 have hm:∀e:S,e∈(aJ r).map swp↔eR (bW ⟨r,[]⟩) e.a e.b/\Lft (fK ⟨r,[]⟩) e.a e.b:=λe=>by
  rw[lm,hi',hes];constructor
  .intro g;refine⟨.inr g,eW λhx=>no _ g ?_⟩;exact(h.flip (a:=e.b) (b:=e.a) g).2 hx
  .rintro⟨g|g,g2⟩
   .grind
   .exact g
 have nd:=Jv T (FF h.wM) λe he=> .inr (by rw[hes];exact lm.1 he);have S1:=A.sum H nd (MX T hm) (λe=>cross e.a e.b);rw[W4,ER (f:=λd:S=>cross d.a d.b+cross (swp d).a (swp d).b) λd _=>by unfold cross swp;grind,cv]at S1;have e1:((aJ r).map ((λe:S=>cross e.a e.b)∘swp)).sum= -Geo.area r:=by
  rw[wV (by omega)];have:((aJ r).map λe=>cross e.a e.b+((λe:S=>cross e.a e.b)∘swp) e).sum=0:=ER λd _=>by simp only[yT,cross,swp];grind
  rw[xL]at this;omega
 have S2:0<=(TL.map λt=>cross t.a t.b+cross t.b t.c+cross t.c t.a).sum:=JG λt ht=>by rw[WP];have:=(A.tri t ht).left;omega
 have:=h.area;grind
def VR.right{r:aD}(h:VR r){e:S}(he:e∈aJ r):¬Lft (cD r) e.b e.a:=(h.flip he).1 (h.left he)
end Geo
end Go.Proofs.YtdaeofhdgabhjaaGreat
