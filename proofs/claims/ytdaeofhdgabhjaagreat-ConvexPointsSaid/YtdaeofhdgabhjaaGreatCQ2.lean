/- What the statement stands on: contracts of functions, plain laws. Part 2 of 7, no condition of its own. (I18 I19 I20 I21 I22 I23 I24 I25 I26 I27 I28 I29 I30 I31 I32 I33 I34 I35 I36 I37 I38 I40 I41 I39 I42 I43 I44 N1 E0 E5 N2 N3 E12 N4 N5 N6 N7 N19) -/
import Derived.Test.YtdaeofhdgabhjaaGreatCQ1
import Derived.WalkKit
import Derived.Below
import Derived.Deep.MidRow
import Derived.Test.YtdaeofhdgabhjaaGreatProg
import Derived.WalkSpells
import Derived.WalkLawsBesides
import Derived.Lib.Hide
import Derived.Deep.QuietTactic
import Derived.BigQuiet
import Derived.WalkSmall
import Derived.Deep.RegionHeld3
import Derived.LoopTactic
import Derived.Orders
import Derived.Laws.OwnMore
import Derived.Maps.AppendAt
import Derived.Laws.Small
set_option linter.all false
set_option maxRecDepth 100000
set_option maxHeartbeats 8000000
open Int renaming lt_trichotomy->o4,mul_nonpos_of_nonneg_of_nonpos->yp,mul_eq_zero->cp,mul_neg_of_pos_of_neg->fk,not_le->ko,mul_nonneg->bm,mul_pos->aa,mul_nonpos_of_nonpos_of_nonneg->IU,le_refl->i9,add_zero->nT,lt_or_gt_of_ne->kU,lt_or_le->bl,mul_zero->dU,mul_le_mul_of_nonneg_left->dG,le_of_lt->gR,zero_mul->tU,add_mul->o6,mul_comm->eS,mul_neg->lh,mul_neg_of_neg_of_pos->lZ,mul_pos_of_neg_of_neg->vj
open List renaming mem_cons_of_mem->bk,mem_cons->aj,not_mem_nil->cG,mem_filter->fF,mem_flatMap->cQ,all_eq_true->bf,mem_cons_self->bo,map_cons->cv,flatMap_cons->fG,mem_append_right->fB,mem_flatten->kY,mem_append_left->fT,map_append->dR,mem_append->bi,mem_map->bR,Pairwise.imp->Cg,pairwise_iff_getElem->om,mem_iff_getElem->io,pairwise_map->i8,append_assoc->kD,singleton_append->Ch,perm_append_comm->vn,cons_append->jn,nodup_cons->kq,append_of_mem->yu,perm_cons_erase->Sd,eq_nil_or_concat->Se,nodup_append->nR,flatMap_map->Ia,length_append->gi,length_cons->gu,append_nil->Ci,flatMap_append->vz,getElem?_append_right->kW,filter_append->qQ,exists_mem_of_ne_nil->Ib,flatMap_def->IY,Nodup->o9,pairwise_flatten->IZ,map_nil->kZ,filter_cons_of_pos->Ic,getElem?_drop->vo,getElem?_take->o5,mem_range->cF,range->bV,length_eq_zero_iff->mc,map_toArray->Ii,length_take->lm,getElem?_map->gS,lookup->hZ,take_of_length_le->ip,replicate->cS,replicate_succ->wF,flatten_cons->mX,getElem?_append_left->mW,mem_replicate->Si,length_map->db,length->fh,getElem?_eq_getElem->fA,lookup_cons->dV
open Bool renaming and_eq_true->bn,eq_false_iff->o7,eq_false_or_eq_true->Sf,not_eq_true'->Cc,false_eq_true->lc
open Classical renaming byContradiction->cu
open Nat renaming mod_eq_of_lt->dp,add_mod_right->oj,mod_lt->bw,le_refl->bX,lt_or_ge->nU,le_trans->cO,zero_add->jo,mul_le_mul->wC,eq_zero_or_pos->qN,mul_eq_zero->Ij,decEq->pD,add_mul->y5,le_mul_of_pos_right->Sj
open Ne renaming symm->o8
open Prod renaming snd->yv
open Go.World renaming frozen?->Ie,block_lt_of_cell?->jp,cell?_of_block->jA,ownsRow_nil->Im
open Array renaming getElem?_modify->If,getD_eq_getD_getElem?->gG,getElem?_eq_getElem->v6,getElem?_setIfInBounds->v7,toList_inj->pC,length_toList->y4,range->Il,map->td
open Go.Region renaming binds->gv,ready->Ck,wanted->iS
open Option renaming map_some->eE,getD_some->ku,bind_some->qS,map_eq_some_iff->ll,isSome_iff_exists->pB,bind_eq_some_iff->qT,some.injEq->fm
open Go.Code renaming region->yx
open Go.Act renaming put->mZ
open Go.Instr renaming loadAt->Cm,sureAddr->Cn,indexAt->Ih,sliceBounds->Cq
open Go.Sem renaming run_bind->cg,run_pure->dc
open Go.Op renaming operands->cX,equalIn->tZ,intArith->Ig,intCmp->yy
open Go.Result renaming andThen_ok->cl
open Go.Value renaming int->cY,ownBlock->Co,cells->Ik
open Go.Addr renaming add_mid->v8
open Go.Call renaming operands->jT
open Go.Obj renaming map->wD
open Go.Deferred renaming ofValue->te
open Go.IntKind renaming i64->iq
open Go.RowKit
open Go.Proofs.YtdaeofhdgabhjaaGreat.Geo
namespace Go.Proofs.YtdaeofhdgabhjaaGreat
section
namespace Geo
def Up(x:V):Prop:=0<x.y\/(x.y=0/\0<x.x)
def Dn(x:V):Prop:=x.y<0\/(x.y=0/\x.x<0)
instance(x:V):Decidable (Up x):=by unfold Up;infer_instance
instance(x:V):Decidable (Dn x):=by unfold Dn;infer_instance
def neg(x:V):V:=⟨-x.x,-x.y⟩
def xx(x:V):Up (neg x)↔Dn x:=by unfold Up Dn neg;grind
def q8(x:V):Dn (neg x)↔Up x:=by unfold Up Dn neg;grind
def Up.not{x:V}(h:Up x):¬Dn x:=by unfold Up Dn at*;omega
def Pr(x:V):Up x\/Dn x\/x=⟨0,0⟩:=by
 unfold Up Dn;rcases o4 x.y 0 with h|h|h
 .omega
 .rcases o4 x.x 0 with g|g|g
  .omega
  .exact .inr (.inr (by cases x;grind))
  omega
 omega
def Ay{y z:V}{α β:Int}(hy:Dn y)(hz:Dn z)(ha:0<=α)(hb:0<β):Dn ⟨α*y.x+β*z.x,α*y.y+β*z.y⟩:=by
 unfold Dn at*;dsimp only;have py:y.y<=0:=by omega
 have pz:z.y<=0:=by omega
 have m1:α*y.y<=0:=yp ha py;have m2:β*z.y<=0:=yp (by omega) pz;by_cases g:α*y.y+β*z.y<0
 .exact .inl g
 .have e1:α*y.y=0:=by omega
  have e2:β*z.y=0:=by omega
  have z0:z.y=0:=by rcases cp.1 e2 with h|h<;>omega
  have m3:β*z.x<0:=fk hb (by omega);have m4:α*y.x<=0:=by
   rcases cp.1 e1 with h|h
   .grind
   .exact yp ha (by omega)
  omega
def Pd{x:V}{k:Int}(hk:0<k)(h:Dn ⟨k*x.x,k*x.y⟩):Dn x:=by
 unfold Dn at*;dsimp only at h;rcases h with h|⟨h1,h2⟩
 .refine .inl (ko.1 λg=> ?_);have:=bm (show 0<=k by omega) g;omega
 .refine .inr ⟨by rcases cp.1 h1 with h|h<;>omega,ko.1 λg=> ?_⟩;have:=bm (show 0<=k by omega) g;omega
def lf(p q:Int)(x:V):Int:=p*x.x+q*x.y
def Fk{x y z:V}{p q:Int}(hx:0<lf p q x)(hy:0<lf p q y)(hz:0<lf p q z)(ux:Up x)(dy:Dn y)(dz:Dn z)(h:0<cross x y):0<cross x z:=by
 refine ko.1 λg=> ?_;have e:cross z y*lf p q x= -(cross x z)*lf p q y+cross x y*lf p q z:=by unfold cross lf;grind
 have p1:=bm (show 0<= -(cross x z) by omega) (show 0<=lf p q y by omega);have p2:=aa h hz;have k:0<cross z y:=ko.1 λg'=>by have:=IU g' (show 0<=lf p q x by omega);omega
 refine ux.not (Pd k ?_);have ex:cross z y*x.x= -(cross x z)*y.x+cross x y*z.x:=by unfold cross;grind
 have ey:cross z y*x.y= -(cross x z)*y.y+cross x y*z.y:=by unfold cross;grind
 rw[ex,ey];exact Ay dy dz (by omega) h
def Lj(x y:V):cross (neg x) (neg y)=cross x y:=by unfold cross neg;grind
def Gq(p q:Int)(x:V):lf (-p) (-q) (neg x)=lf p q x:=by unfold lf neg;grind
def No{x y z:V}{p q:Int}(hx:0<lf p q x)(hy:0<lf p q y)(hz:0<lf p q z)(ux:Dn x)(dy:Up y)(dz:Up z)(h:0<cross x y):0<cross x z:=by rw[<-Lj]at h|-;exact Fk (p:= -p) (q:= -q) (by rw[Gq];exact hx) (by rw[Gq];exact hy) (by rw[Gq];exact hz) ((xx x).2 ux) ((q8 y).2 dy) ((q8 z).2 dz) h
def iU(x y:V):cross y x= -cross x y:=by unfold cross;grind
def Ag{x y:V}{p q:Int}(hx:0<lf p q x)(hy:0<lf p q y)(ux:Up x)(dy:Dn y):cross x y≠0:=λh=>by
 have e1:lf p q y*x.x=lf p q x*y.x:=by unfold cross lf at*;grind
 have e2:lf p q y*x.y=lf p q x*y.y:=by unfold cross lf at*;grind
 refine ux.not (Pd hy ?_);have:=Ay dy dy (i9 0) hx;grind
def cr(x y:V):Int:=if Up x↔Up y then 0 else sgn (cross x y)
def uj{x y:V}(h:Up x↔Up y):cr x y=0:=if_pos h
def sU{x y:V}(h:¬(Up x↔Up y)):cr x y=sgn (cross x y):=if_neg h
def Et(n:Int):sgn (-n)= -sgn n:=by unfold sgn;grind
def PG{m n:Int}(hm:m≠0)(hn:n≠0)(h:0<m↔0<n):sgn m=sgn n:=by unfold sgn;grind
def GL{x y z:V}{p q:Int}(hx:0<lf p q x)(hy:0<lf p q y)(hz:0<lf p q z):cr x y+cr y z=cr x z:=by
 have k:∀{x:V},0<lf p q x->¬Up x->Dn x:=λ{x} h g=>by
  rcases Pr x with e|e|e
  .grind
  .exact e
  .rw[e]at h;unfold lf at h;simp at h
 have pair:∀{x y z:V},0<lf p q x->0<lf p q y->0<lf p q z->¬(Up x↔Up y)->(Up y↔Up z)->sgn (cross x y)=sgn (cross x z):=by
  intro x y z hx hy hz h1 h2;by_cases ux:Up x
  .have dy:Dn y:=by grind
   have dz:Dn z:=by grind
   exact PG (Ag hx hy ux dy) (Ag hx hz ux dz) ⟨Fk hx hy hz ux dy dz,Fk hx hz hy ux dz dy⟩
  .have dx:=k hx ux;have uy:Up y:=by grind
   have uz:=h2.1 uy;refine PG (λg=>Ag hy hx uy dx (by rw[iU];omega)) (λg=>Ag hz hx uz dx (by rw[iU];omega)) ⟨No hx hy hz dx uy uz,No hx hz hy dx uz uy⟩
 by_cases h1:Up x↔Up y
 .rw[uj h1,Int.zero_add];by_cases h2:Up y↔Up z
  .rw[uj h2,uj (h1.trans h2)]
  .rw[sU h2,sU (by grind),iU z y,iU z x,Et,Et,pair hz hy hx (by grind) h1.symm]
 .by_cases h2:Up y↔Up z
  .rw[uj h2,nT,sU h1,sU (by grind),pair hx hy hz h1 h2]
  .have h3:Up x↔Up z:=by by_cases a:Up x<;>by_cases b:Up y<;>by_cases c:Up z<;>simp_all
   rw[uj h3,sU h1,sU h2,iU y x,Et,pair hy hx hz (by grind) h3];omega
def UO{p q:V}(h:cross p q≠0):cr p q=cr p ⟨p.x+q.x,p.y+q.y⟩+cr ⟨p.x+q.x,p.y+q.y⟩ q:=by
 have e1:lf (sgn (cross p q)*(q.y-p.y)) (sgn (cross p q)*(p.x-q.x)) p=sgn (cross p q)*cross p q:=by unfold lf cross;grind
 have e2:lf (sgn (cross p q)*(q.y-p.y)) (sgn (cross p q)*(p.x-q.x)) q=sgn (cross p q)*cross p q:=by unfold lf cross;grind
 have e3:lf (sgn (cross p q)*(q.y-p.y)) (sgn (cross p q)*(p.x-q.x)) ⟨p.x+q.x,p.y+q.y⟩=2*(sgn (cross p q)*cross p q):=by unfold lf cross;grind
 have k:0<sgn (cross p q)*cross p q:=by
  rcases kU h with g|g
  .rw[show sgn (cross p q)= -1 by unfold sgn;omega];omega
  .rw[show sgn (cross p q)=1 by unfold sgn;rw[if_pos g]];omega
 exact(GL (by rw[e1];exact k) (by omega) (by omega)).symm
def lS(f:Nat->Int):Nat->Int
 |0=>0
 |k+1=>lS f k+f k
structure Curve(v:Nat->V)(m:Nat):Prop where
 close:v (m+3)=v 0
 least:∀i,0<i->i<m+3->Up (sub (v i) (v 0))
 turn:∀i,i+1<m+3->cross (sub (v (i+1)) (v i)) (sub (v (i+2)) (v (i+1)))≠0
 turn0:cross (sub (v (m+3)) (v (m+2))) (sub (v 1) (v 0))≠0
 apart:∀i j,i+1<j->j<m+3->¬(i=0/\j=m+2)->∃f:P3,ev f (pt (v i))<0/\ev f (pt (v (i+1)))<0/\0<ev f (pt (v j))/\0<ev f (pt (v (j+1)))
section
variable {v:Nat->V} {m:Nat}
def uq(f:P3)(a b:V):lf f.x f.y (sub a b)=ev f (pt a)-ev f (pt b):=by unfold lf sub ev pt;grind
def sub_neg(a b:V):neg (sub a b)=sub b a:=by unfold neg sub;grind
def Curve.cell(C:Curve v m){i j:Nat}(h1:i+1<j)(h2:j<m+3)(h3:¬(i=0/\j=m+2)):
  cr (sub (v j) (v i)) (sub (v (j+1)) (v i))+cr (sub (v (j+1)) (v i)) (sub (v (j+1)) (v (i+1)))=cr (sub (v j) (v i)) (sub (v j) (v (i+1)))+cr (sub (v j) (v (i+1))) (sub (v (j+1)) (v (i+1))):=by
 obtain⟨f,f1,f2,f3,f4⟩:=C.apart i j h1 h2 h3;rw[GL (p:=f.x) (q:=f.y) (by rw[uq];omega) (by rw[uq];omega) (by rw[uq];omega),GL (p:=f.x) (q:=f.y) (by rw[uq];omega) (by rw[uq];omega) (by rw[uq];omega)]
def Curve.col(C:Curve v m){b j:Nat}(hj:j<m+3)(h:b=0->j≠m+2):∀a,b+a<j->
  lS (λi=>cr (sub (v j) (v (b+i))) (sub (v j) (v (b+i+1)))) a+cr (sub (v j) (v (b+a))) (sub (v (j+1)) (v (b+a)))=
  cr (sub (v j) (v b)) (sub (v (j+1)) (v b))+lS (λi=>cr (sub (v (j+1)) (v (b+i))) (sub (v (j+1)) (v (b+i+1)))) a
 |0,_=>by simp[lS]
 |a+1,ha=>by
  have ih:=C.col hj h a (by omega);have c:=C.cell (i:=b+a) (j:=j) (by omega) hj (by omega);rw[lS,lS];grind
def Curve.diag(C:Curve v m){i:Nat}(hi:i+1<m+3):cr (sub (v (i+1)) (v i)) (sub (v (i+2)) (v (i+1)))=cr (sub (v (i+1)) (v i)) (sub (v (i+2)) (v i))+cr (sub (v (i+2)) (v i)) (sub (v (i+2)) (v (i+1))):=by
 rw[UO (C.turn i hi)];have e:(⟨(sub (v (i+1)) (v i)).x+(sub (v (i+2)) (v (i+1))).x,(sub (v (i+1)) (v i)).y+(sub (v (i+2)) (v (i+1))).y⟩:V)=sub (v (i+2)) (v i):=by unfold sub;simp only[V.mk.injEq];omega
 rw[e]
def Curve.part(C:Curve v m):∀k,k<m+2->lS (λi=>cr (sub (v (i+1)) (v i)) (sub (v (i+2)) (v (i+1)))) k=
  lS (λj=>cr (sub (v (j+1)) (v 0)) (sub (v (j+2)) (v 0))) k+lS (λi=>cr (sub (v (k+1)) (v i)) (sub (v (k+1)) (v (i+1)))) k
 |0,_=>by simp[lS]
 |k+1,hk=>by
  have ih:=C.part k (by omega);have d:=C.diag (i:=k) (by omega);have c:=C.col (b:=0) (j:=k+1) (by omega) (by omega) k (by omega);rw[lS,lS,lS];grind
end
end Geo
end
namespace Geo
def vv(r:aE)(i:Nat):V:=nth r (i % r.length)
end Geo
section
namespace Geo
def On(o:Bool)(v x:V):Prop:=if o=true then Up (sub x v)else Dn (sub x v)
def yO{v x:V}(h:x≠v)(o:Bool):On o v x\/On (!o) v x:=by
 have:Up (sub x v)\/Dn (sub x v):=by
  rcases Pr (sub x v)with g|g|g
  .exact .inl g
  .exact .inr g
  .exact absurd g (Ga h.symm)
 unfold On;grind
def On.not{o:Bool}{v x:V}(h:On o v x):¬On (!o) v x:=by
 unfold On at*;cases o<;>simp at h|-
 .exact λg=>g.not h
 .exact h.not
def tv(o:Bool)(v x:V):V:=if o=true then sub x v else neg (sub x v)
def p9(o:Bool)(v x:V):On o v x↔Up (tv o v x):=by
 unfold On tv;cases o
 .simp[xx]
 .simp
def Af(o:Bool)(v x y:V):cross (tv o v x) (tv o v y)=ev (lin v x) (pt y):=by
 rw[dO];unfold tv;cases o
 .simp[Lj]
 .simp
def QI{o:Bool}{v x:V}(h:On (!o) v x):Dn (tv o v x):=by
 unfold On at h;unfold tv;cases o
 .simp at h;simp[q8,h]
 grind
def Ao{y z:V}{α β:Int}(hy:Up y)(hz:Up z)(ha:0<=α)(hb:0<β):Up ⟨α*y.x+β*z.x,α*y.y+β*z.y⟩:=by rw[<-q8];have:=Ay ((q8 y).2 hy) ((q8 z).2 hz) ha hb;unfold neg at this|-;grind
def BF{x:V}{k:Int}(hx:Up x)(h:Up ⟨k*x.x,k*x.y⟩):0<k:=by
 refine ko.1 λg=> ?_;rcases bl k 0 with g'|g'
 .refine h.not ?_;have:=Ay ((q8 x).2 hx) ((q8 x).2 hx) (i9 0) (show 0< -k by omega);unfold neg at this;grind
 .have:k=0:=by omega
  subst this;unfold Up at h;simp at h
def Vb{x y z:V}(_hx:Up x)(hy:Up y)(hz:Up z)(h1:0<cross x y)(h2:0<cross y z):0<cross x z:=by refine BF hy ?_;have:=Ao hz _hx (show 0<=cross x y by omega) h2;rw[show cross x z*y.x=cross x y*z.x+cross y z*x.x by unfold cross;grind,show cross x z*y.y=cross x y*z.y+cross y z*x.y by unfold cross;grind];exact this
def aAg{t u z:V}(ht:Dn t)(hu:Up u)(hz:Up z)(h1:0<cross t z)(h2:0<cross u z):0<cross t u:=by refine BF hz ?_;have:=Ao hu ((xx t).2 ht) (show 0<=cross t z by omega) h2;unfold neg at this;rw[show cross t u*z.x=cross t z*u.x+cross u z* -t.x by unfold cross;grind,show cross t u*z.y=cross t z*u.y+cross u z* -t.y by unfold cross;grind];exact this
def Yq{x u y:V}(hx:Up x)(hu:Up u)(hy:Dn y)(h1:0<cross x y)(h2:0<cross x u):0<cross u y:=by refine BF hx ?_;have:=Ao hu ((xx y).2 hy) (show 0<=cross x y by omega) h2;unfold neg at this;rw[show cross u y*x.x=cross x y*u.x+cross x u* -y.x by unfold cross;grind,show cross u y*x.y=cross x y*u.y+cross x u* -y.y by unfold cross;grind];exact this
def Yr{x y:V}(hx:Up x)(hy:Up y)(h:cross x y=0):0<x.x*y.x+x.y*y.y:=by
 have e1:(x.x*y.x+x.y*y.y)*x.x=(x.x*x.x+x.y*x.y)*y.x:=by unfold cross at h;grind
 have e2:(x.x*y.x+x.y*y.y)*x.y=(x.x*x.x+x.y*x.y)*y.y:=by unfold cross at h;grind
 refine BF hx ?_;have k:0<x.x*x.x+x.y*x.y:=by
  have:=nf x.x;have:=nf x.y;unfold Up at hx;rcases hx with g|⟨_,g⟩
  .have:=BJ (show x.y≠0 by omega);omega
  .have:=BJ (show x.x≠0 by omega);omega
 have:=Ao hy hy (i9 0) k;grind
def GW{α:Type}{R:α->α->Prop}:∀{l:List α},l≠[]->(∀x∈l,∀y∈l,x=y\/R x y\/R y x)->(∀x∈l,∀y∈l,∀z∈l,R x y->R y z->R x z)->∃m∈l,∀y∈l,y=m\/R y m
 |[],h,_,_=>absurd rfl h
 |[x],_,_,_=>⟨x,by grind,by grind⟩
 |x::y::l,_,ht,hr=>by
  obtain⟨m,hm,h⟩:=GW (l:=y::l) (by simp) (by grind) (λa ha b hb c hc=>hr a (bk _ ha) b (bk _ hb) c (bk _ hc));grind
section
variable {W:List V} {side:V->V->Prop} {ins:P3->Bool}
def Ccw(v x y:V):Prop:=0<ev (lin v x) (pt y)
def uY{v x y:V}(h:Ccw v x y):¬Ccw v y x:=by unfold Ccw at*;rw[show ev (lin v y) (pt x)= -ev (lin v x) (pt y) by unfold ev lin pt;grind];omega
def A9(N:Net W side){o:Bool}{v x y:V}(hx:side v x)(hy:side v y)(ox:On o v x)(oy:On o v y):x=y\/Ccw v x y\/Ccw v y x:=by
 unfold Ccw;rw[show ev (lin v y) (pt x)= -ev (lin v x) (pt y) by unfold ev lin pt;grind];by_cases h:ev (lin v x) (pt y)=0
 .left;refine(N.ray hx hy h ?_).symm;have d:=Yr ((p9 o v x).1 ox) ((p9 o v y).1 oy) (by rw[Af];exact h);have:(tv o v x).x*(tv o v y).x+(tv o v x).y*(tv o v y).y=ev (aW v x) (pt y):=by unfold tv ev aW pt sub neg;cases o<;>simp<;>grind
  omega
 .omega
def Ll{o:Bool}{v x y z:V}(ox:On o v x)(oy:On o v y)(oz:On o v z)(h1:Ccw v x y)(h2:Ccw v y z):Ccw v x z:=by unfold Ccw at*;rw[<-Af o]at*;exact Vb ((p9 o v x).1 ox) ((p9 o v y).1 oy) ((p9 o v z).1 oz) h1 h2
def Tri.sector(N:Net W side){a b c:V}(h:Tri W side ins a b c){x:V}(hx:side a x):¬(Ccw a b x/\Ccw a x c):=by
 unfold Ccw;rintro⟨h1,h2⟩;have h2':0<ev (lin c a) (pt x):=by rw[<-gI c a x];exact h2
 obtain⟨f,hf,hle⟩:=h.free N a x hx (1+(ev (lin b c) (pt x)).natAbs) 1 (by omega) (by omega) (by omega);dsimp only at hle;simp only[aj,cG,or_false]at hf;rcases hf with rfl|rfl|rfl
 .rw[bq,dU]at hle;omega
 .rw[gI a b c]at hle;have:=dG (show 1<=ev (lin a b) (pt c) by have:=h.left;omega) (show 0<=1+((ev (lin b c) (pt x)).natAbs:Int) by omega);omega
 .rw[cH,dU]at hle;omega
def Mid(W:List V)(side:V->V->Prop)(ins:P3->Bool)(o:Bool)(v x:V):Prop:=On o v x/\∃y,Tri W side ins v x y/\On (!o) v y
def Mid.top(N:Net W side){o:Bool}{v x z:V}(h:Mid W side ins o v x)(hz:side v z)(oz:On o v z):z=x\/Ccw v z x:=by
 obtain⟨ox,y,T,oy⟩:=h;rcases A9 N hz T.ab oz ox with e|e|e
 .exact .inl e
 .exact .inr e
 .refine absurd ⟨e,?_⟩ (T.sector N hz);unfold Ccw at*;have hl:=T.left;rw[<-Af o]at*;exact Yq ((p9 o v x).1 ox) ((p9 o v z).1 oz) (QI oy) hl e
open Classical in
def KU(N:Net W side){o:Bool}{v x:V}{P:V->Prop}(hx:side v x)(ox:On o v x)(px:P x):∃z,side v z/\On o v z/\P z/\∀y,side v y->On o v y->P y->y=z\/Ccw v y z:=by
 have mm:∀{y},y∈W.filter (λz=>decide (side v z/\On o v z/\P z))↔side v y/\On o v y/\P y:=λ{y}=>
  ⟨by grind,λh=>fF.2 ⟨N.mem (N.symm h.1),decide_eq_true h⟩⟩
 obtain⟨z,hz,h⟩:=GW (R:=Ccw v) (by grind) (λa ha b hb=>A9 N (mm.1 ha).1 (mm.1 hb).1 (mm.1 ha).2.1 (mm.1 hb).2.1)
  (λa ha b hb c hc=>Ll (mm.1 ha).2.1 (mm.1 hb).2.1 (mm.1 hc).2.1)
 grind
open Classical in
def KV(N:Net W side){o:Bool}{v x:V}{P:V->Prop}(hx:side v x)(ox:On o v x)(px:P x):∃z,side v z/\On o v z/\P z/\∀y,side v y->On o v y->P y->y=z\/Ccw v z y:=by
 have mm:∀{y},y∈W.filter (λz=>decide (side v z/\On o v z/\P z))↔side v y/\On o v y/\P y:=λ{y}=>
  ⟨by grind,λh=>fF.2 ⟨N.mem (N.symm h.1),decide_eq_true h⟩⟩
 obtain⟨z,hz,h⟩:=GW (R:=λa b=>Ccw v b a) (by grind) (λa ha b hb=>by
   rcases A9 N (mm.1 ha).1 (mm.1 hb).1 (mm.1 ha).2.1 (mm.1 hb).2.1 with e|e|e
   .exact .inl e
   .grind
   grind)
  (λa ha b hb c hc h1 h2=>Ll (mm.1 hc).2.1 (mm.1 hb).2.1 (mm.1 ha).2.1 h2 h1)
 grind
structure Vtx(W:List V)(side:V->V->Prop)(ins:P3->Bool)(v u w:V):Prop where
 fill:Filled W side ins
 su:side v u
 sw:side v w
 lw:Lft ins v w
 lu:¬Lft ins v u
 out:∀x,side v x->x≠u->Lft ins v x
 inn:∀x,side v x->x≠w->Lft ins x v
variable {v u w:V}
def NZ(X:Vtx W side ins v u w){o:Bool}{x:V}(hx:side v x)(ox:On o v x)(hu:x≠u)(ht:∀y,side v y->On o v y->y=x\/Ccw v y x):Mid W side ins o v x:=by
 have N:=X.fill.net;obtain⟨y,T⟩:=AM X.fill hx (X.out x hx hu);refine⟨ox,y,T,?_⟩;have hy:=N.symm T.ca;rcases yO (N.ne T.ca) o with g|g
 .rcases ht y hy g with e|e
  .exact absurd e.symm (N.ne T.bc)
  .exact absurd e (uY T.left)
 .exact g
def OT(X:Vtx W side ins v u w){o:Bool}(hu:¬On o v u){x:V}(hx:side v x)(ox:On o v x):∃x,Mid W side ins o v x:=by obtain⟨z,z1,z2,_,z3⟩:=KU X.fill.net (P:=λ_=>True) hx ox trivial;exact⟨z,NZ X z1 z2 (by grind) (by grind)⟩
def K8(X:Vtx W side ins v u w){o:Bool}(hu:On o v u){x:V}(hx:side v x)(ox:On o v x)(h:Ccw v u x):∃x,Mid W side ins o v x:=by
 obtain⟨z,z1,z2,_,z3⟩:=KU X.fill.net (P:=λ_=>True) hx ox trivial;refine⟨z,NZ X z1 z2 (λe=> ?_) (by grind)⟩;subst e;rcases z3 x hx ox trivial with e|e
 .subst e;exact uY h h
 .exact uY h e
def E7(X:Vtx W side ins v u w){o:Bool}(hu:On o v u)(hw:On o v w->Ccw v w u):¬∃x,Mid W side ins o v x:=by
 rintro⟨x,M⟩;have N:=X.fill.net;obtain⟨ox,y,T,oy⟩:=id M;have hxu:x≠u:=λe=>X.lu (by rw[<-e];exact T.lft X.fill);have hux:Ccw v u x:=(M.top N X.su hu).resolve_left (by grind);obtain⟨z,z1,z2,z3,z4⟩:=KV N (P:=λz=>Ccw v u z) T.ab ox hux;have hzw:z≠w:=λe=>uY (hw (e▸z2)) (e▸z3);obtain⟨t,T2⟩:=AM X.fill (N.symm z1) (X.inn z z1 hzw);have T3:Tri W side ins v t z:=T2.rot;have htz:Ccw v t z:=T3.left;have st:=T3.ab;by_cases ot:On o v t
 .rcases A9 N X.su st hu ot with e|e|e
  .exact X.lu (by rw[e];exact T3.lft X.fill)
  .rcases z4 t st ot e with e'|e'
   .exact N.ne T3.bc e'
   .exact uY htz e'
  .exact T3.sector N X.su ⟨e,z3⟩
 .have ot':=(yO (N.ne (N.symm st)) o).resolve_left ot;refine T3.sector N X.su ⟨?_,z3⟩;unfold Ccw at*;rw[<-Af o]at*;exact aAg (QI ot') ((p9 o v u).1 hu) ((p9 o v z).1 z2) htz z3
def WM(X:Vtx W side ins v u w){o:Bool}(hu:On (!o) v u)(hw:On (!o) v w)(h:Ccw v w u):¬∃x,Mid W side ins o v x:=by
 rintro⟨x,M⟩;have N:=X.fill.net;obtain⟨ox,y,T,oy⟩:=id M;obtain⟨z,z1,z2,_,z4⟩:=KV N (P:=λ_=>True) T.ab ox trivial;have hzw:z≠w:=λe=>z2.not (e▸hw);obtain⟨t,T2⟩:=AM X.fill (N.symm z1) (X.inn z z1 hzw);have T3:Tri W side ins v t z:=T2.rot;have st:=T3.ab;have ot':On (!o) v t:=by
  refine(yO (N.ne (N.symm st)) o).resolve_left λot=> ?_;rcases z4 t st ot trivial with e|e
  .exact N.ne T3.bc e
  .exact uY T3.left e
 exact E7 X hu (λ_=>h) ⟨t,ot',z,T3,by grind⟩
def Uv(X:Vtx W side ins v u w){o:Bool}(hu:On (!o) v u)(hw:On (!o) v w)(h:Ccw v u w):∃x,Mid W side ins o v x:=by
 have N:=X.fill.net;by_cases hx:∃x,side v x/\On o v x
 .obtain⟨x,h1,h2⟩:=hx;exact OT X (λg=>g.not hu) h1 h2
 .exfalso;obtain⟨x,ox,y,T,oy⟩:=K8 X hu X.sw hw h;rw[Bool.not_not]at oy;exact hx ⟨y,N.symm T.ca,oy⟩
open Classical in
noncomputable def cnt(W:List V)(side:V->V->Prop)(ins:P3->Bool)(o:Bool)(v:V):Int:=if∃x,Mid W side ins o v x then 1 else 0
def GM{o:Bool}(h:∃x,Mid W side ins o v x):cnt W side ins o v=1:=if_pos h
def FO{o:Bool}(h:¬∃x,Mid W side ins o v x):cnt W side ins o v=0:=if_neg h
def Ps{x:V}:Up (sub x v)↔On true v x:=by unfold On;simp
def O7{x:V}:Up (sub v x)↔On false v x:=by unfold On;rw[<-sub_neg,xx];simp
def Vtx.count(X:Vtx W side ins v u w)(ht:cross (sub v u) (sub w v)≠0):cnt W side ins true v+cnt W side ins false v=1-cr (sub v u) (sub w v):=by
 have N:=X.fill.net;have eu:ev (lin v w) (pt u)=cross (sub v u) (sub w v):=by rw[dO];unfold cross sub;grind
 have ew:ev (lin v u) (pt w)= -cross (sub v u) (sub w v):=by rw[dO];unfold cross sub;grind
 have ou:=yO (N.ne (N.symm X.su));have ow:=yO (N.ne (N.symm X.sw));have diff:∀o,On o v u->On (!o) v w->cnt W side ins o v=0/\cnt W side ins (!o) v=1:=λo h1 h2=>
  ⟨FO (E7 X h1 λg=>absurd h2 g.not),GM (OT X (λg=>h1.not g) X.sw h2)⟩
 have same:∀o,On o v u->On o v w->cnt W side ins o v+cnt W side ins (!o) v=1-sgn (cross (sub v u) (sub w v)):=λo h1 h2=>by
  have h1':On (!(!o)) v u:=by rw[Bool.not_not];exact h1
  have h2':On (!(!o)) v w:=by rw[Bool.not_not];exact h2
  rcases kU ht with g|g
  .have k:Ccw v u w:=by unfold Ccw;rw[ew];omega
   rw[GM (K8 X h1 X.sw h2 k),GM (Uv X h1' h2' k),show sgn (cross (sub v u) (sub w v))= -1 by unfold sgn;omega];rfl
  .have k:Ccw v w u:=by unfold Ccw;rw[eu];exact g
   rw[FO (E7 X h1 λ_=>k),FO (WM X h1' h2' k),show sgn (cross (sub v u) (sub w v))=1 by unfold sgn;rw[if_pos g]];rfl
 by_cases c:Up (sub v u)↔Up (sub w v)
 .rw[uj c];rw[O7,Ps]at c;grind
 .rw[sU c];rw[O7,Ps]at c;grind
end
end Geo
end
section
namespace Geo
section
variable {s:Shape} {D:List S}
end
open Classical in
open Classical in
open Classical in
section
variable {s:Shape} {D:List S}
end
end Geo
end
section
namespace Geo
section
variable {s:Shape} {D:List S}
def EK(h:VS s){p:Pt}(hp:c6 p=true)(ho:∀e∈bQ s,onP e p=false):eI s p=2↔dB s (p3 p)=true:=by
 have w:∀r∈aD s,bP r p=if br r (p3 p)then 2 else 0:=λr hr=>qZ (h.ring hr) hp λe he=>ho e (cQ.2 ⟨r,hr,he⟩);rw[wY];unfold dB;rw[bn,bf,w _ bo];have hv:=(lz s).2 h;constructor
 .rintro⟨_,h1,h2⟩;refine⟨by grind,λq hq=> ?_⟩;have:=h2 q hq;rw[w q (bk _ hq)]at this;grind
 .rintro⟨h1,h2⟩;refine⟨hv,by rw[h1];rfl,λq hq=> ?_⟩;rw[w q (bk _ hq)];grind
end
end Geo
end
section
namespace Geo
def XI{a b c:V}:0<turn a b c↔0<ev (lin a b) (pt c):=by unfold turn;rw[ud,dO]
section
variable {s:Shape} {D:List S}
structure Idx(s:Shape)(D:List S)(v:List V)(L:List (Nat×Nat×Nat)):Prop where
 nodup:L.Nodup
 mem:∀i j k,(i,j,k)∈L↔i<j/\j<k/\k<v.length/\sides s D (nth v i) (nth v j)/\sides s D (nth v i) (nth v k)/\sides s D (nth v j) (nth v k)/\Pb s v i j k=true
end
end Geo
end
section
namespace Geo
section
variable (s:Shape) (v:List V) (T:Tab)
def kL(i j:Nat):Nat->List (Nat×Nat×Nat)
 |0=>[]
 |m+1=>kL i j m++(if T i (j+1+m)&&(T j (j+1+m)&&Pb s v i j (j+1+m))then [(i,j,j+1+m)]else [])
def jL(i:Nat):Nat->List (Nat×Nat×Nat)
 |0=>[]
 |m+1=>jL i m++(if T i (i+1+m)then kL s v T i (i+1+m) (v.length-(i+1+m+1))else [])
def iL:Nat->List (Nat×Nat×Nat)
 |0=>[]
 |i+1=>iL i++jL s v T i (v.length-(i+1))
variable {s v T}
end
section
variable {s:Shape} {v:List V} {T:Tab}
end
end Geo
end
section
namespace Geo
def T3.ring(t:T3):aE:=[t.a,t.b,t.c]
def Rt(t u:T3):Prop:=t=u\/t=u.rot\/t=u.rot.rot
def Rt.symm{t u:T3}(h:Rt t u):Rt u t:=by
 rcases h with rfl|rfl|rfl
 .exact .inl rfl
 .exact .inr (.inr rfl)
 .exact .inr (.inl rfl)
def Rt.trans{t u w:T3}(h:Rt t u)(g:Rt u w):Rt t w:=by
 rcases h with rfl|rfl|rfl<;>rcases g with rfl|rfl|rfl
 .exact .inl rfl
 .exact .inr (.inl rfl)
 .exact .inr (.inr rfl)
 .exact .inr (.inl rfl)
 .exact .inr (.inr rfl)
 .exact .inl rfl
 .exact .inr (.inr rfl)
 .exact .inl rfl
 .exact .inr (.inl rfl)
section
variable {W:List V} {side:V->V->Prop} {ins:P3->Bool}
def aAy{t u:T3}:¬Rt t u↔(t≠u/\t≠u.rot/\t≠u.rot.rot):=by unfold Rt;grind
def aBd{a b c x y z:V}(hab:a≠b)(hbc:b≠c)(hca:c≠a)(ha:a=x\/a=y\/a=z)(hb:b=x\/b=y\/b=z)(hc:c=x\/c=y\/c=z)(h1:0<ev (lin a b) (pt c))(h2:0<ev (lin x y) (pt z)):Rt ⟨a,b,c⟩ ⟨x,y,z⟩:=by
 rcases ha with rfl|rfl|rfl<;>rcases hb with rfl|rfl|rfl<;>rcases hc with rfl|rfl|rfl
 all_goals first|exact(by grind)|exact .inl rfl|exact .inr (.inl rfl)|exact .inr (.inr rfl)|skip
 all_goals exfalso;unfold ev lin pt at h1 h2;grind
def Zm(N:Net W side){t u:T3}(ht:Tri W side ins t.a t.b t.c)(hu:Tri W side ins u.a u.b u.c){p q:P3}(hp:In [lin t.a t.b,lin t.b t.c,lin t.c t.a] p)(hpu:In [lin u.a u.b,lin u.b u.c,lin u.c u.a] p)
  (hq:In [lin t.a t.b,lin t.b t.c,lin t.c t.a] q):∀g∈[lin u.a u.b,lin u.b u.c,lin u.c u.a],0<ev g q:=by
 have P:=XK (u:=u.a) (v:=u.b) (w:=u.c) (by rw[<-dO];exact hu.left);obtain⟨m,n,hm,hn,hmn,h1,h2⟩:=Hc p q hp.1 hq.1 _ hpu.2;rcases h2 with h2|h2
 .have hd:0<(cmb m p n q).d:=by
   show 0<m*p.d+n*q.d;have a1:=bm hm (gR hp.1);have a2:=bm hn (gR hq.1);rcases bl 0 m with h|h
   .have:=aa h hp.1;omega
   .have:=aa (show 0<n by omega) hq.1;omega
  obtain⟨s,hs,x,y,k,hx,hy,hk,e⟩:=P.side _ hd h2 h1;have hside:side s.a s.b:=by
   simp only[aj,cG,or_false]at hs;rcases hs with rfl|rfl|rfl
   .exact hu.ab
   .exact hu.bc
   .exact hu.ca
  have pos:∀f∈[lin t.a t.b,lin t.b t.c,lin t.c t.a],0<ev f (cmb m p n q):=λf hf=>by
   rw[aX];have a1:=bm hm (gR (hp.2 f hf));have a2:=bm hn (gR (hq.2 f hf));rcases bl 0 m with h|h
   .have:=aa h (hp.2 f hf);omega
   .have:=aa (show 0<n by omega) (hq.2 f hf);omega
  have hxy:0<x+y:=by refine cu λh=> ?_;have e1:=e (lin t.a t.b);have e2:=aa hk (pos (lin t.a t.b) (by simp));rw[show x=0 by omega,show y=0 by omega,tU,tU]at e1;omega
  obtain⟨f,hf,g⟩:=ht.free N s.a s.b hside x y hx hy hxy;have e2:=aa hk (pos f hf);grind
 .exact h2.2
def WJ{A B:Int}(h:∀n:Int,0<=n->0<n*A+B):0<=A:=by refine cu λg=> ?_;have:=h (B.natAbs) (by omega);have h2:(B.natAbs:Int)*A<=(B.natAbs:Int)*(-1):=dG (by omega) (by omega);omega
def Eb(N:Net W side){t u:T3}(ht:Tri W side ins t.a t.b t.c)(hu:Tri W side ins u.a u.b u.c){p:P3}(hp:In [lin t.a t.b,lin t.b t.c,lin t.c t.a] p)(hpu:In [lin u.a u.b,lin u.b u.c,lin u.c u.a] p):
  t.a=u.a\/t.a=u.b\/t.a=u.c:=by
 have e:∀x y z:V,ev (lin x y) (pt z)=ev (lin y z) (pt x):=λu v w=>by unfold ev lin pt;grind
 have hl:=ht.left;have key:∀g∈[lin u.a u.b,lin u.b u.c,lin u.c u.a],0<=ev g (pt t.a):=λg hg=>by
  refine WJ (B:=ev g p) λn hn=> ?_;have:=Zm N ht hu hp hpu (q:=cmb n (pt t.a) 1 p) ⟨by show 0<n*1+1*p.d;have:=hp.1;omega,λf hf=> ?_⟩ g hg
  .rw[aX]at this;omega
  .have h0:0<=ev f (pt t.a):=by
    simp only[aj,cG,or_false]at hf;rcases hf with rfl|rfl|rfl
    .rw[bq];omega
    .grind
    .rw[cH];omega
   have h1:=hp.2 f hf;have h2:=bm hn h0;rw[aX];omega
 exact hu.empty _ (N.mem ht.ab) (key _ (by simp)) (key _ (by simp)) (key _ (by simp))
def ZR(N:Net W side){t u:T3}(ht:Tri W side ins t.a t.b t.c)(hu:Tri W side ins u.a u.b u.c){p:P3}(hp:In [lin t.a t.b,lin t.b t.c,lin t.c t.a] p)(hpu:In [lin u.a u.b,lin u.b u.c,lin u.c u.a] p):Rt t u:=by have i:∀{x y z:V},In [lin x y,lin y z,lin z x] p->In [lin y z,lin z x,lin x y] p:=λh=>⟨h.1,λf hf=>h.2 f (by grind)⟩;exact aBd (N.ne ht.ab) (N.ne ht.bc) (N.ne ht.ca) (Eb N ht hu hp hpu) (Eb (t:=t.rot) N ht.rot hu (i hp) hpu) (Eb (t:=t.rot.rot) N ht.rot.rot hu (i (i hp)) hpu) ht.left hu.left
end
end Geo
end
section
namespace Geo
def wv(t:T3):aH t.ring=t.sides:=yI _ _ _
def JY:∀TL:List T3,(TL.map T3.ring).flatMap aH=TL.flatMap T3.sides
 |[] =>rfl
 |t::TL=>by rw[cv,fG,fG,JY TL,wv]
section
variable {s:Shape} {D:List S}
def wq(T:Tg s D){t:T3}(h:Tri (bz s) (sides s D) (dB s) t.a t.b t.c):cV t.ring=true:=by have N:=T.filled.net;exact(aAh (aBg (js T.vs (N.mem h.ab)) (js T.vs (N.mem h.bc)) (js T.vs (N.mem h.ca)))).2 (XI.2 h.left)
def AL{W:List V}{side:V->V->Prop}{ins:P3->Bool}{t:T3}(h:Tri W side ins t.a t.b t.c){e:S}(he:e∈t.sides):side e.a e.b:=by
 rcases uK.1 he with⟨h1,h2⟩|⟨h1,h2⟩|⟨h1,h2⟩<;>rw[h1,h2]
 .exact h.ab
 .exact h.bc
 .exact h.ca
def Uf(T:Tg s D){TL:List T3}(A:All3 (bz s) (sides s D) (dB s) TL):((TL.map T3.ring).flatMap aH).Perm (jQ (iK s) D):=by rw[JY];exact A.perm T.filled (Dr T (KX T) λe he=>((sJ T e).1 he).1) (Ad T (sJ T))
end
end Geo
end
section
namespace Geo
def Bet(q:P3)(a b:V):Prop:=∃x y k:Int,0<=x/\0<=y/\0<k/\cmb x (pt a) y (pt b)=cmb k q 0 q
def Bet.swap{q:P3}{a b:V}(h:Bet q a b):Bet q b a:=by obtain⟨x,y,k,h1,h2,h3,h4⟩:=h;exact⟨y,x,k,h2,h1,h3,by rw[kH];exact h4⟩
def kI{e:S}{q:Pt}(hq:0<q.den)(hne:e.a≠e.b):onP e q=true↔Bet (p3 q) e.a e.b:=by
 constructor
 .intro h;obtain⟨x,y,k,h1,h2,h3,_,h5⟩:=Gj hq hne h;exact⟨x,y,k,h1,h2,h3,by rw[h5];unfold cmb p3;simp⟩
 .rintro⟨x,y,k,h1,h2,h3,h4⟩;have hx:x*e.a.x+y*e.b.x=k*q.x:=by have:=congrArg P3.x h4;simpa[cmb,pt,p3]using this
  have hy:x*e.a.y+y*e.b.y=k*q.y:=by have:=congrArg P3.y h4;simpa[cmb,pt,p3]using this
  have hd:x+y=k*q.den:=by have:=congrArg P3.d h4;simpa[cmb,pt,p3]using this
  have box:∀u v w:Int,x*u+y*v=k*w->min u v*q.den<=w/\w<=max u v*q.den:=λu v w h=>by
   have l1:=dG (Int.min_le_left u v) h1;have l2:=dG (Int.min_le_right u v) h2;have l3:=dG (Int.le_max_left u v) h1;have l4:=dG (Int.le_max_right u v) h2;have e1:k*(min u v*q.den)=(x+y)*min u v:=by rw[hd];grind
   have e2:k*(max u v*q.den)=(x+y)*max u v:=by rw[hd];grind
   rw[o6]at e1 e2;exact⟨Int.le_of_mul_le_mul_left (by omega) h3,Int.le_of_mul_le_mul_left (by omega) h3⟩
  rw[HW e q hq];unfold onR;simp only[bn,decide_eq_true_eq,beq_iff_eq,mq];refine⟨⟨⟨⟨(box _ _ _ hx).1,(box _ _ _ hx).2⟩,(box _ _ _ hy).1⟩,(box _ _ _ hy).2⟩,?_⟩;have h0:ev (lin e.a e.b) (p3 q)=0:=by
   have:=congrArg (ev (lin e.a e.b)) h4;rw[aX,aX,bq,cH]at this;rcases cp.1 (show k*ev (lin e.a e.b) (p3 q)=0 by omega)with h|h
   .omega
   .exact h
  rw[<-h0];unfold fK cross sub toV ev lin p3;grind
def Pg{a b c:V}(hab:a≠b){x y k:Int}(h:cmb x (pt a) y (pt b)=cmb k (pt c) 0 (pt c))(_hk:0<k):(c=a->y=0)/\(c=b->x=0):=by
 have hx:x*a.x+y*b.x=k*c.x:=by have:=congrArg P3.x h;simpa[cmb,pt]using this
 have hy:x*a.y+y*b.y=k*c.y:=by have:=congrArg P3.y h;simpa[cmb,pt]using this
 have hd:x+y=k:=by have:=congrArg P3.d h;simpa[cmb,pt]using this
 constructor
 .rintro rfl;have e1:y*(b.x-c.x)=0:=by rw[<-hd]at hx;grind
  have e2:y*(b.y-c.y)=0:=by rw[<-hd]at hy;grind
  rcases cp.1 e1 with h|h
  .exact h
  rcases cp.1 e2 with g|g
  .exact g
  .exact absurd (by cases b;cases c;grind) hab
 .rintro rfl;have e1:x*(a.x-c.x)=0:=by rw[<-hd]at hx;grind
  have e2:x*(a.y-c.y)=0:=by rw[<-hd]at hy;grind
  rcases cp.1 e1 with h|h
  .exact h
  rcases cp.1 e2 with g|g
  .exact g
  .exact absurd (by cases a;cases c;grind) hab
def A8(x y:Int)(p q:P3)(h:y=0):cmb x p y q=cmb x p 0 p:=by subst h;unfold cmb;simp
def FP(x y:Int)(p q:P3)(h:x=0):cmb x p y q=cmb y q 0 q:=by subst h;unfold cmb;simp
def qD{m x y k:Int}{p q z:P3}(h:cmb x p y q=cmb k z 0 z):cmb (m*x) p (m*y) q=cmb (m*k) z 0 z:=by unfold cmb at h|-;grind
def O8{W:List V}{side:V->V->Prop}(N:Net W side){a b c d:V}{z:P3}(hz:0<z.d)(hab:side a b)(hcd:side c d)(h:Bet z a b)(g:Bet z c d):
  ((a=c/\b=d)\/(a=d/\b=c))\/(∃k m:Int,0<k/\0<m/\(cmb m (pt a) 0 (pt a)=cmb k z 0 z\/cmb m (pt b) 0 (pt b)=cmb k z 0 z)):=by
 obtain⟨x,y,k,hx,hy,hk,e⟩:=h;obtain⟨x',y',k',hx',hy',hk',e'⟩:=g;have pd:∀{m k:Int} {v:V},0<k->cmb m (pt v) 0 (pt v)=cmb k z 0 z->0<m:=λ{m k v} hk h=>by have:=congrArg P3.d h;simp only[cmb,pt]at this;have:=aa hk hz;omega
 by_cases c1:x=0
 .rw[FP _ _ _ _ c1]at e;grind
 by_cases c2:y=0
 .rw[A8 _ _ _ _ c2]at e;grind
 have vert:∀v,v∈W->∀m,cmb m (pt v) 0 (pt v)=cmb k' z 0 z->∃k m:Int,0<k/\0<m/\(cmb m (pt a) 0 (pt a)=cmb k z 0 z\/cmb m (pt b) 0 (pt b)=cmb k z 0 z):=λv hv m hm=>by
  have e2:cmb (k'*x) (pt a) (k'*y) (pt b)=cmb (k*m) (pt v) 0 (pt v):=by rw[qD e,eS k' k,<-qD (m:=k) (k:=k') (x:=m) (y:=0) hm,dU]
  have hm0:=pd hk' hm;rcases N.clear hab hv (k'*x) (k'*y) (k*m) (mpp (by omega) hx) (mpp (by omega) hy) e2 (aa hk hm0)with h|h
  .grind
  grind
 by_cases c3:x'=0
 .rw[FP _ _ _ _ c3]at e';exact .inr (vert d (N.mem (N.symm hcd)) _ e')
 by_cases c4:y'=0
 .rw[A8 _ _ _ _ c4]at e';exact .inr (vert c (N.mem hcd) _ e')
 refine .inl (N.apart hab hcd (k'*x) (k'*y) (k*x') (k*y') (aa hk' (by omega)) (aa hk' (by omega)) (aa hk (by omega)) (aa hk (by omega)) ?_);rw[qD e,qD e',eS]
section
variable {s:Shape} {D:List S}
def Mf(T:Tg s D){r q:aE}(hr:r∈aD s)(hq:q∈aD s)(hrq:r≠q){e d:S}(he:e∈aH r)(hd:d∈aH q){z:P3}(hz:0<z.d)(h:Bet z e.a e.b)(g:Bet z d.a d.b):False:=by
 have N:=T.segs.net;obtain⟨h1,h2⟩:=iC he;have o1:=rn T hr hq hrq h1 hd;have o2:=rn T hr hq hrq h2 hd;have vert:∀v,v∈r->v≠d.a/\v≠d.b->∀k m:Int,0<k->0<m->cmb m (pt v) 0 (pt v)=cmb k z 0 z->False:=λv hv ho k m hk hm e=>by
  obtain⟨x,y,k',hx,hy,hk',e'⟩:=g;rcases N.clear (pJ hq hd) (uI hr hv) (k*x) (k*y) (k'*m) (mpp (by omega) hx) (mpp (by omega) hy) (by rw[qD e',eS k k',<-qD e,dU]) (aa hk' hm)with h|h
  .exact ho.1 h
  grind
 rcases O8 N hz (pJ hr he) (pJ hq hd) h g with h|⟨k,m,hk,hm,h|h⟩
 .grind
 .grind
 grind
def aAb{a b:V}{q:P3}(h:Bet q a b){s t:Int}{z:P3}(hs:0<=s)(ht:0<=t)(e:z=cmb s (pt a) t q):Bet z a b:=by
 obtain⟨x,y,k,hx,hy,hk,g⟩:=h;refine⟨k*s+t*x,t*y,k,?_,mpp ht hy,hk,?_⟩
 .have:=mpp (gR hk) hs;have:=mpp ht hx;omega
 .subst e;unfold cmb at g|-;grind
def Dd(h:VS s)(q:Pt):eL s q=fV q s.holes (bP s.outer q):=by unfold eL;rw[<-jW,(lz s).2 h,<-Mt,<-AI];rfl
def DM{q:Pt}:eL s q=2↔eI s q=2:=by have:=Jq s q;grind
def Fy(T:Tg s D){q:Pt}(hq:c6 q=true)(hqd:0<q.den){e:S}(he:e∈bQ s)(ho:onP e q=true):eL s q≠0:=by
 have h:=T.vs;have b:=(kI hqd (h.mD he)).1 ho;obtain⟨r,hr,he'⟩:=cQ.1 he;have one:bP r q=1:=by unfold bP;rw[(iB _).2 (h.ring hr),hq];exact ue ⟨e,he',ho⟩
 have same:∀q'∈aD s,r≠q'->bP q' q=if br q' (pt e.a)then 2 else 0:=λq' hq' hne=>by
  rw[qZ (h.ring hq') hq λd hd=> ?_]
  .rw[sH (p:=p3 q) (q:=pt e.a) (by have:=(h.ring hq').three;omega) hqd (show(0:Int)<1 by decide) λd hd hm=> ?_];obtain⟨x,y,s',t',hx,hy,hxy,hs,ht,g⟩:=hm;have hzd:0<(cmb x (pt d.a) y (pt d.b)).d:=by show 0<x*1+y*1;omega
   exact Mf T hr hq' hne he' hd hzd (aAb b ht hs (by rw[g,kH])) ⟨x,y,1,hx,hy,by omega,by unfold cmb;simp⟩
  .refine o7.2 λhd'=> ?_;exact Mf T hr hq' hne he' hd hqd b ((kI hqd ((h.ring hq').mD hd)).1 hd')
 rw[Dd h];obtain⟨ha,_⟩:=iC he';have hol:∀w:Int,w≠0->∀l:List aE,(∀q'∈l,q'∈s.holes)->fV q l w≠0:=λw hw l=>by
  induction l with
  |nil=>intro _;exact hw
  |cons q' l ih=>
   intro hl;unfold fV;have hq':=hl q' bo;have hq'':q'∈aD s:=bk _ hq';have n2:bP q' q≠2:=by
    by_cases e1:r=q'
    .grind
    .have:br q' (pt e.a)=false:=by
      rcases aj.1 hr with e2|e2
      .rw[e2]at ha;exact K4 T hq' ha
      .exact Mu T e2 hq' e1 ha
     grind
   grind
 rcases aj.1 hr with e1|e1
 .grind
 .have:bP s.outer q=2:=by rw[same _ bo (xn T e1),PT h.outer (js h (uI hr ha)) (GA T e1 ha)];rfl
  grind
def OJ(T:Tg s D){q:Pt}(hq:c6 q=true)(hqd:0<q.den){d:S}(hd:d∈D)(ho:onP d q=true):eL s q≠0:=by
 have h:=T.vs;have N:=T.segs.net;obtain⟨d1,d2,d3⟩:=T.ends d hd;by_cases hc:∃e∈bQ s,onP e q=true
 .obtain⟨e,he,ho⟩:=hc;exact Fy T hq hqd he ho
 have hn:∀e∈bQ s,onP e q=false:=by grind
 have sd:sides s D d.a d.b:= .inl (fB _ hd);obtain⟨x,y,k,hx,hy,hk,g⟩:=(kI hqd d3).1 ho;have vert:∀v∈bz s,∀k m:Int,0<k->0<m->cmb m (pt v) 0 (pt v)=cmb k (p3 q) 0 (p3 q)->False:=λv hv k m hk hm e=>by obtain⟨r,hr,hv⟩:=kY.1 hv;obtain⟨i,hi,rfl⟩:=fN.1 hv;have he:=xo (h.ring hr) hi;have hes:bO r i∈bQ s:=cQ.2 ⟨r,hr,he⟩;have:=hn _ hes;rw[(kI hqd (h.mD hes)).2 ⟨m,0,k,by omega,by omega,hk,by rw[A8 _ _ _ _ rfl];exact e⟩]at this;cases this
 have hxy:0<x/\0<y:=by
  have hd':x+y=k*q.den:=by have:=congrArg P3.d g;simpa[cmb,pt,p3]using this
  have:=aa hk hqd;constructor
  .refine cu λc=> ?_;rw[FP _ _ _ _ (by grind)]at g;grind
  .refine cu λc=> ?_;rw[A8 _ _ _ _ (by grind)]at g;grind
 have:dB s (p3 q)=dB s (half d):=by
  refine FH h hqd (by show(0:Int)<1*1+1*1;decide) λe he hm=> ?_;obtain⟨x',y',s',t',hx',hy',hxy',hs,ht,g'⟩:=hm;have hzd:0<(cmb x' (pt e.a) y' (pt e.b)).d:=by show 0<x'*1+y'*1;omega
  have hpos:0<s'+t':=by
   refine cu λc=> ?_;rw[g',show s'=0 by omega,show t'=0 by omega]at hzd;have:(cmb 0 (p3 q) 0 (half d)).d=0:=by unfold cmb;simp
   omega
  have gz:cmb (s'*x+k*t') (pt d.a) (s'*y+k*t') (pt d.b)=cmb k (cmb x' (pt e.a) y' (pt e.b)) 0 (cmb x' (pt e.a) y' (pt e.b)):=by rw[g'];unfold half;unfold cmb at g|-;simp only[P3.mk.injEq]at g|-;obtain⟨g1,g2,g3⟩:=g;refine⟨?_,?_,?_⟩<;>grind
  have pw:∀w:Int,0<w->0<s'*w+k*t':=λw hw=>by
   have a1:=mpp hs (gR hw);have a2:=mpp (gR hk) ht;rcases bl 0 s' with c|c
   .have:=aa c hw;omega
   .have:=aa hk (show 0<t' by omega);omega
  have p1:=pw x hxy.1;have p2:=pw y hxy.2;rcases O8 N hzd sd (.inl (fT _ he):sides s D e.a e.b) ⟨_,_,k,by omega,by omega,hk,gz⟩ ⟨x',y',1,hx',hy',by omega,by unfold cmb;simp⟩with c|⟨m,n,hm,hn',c⟩
  .have:=mo T hd he;rcases c with⟨c1,c2⟩|⟨c1,c2⟩
   .exact this.1 (by cases d;simp_all)
   .exact this.2 (by unfold swp;simp_all)
  .have e2:=qD (m:=m) gz;rcases c with c|c
   .rw[eS m k,<-qD c,dU]at e2;have:=(Pg d3 e2 (aa hk hn')).1 rfl;have:=aa hm p2;omega
   .rw[eS m k,<-qD c,dU]at e2;have:=(Pg d3 e2 (aa hk hn')).2 rfl;have:=aa hm p1;omega
 rw[NI h d1 d2 (T.chord d hd)]at this;rw[DM.2 ((EK h hq hn).2 this)];decide
end
end Geo
end
section
namespace Geo
def xb:∀l m:List Bool,cU (l++m)=(cU l !=cU m)
 |[],m=>by cases h:cU m<;>simp[cU]at h|- <;>exact h
 |b::l,m=>by
  show(b !=cU (l++m))=((b !=cU l) !=cU m);rw[xb l m];simp_all
def Eh(g:S->Bool):∀R:List aE,cU ((R.flatMap aH).map g)=cU (R.map λr=>cU ((aH r).map g))
 |[] =>rfl
 |r::R=>by
  rw[fG,dR,xb,Eh g R];rfl
def Eg:∀{l:List Bool},(∀b∈l,b=false)->cU l=false
 |[],_=>rfl
 |b::l,h=>by
  show(b !=cU l)=false;rw[h b (by grind),Eg (by grind)];rfl
def Dy{r:aE}(hv:VR r){q:Pt}(hq:c6 q=true)(h:bP r q=1):∃e∈aH r,onP e q=true:=by refine cu λc=> ?_;rw[qZ hv hq (by grind)]at h;omega
def Dx(r:aE)(q:Pt):bP r q=0\/bP r q=1\/bP r q=2:=by
 have:∀(l:List S) (b:Bool),dZ q l b=0\/dZ q l b=1\/dZ q l b=2:=λl=>by
  induction l with
  |nil=>unfold dZ;omega
  |cons e l ih=>unfold dZ;grind
 unfold bP;grind
section
variable {s:Shape} {D:List S}
def NN{W:List V}{side:V->V->Prop}{ins:P3->Bool}(N:Net W side){t:T3}(ht:Tri W side ins t.a t.b t.c){p:P3}(hp:In [lin t.a t.b,lin t.b t.c,lin t.c t.a] p){a b:V}(hab:side a b):¬Bet p a b:=by rintro⟨x,y,k,hx,hy,hk,e⟩;have hd:=congrArg P3.d e;have hd:x*1+y*1=k*p.d+0*p.d:=hd;have:=aa hk hp.1;obtain⟨f,hf,g⟩:=ht.free N a b hab x y hx hy (by omega);have h1:=congrArg (ev f) e;rw[aX,aX]at h1;have h2:=aa hk (hp.2 f hf);grind
variable (T:Tg s D) {q:Pt} (hq:c6 q=true) (hqd:0<q.den)
include T hq hqd
def QE(t:T3)(ht:Tri (bz s) (sides s D) (dB s) t.a t.b t.c)(h:bP t.ring q=2):In [lin t.a t.b,lin t.b t.c,lin t.c t.a] (p3 q):=by have:=(O6 (wq T ht) q hq (by rw[<-dO];exact ht.left)).1 h;exact⟨hqd,λf hf=>this f (by unfold kh;rw[yI];exact hf)⟩
def Y5(t:T3)(ht:Tri (bz s) (sides s D) (dB s) t.a t.b t.c)(h:bP t.ring q=1):∃a b,sides s D a b/\Bet (p3 q) a b/\onP ⟨a,b⟩ q=true:=by have V:=(iB _).1 (wq T ht);obtain⟨e,he,ho⟩:=Dy V hq h;have hs:=AL ht (by rw[<-wv];exact he);exact⟨e.a,e.b,hs,(kI hqd (T.filled.net.ne hs)).1 ho,ho⟩
def Vf{t:T3}(ht:Tri (bz s) (sides s D) (dB s) t.a t.b t.c)(h1:bP t.ring q=2):eL s q=2:=by
 have N:=T.filled.net;have I:=QE T hq hqd t ht h1;refine DM.2 ((EK T.vs hq λe he=>o7.2 λg=> ?_).2 ?_)
 .exact NN N ht I (.inl (fT _ he):sides s D e.a e.b) ((kI hqd (T.vs.mD he)).1 g)
 .rw[T.filled.calm.const (ht.free N) I (Bd ht.left)];exact ht.mid
def Zk{t:T3}(ht:Tri (bz s) (sides s D) (dB s) t.a t.b t.c)(h1:bP t.ring q≠0):eL s q≠0:=by
 rcases Dx t.ring q with c|c|c
 .omega
 .obtain⟨a,b,hs,hb,ho⟩:=Y5 T hq hqd t ht c;have ne:=T.filled.net.ne hs;have ho':onP ⟨b,a⟩ q=true:=(kI hqd (e:=⟨b,a⟩) ne.symm).2 hb.swap;rcases hs with hs|hs<;>rcases bi.1 hs with hs|hs
  .exact Fy T hq hqd hs ho
  .exact OJ T hq hqd hs ho
  .exact Fy T hq hqd hs ho'
  .exact OJ T hq hqd hs ho'
 .rw[Vf T hq hqd ht c];decide
def Y0{TL:List T3}(A:All3 (bz s) (sides s D) (dB s) TL)(h:eL s q≠0):∃t∈TL,bP t.ring q≠0:=by
 have hS:=T.vs;have N:=T.filled.net;have P:=Uf T A;by_cases c:∃e∈bQ s++D,onP e q=true
 .obtain⟨e,he,ho⟩:=c;have hs:sides s D e.a e.b:= .inl he;have ne:=N.ne hs;have:e∈jQ (iK s) D\/swp e∈jQ (iK s) D:=by
   rcases bi.1 he with he|he
   .simp only[Ad T (sJ T)];rw[xN,bi,cQ]at he;rcases he with he|⟨r,hr,he⟩
    .exact .inl ⟨hs,(ww T he).1⟩
    .exact .inr ⟨N.symm hs,(xM T hr he).1⟩
   .exact .inl (fB _ (by grind))
  have key:∀d:S,d∈jQ (iK s) D->onP d q=true->∃t∈TL,bP t.ring q≠0:=λd hd ho=>by obtain⟨r,hr,hd⟩:=cQ.1 (P.mem_iff.2 hd);obtain⟨t,ht,rfl⟩:=bR.1 hr;refine⟨t,ht,?_⟩;unfold bP;rw[wq T (A.tri t ht),hq];rw[ue ⟨d,hd,ho⟩];decide
  rcases this with hd|hd
  .grind
  .exact key _ hd ((kI hqd (e:=swp e) ne.symm).2 ((kI hqd ne).1 ho).swap)
 .have off:∀e∈bQ s++D,onP e q=false:=by grind
  have w:∀r∈aD s,bP r q=if br r (p3 q)then 2 else 0:=λr hr=>qZ (hS.ring hr) hq λe he=>off e (fT _ (cQ.2 ⟨r,hr,he⟩));have ii:dB s (p3 q)=true:=by
   refine(EK hS hq (by grind)).1 (DM.1 ?_);rw[Dd hS]at h|-;rw[w _ bo]at h|-;have:∀x:Int,(x=0\/x=2)->∀l:List aE,(∀r∈l,r∈s.holes)->fV q l x≠0->fV q l x=2:=λx hx l=>by
    induction l with
    |nil=>unfold fV at h|-;omega
    |cons r l ih=>
     intro hl hn;unfold fV at hn|-;rw[w r (bk _ (by grind))]at hn|-;grind
   grind
  have sw:∀e∈bQ s++D,hit (p3 q) (swp e)=hit (p3 q) e:=λe he=>by
   have hs:sides s D e.a e.b:= .inl he;refine YJ _ _ _ λh0=>cu λhd=> ?_;obtain⟨x,y,k,hx,hy,hxy,hk,g⟩:=OI (r:=p3 q) hqd h0 hd;have hdd:x*1+y*1=k*q.den:=congrArg P3.d g;have:k≠0:=by grind
   have:=off e he;rw[(kI hqd (N.ne hs)).2 ⟨x,y,k,hx,hy,by omega,by rw[g];unfold cmb;simp⟩]at this;cases this
  have swL:∀l:List S,(∀e∈l,e∈bQ s++D)->(l.map swp).map (hit (p3 q))=l.map (hit (p3 q)):=λl hl=>by simp_all
  have tot:=Lt (P.map (hit (p3 q)));rw[Eh]at tot;unfold jQ iK at tot;rw[dR,dR,dR,xb,xb,xb,swL _ λe he=>fT _ (by rw[xN];grind),swL D (by grind)]at tot;rw[Eh]at tot;unfold dB at ii;rw[bn,bf]at ii;obtain⟨i1,i2⟩:=ii;rw[Eg (l:=s.holes.map λr=>cU ((aH r).map (hit (p3 q)))) λb hb=>by obtain⟨r,hr,rfl⟩:=bR.1 hb;have:=i2 r hr;unfold br at this;grind]at tot
  unfold br at i1;rw[i1]at tot;have tot:cU ((TL.map T3.ring).map λr=>cU ((aH r).map (hit (p3 q))))=true:=by rw[tot];cases cU (D.map (hit (p3 q)))<;>rfl
  refine cu λcn=> ?_;rw[Eg λb hb=> ?_]at tot
  .cases tot
  obtain⟨r,hr,rfl⟩:=bR.1 hb;obtain⟨t,ht,rfl⟩:=bR.1 hr;have V:=(iB _).1 (wq T (A.tri t ht));have hw:=qZ V hq λe he=>by
   have hs:=AL (A.tri t ht) (by rw[<-wv];exact he);refine o7.2 λg=> ?_;have b:=(kI hqd (N.ne hs)).1 g;rcases hs with hs|hs
   .simp_all
   .have:=off _ hs;rw[(kI hqd (e:=⟨e.b,e.a⟩) (N.ne (.inr (by assumption):sides s D e.a e.b)).symm).2 b.swap]at this;cases this
  refine o7.2 λg=>cn ⟨t,ht,?_⟩;rw[hw,show br t.ring (p3 q)=true from g];decide
end
end Geo
end
namespace Geo
def gY(v:V):Prop:=0<v.y\/(v.y=0/\0<v.x)
instance(v:V):Decidable (gY v):=by unfold gY;infer_instance
def dot(a b:V):Int:=a.x*b.x+a.y*b.y
def alt(a b:V):Prop:=(gY a/\¬gY b)\/((gY a↔gY b)/\0<cross a b)
instance(a b:V):Decidable (alt a b):=by unfold alt;infer_instance
def vF(f t:V):Int:=if 0<cross f t then 0 else if cross f t<0 then 2 else if dot f t<0 then 1 else 3
def pu(f a b:V):Bool:=decide (vF f a<vF f b)||(decide (vF f a=vF f b)&&decide (0<cross a b))
def nz(v:V):Prop:=¬(v.x=0/\v.y=0)
def iI(a b:V):Prop:=¬(cross a b=0/\0<=dot a b)
def NA(a b:V):dot b a=dot a b:=by unfold dot;grind
def iI.symm{a b:V}(h:iI a b):iI b a:=λ⟨h1,h2⟩=>h ⟨by rw[iU]at h1;omega,by rw[NA]at h2;exact h2⟩
def Fu{a:V}(ha:gY a){k:Int}(hk:0<=k):0<=k*a.y/\(k*a.y=0->0<=k*a.x/\(k*a.x=0->k=0)):=by
 rcases ha with h|⟨h,h2⟩
 .refine⟨bm hk (by omega),λh0=> ?_⟩;rcases cp.1 h0 with h1|h1
  .grind
  .omega
 .rw[h,dU];refine⟨i9 _,λ_=>⟨bm hk (by omega),λh0=> ?_⟩⟩;rcases cp.1 h0 with h1|h1
  .exact h1
  .omega
def aBN{a b c:V}(ha:gY a)(hb:gY b)(hc:gY c){i j k:Int}(hi:0<=i)(hj:0<=j)(hk:0<=k)(hx:i*a.x+j*b.x+k*c.x=0)(hy:i*a.y+j*b.y+k*c.y=0):i=0/\j=0/\k=0:=by obtain⟨a1,a2⟩:=Fu ha hi;obtain⟨b1,b2⟩:=Fu hb hj;obtain⟨c1,c2⟩:=Fu hc hk;omega
def eV(v:V):Int:=if gY v then 1 else-1
def Gv{v:V}(h:nz v):gY ⟨eV v*v.x,eV v*v.y⟩:=by
 unfold eV nz at*;by_cases hp:gY v
 .simp_all
 .unfold gY at*;grind
def Hh(v:V):eV v*eV v=1:=by unfold eV;split<;>rfl
def aAj(u v w:V):cross u v*w.x+cross v w*u.x+cross w u*v.x=0/\cross u v*w.y+cross v w*u.y+cross w u*v.y=0:=by unfold cross;grind
def xF{u v w:V}(hu:nz u)(hv:nz v)(hw:nz w)(h1:0<=eV w*cross u v)(h2:0<=eV u*cross v w)(h3:0<=eV v*cross w u):cross u v=0/\cross v w=0/\cross w u=0:=by obtain⟨x,y⟩:=aAj u v w;have sw:=Hh w;have su:=Hh u;have sv:=Hh v;have key:=aBN (Gv hw) (Gv hu) (Gv hv) h1 h2 h3 (by grind) (by grind);grind
def zU{u v w:V}(hu:nz u)(hv:nz v)(hw:nz w)(h1:eV w*cross u v<=0)(h2:eV u*cross v w<=0)(h3:eV v*cross w u<=0):cross u v=0/\cross v w=0/\cross w u=0:=by have:=xF hv hu hw (by rw[iU u v,lh];omega) (by rw[iU w u,lh];omega) (by rw[iU v w,lh];omega);rw[iU u v,iU w u,iU v w]at this;omega
def pT{u v:V}(hu:nz u)(hv:nz v)(h:cross u v=0):(0<dot u v/\(gY u↔gY v))\/(dot u v<0/\(gY u↔¬gY v)):=by
 have e1:dot u u*v.x=dot u v*u.x:=by unfold dot cross at*;grind
 have e2:dot u u*v.y=dot u v*u.y:=by unfold dot cross at*;grind
 have hd:0<dot u u:=by
  unfold dot nz at*;have sq:∀x:Int,0<=x*x:=λx=>by
   rcases Int.le_total 0 x with h|h
   .exact bm h h
   .have:=bm (show 0<= -x by omega) (show 0<= -x by omega);grind
  have h1:=sq u.x;have h2:=sq u.y;by_cases hx:u.x=0
  .have hy:u.y≠0:=by grind
   have:u.y*u.y≠0:=λh=>by rcases cp.1 h with h|h<;>exact hy h
   omega
  .have:u.x*u.x≠0:=λh=>by rcases cp.1 h with h|h<;>exact hx h
   omega
 generalize dot u u=d at*;generalize dot u v=k at*;have sg:∀a b:Int,d*a=k*b->(0<k->(0<a↔0<b)/\(a=0↔b=0))/\(k<0->(0<a↔b<0)/\(a=0↔b=0)/\(a<0↔0<b))/\(k=0->a=0):=by
  intro a b e;obtain⟨p1,p2,p3,p4,p5,p6⟩:=iP d a;obtain⟨q1,q2,q3,q4,q5,q6⟩:=iP k b;refine⟨λhk=> ?_,λhk=> ?_,λhk=> ?_⟩
  .grind
  .grind
  .grind
 obtain⟨x1,x2,x3⟩:=sg _ _ e1;obtain⟨y1,y2,y3⟩:=sg _ _ e2;rcases o4 k 0 with hk|hk|hk
 .unfold gY nz at*;omega
 .exact absurd (by grind) hv
 .unfold gY;omega
def ID(u v w:V):Prop:=(alt u v/\alt v w)\/(alt v w/\alt w u)\/(alt w u/\alt u v)
def Xa{u v w:V}(hu:nz u)(hv:nz v)(hw:nz w)(_h1:iI u v)(_h2:iI v w)(_h3:iI w u):pu u v w=true↔ID u v w:=by have t1:=xF hu hv hw;have t2:=zU hu hv hw;have l1:=pT hu hv;have l3:=pT hw hu;have d3:=NA w u;have c3:=iU w u;unfold iI at _h1 _h2 _h3;unfold eV at t1 t2;unfold pu ID alt vF;generalize cross u v=a at*;grind
end Geo
section
namespace Geo
def FX{a b:V}(h:alt a b):¬alt b a:=by have c:=iU a b;unfold alt at*;grind
def rF(p q:V)(cw:Bool)(b:V):List V->V
 |[] =>b
 |x::l=>if x=q then rF p q cw b l else if b=q\/pu (sub q p) (sub x p) (sub b p)≠cw then rF p q cw x l else rF p q cw b l
def fQ(l:List V)(p q:V)(cw:Bool):V:=rF p q cw q l
def mv{p q m:V}{cw:Bool}(hm:m≠q){S:V->Prop}(H1:∀x,S x->x≠q->x≠m->pu (sub q p) (sub m p) (sub x p)≠cw)(H2:∀x,S x->x≠q->x≠m->¬pu (sub q p) (sub x p) (sub m p)≠cw):
  ∀(l:List V) (b:V),(∀x∈l,S x)->(b=q\/S b)->(b=m\/m∈l)->rF p q cw b l=m
 |[],b,_,_,h=>by
  rcases h with h|h
  .exact h
  .cases h
 |x::l,b,hl,hb,h=>by
  have hl':∀y∈l,S y:=by grind
  have hx:=hl x bo;unfold rF;by_cases e1:x=q
  .rw[if_pos e1];refine mv hm H1 H2 l b hl' hb ?_;grind
  .rw[if_neg e1];by_cases e2:x=m
   .subst e2;by_cases e3:b=x
    .subst e3;split
     .exact mv hm H1 H2 l b hl' (.inr hx) (.inl rfl)
     .exact mv hm H1 H2 l b hl' (.inr hx) (.inl rfl)
    .rw[if_pos]
     .exact mv hm H1 H2 l x hl' (.inr hx) (.inl rfl)
     grind
   .by_cases e3:b=m
    .subst e3;rw[if_neg]
     .exact mv hm H1 H2 l b hl' hb (.inl rfl)
     grind
    .have hml:m∈l:=by
      rcases h with h|h
      .grind
      .grind
     split
     .exact mv hm H1 H2 l x hl' (.inr hx) (.inr hml)
     .exact mv hm H1 H2 l b hl' hb (.inr hml)
def zT{p q:V}{cw:Bool}:∀(l:List V),(∀x∈l,x=q)->rF p q cw q l=q
 |[],_=>rfl
 |x::l,h=>by
  unfold rF;rw[if_pos (h x (by grind))];exact zT l (by grind)
structure Fan(p:V)(L:List V):Prop where
 nz:∀x∈L,nz (sub x p)
 apart:∀x∈L,∀y∈L,x≠y->iI (sub x p) (sub y p)
 sorted:L.Pairwise λa b=>alt (sub a p) (sub b p)
def O5(a:V):¬alt a a:=λh=>FX h h
section
variable {p:V} {L:List V}
def Fan.nodup(F:Fan p L):L.Nodup:=Cg (R:=λa b=>alt (sub a p) (sub b p)) (λ{a b} h (e:a=b)=>by subst e;exact O5 _ h) F.sorted
def Fan.lt(F:Fan p L){i j:Nat}(hi:i<L.length)(hj:j<L.length)(h:i<j):alt (sub L[i] p) (sub L[j] p):=om.1 F.sorted i j hi hj h
def Fan.ix(F:Fan p L){i j:Nat}(hi:i<L.length)(hj:j<L.length):alt (sub L[i] p) (sub L[j] p)↔i<j:=by
 constructor
 .intro h;rcases Nat.lt_trichotomy i j with h1|h1|h1
  .exact h1
  .subst h1;exact absurd h (O5 _)
  .exact absurd h (FX (F.lt hj hi h1))
 .exact F.lt hi hj
def Fan.ne(F:Fan p L){i j:Nat}(hi:i<L.length)(hj:j<L.length)(h:i≠j):L[i]≠L[j] :=by
 rcases Nat.lt_or_gt_of_ne h with h1|h1
 .exact om.1 F.nodup i j hi hj h1
 .exact(om.1 F.nodup j i hj hi h1).symm
def Fan.soon(F:Fan p L){i j k:Nat}(hi:i<L.length)(hj:j<L.length)(hk:k<L.length)(h1:i≠j)(h2:j≠k)(h3:k≠i):
  pu (sub L[i] p) (sub L[j] p) (sub L[k] p)=true↔(i<j/\j<k)\/(j<k/\k<i)\/(k<i/\i<j):=by
 have m:∀{i:Nat} (hi:i<L.length),L[i]∈L:=by grind
 rw[Xa (F.nz _ (m hi)) (F.nz _ (m hj)) (F.nz _ (m hk)) (F.apart _ (m hi) _ (m hj) (F.ne hi hj h1)) (F.apart _ (m hj) _ (m hk) (F.ne hj hk h2)) (F.apart _ (m hk) _ (m hi) (F.ne hk hi h3))];unfold ID;rw[F.ix hi hj,F.ix hj hk,F.ix hk hi]
def Fan.next(F:Fan p L){l:List V}(hl:∀x,x∈l↔x∈L){i:Nat}(hi:i<L.length){j:Nat}(hj:j<L.length)(hij:j=(i+1) % L.length):fQ l p L[i] false=L[j] :=by
 by_cases h1:L.length=1
 .have e:j=i:=by rw[hij,h1];omega
  subst e;refine zT l λx hx=> ?_;obtain⟨k,hk,rfl⟩:=io.1 ((hl x).1 hx);grind
 .have hc:(j=i+1/\i+1<L.length)\/(j=0/\i+1=L.length):=by
   by_cases h:i+1<L.length
   .rw[hij,dp h];omega
   .have:i+1=L.length:=by omega
    simp_all
  have hne:j≠i:=by omega
  refine mv (S:=λx=>x∈L) (F.ne hj hi hne) ?_ ?_ l _ (by grind) (.inl rfl) (by grind)
  .intro x hx e1 e2;obtain⟨k,hk,rfl⟩:=io.1 hx;have k1:k≠i:=by grind
   have k2:k≠j:=by grind
   rw[(F.soon hi hj hk (o8 hne) (o8 k2) k1).2 (by omega)];simp
  .intro x hx e1 e2;obtain⟨k,hk,rfl⟩:=io.1 hx;have k1:k≠i:=by grind
   have k2:k≠j:=by grind
   have:=mt (F.soon hi hk hj (o8 k1) k2 hne).1 (by omega);grind
def Fan.prev(F:Fan p L){l:List V}(hl:∀x,x∈l↔x∈L){i:Nat}(hi:i<L.length){j:Nat}(hj:j<L.length)(hij:j=(i+L.length-1) % L.length):fQ l p L[i] true=L[j] :=by
 by_cases h1:L.length=1
 .have e:j=i:=by omega
  subst e;refine zT l λx hx=> ?_;obtain⟨k,hk,rfl⟩:=io.1 ((hl x).1 hx);grind
 .have hc:(i=j+1)\/(i=0/\j+1=L.length):=by
   by_cases h:i=0
   .rw[hij,dp (by omega)];omega
   .rw[hij,show i+L.length-1=(i-1)+L.length by omega,oj,dp (by omega)];omega
  have hne:j≠i:=by omega
  refine mv (S:=λx=>x∈L) (F.ne hj hi hne) ?_ ?_ l _ (by grind) (.inl rfl) (by grind)
  .intro x hx e1 e2;obtain⟨k,hk,rfl⟩:=io.1 hx;have k1:k≠i:=by grind
   have k2:k≠j:=by grind
   have:=mt (F.soon hi hj hk (o8 hne) (o8 k2) k1).1 (by omega);omega
  .intro x hx e1 e2;obtain⟨k,hk,rfl⟩:=io.1 hx;have k1:k≠i:=by grind
   have k2:k≠j:=by grind
   rw[(F.soon hi hk hj (o8 k1) k2 hne).2 (by omega)];simp
end
end Geo
end
section
namespace Geo
section
variable {W:List V} {side:V->V->Prop}
def kN{a p:V}(h:a≠p):nz (sub a p):=λ⟨h1,h2⟩=>h (by obtain⟨ax,ay⟩:=a;obtain⟨px,py⟩:=p;unfold sub at h1 h2;grind)
def Net.fanApart(N:Net W side){p x y:V}(hx:side p x)(hy:side p y)(hne:x≠y):iI (sub x p) (sub y p):=λ⟨h1,h2⟩=>hne (by
 symm;refine N.ray hx hy (by rw[dO];exact h1) ?_;have e:ev (aW p x) (pt y)=dot (sub x p) (sub y p):=by unfold ev aW pt dot sub;grind
 omega)
def aAW(N:Net W side){p:V}{L:List V}(h:∀x∈L,side p x)(hs:L.Pairwise λa b=>alt (sub a p) (sub b p)):Fan p L where
 nz:=λx hx=>kN (N.ne (h x hx)).symm
 apart:=λx hx y hy hne=>N.fanApart (h x hx) (h y hy) hne
 sorted:=hs
end
def XA{a b c:V}(ha:nz a)(hb:nz b)(hc:nz c)(h1:alt a b)(h2:alt b c):alt a c:=by have t1:=xF ha hb hc;have t2:=zU ha hb hc;have c3:=iU a c;unfold eV at t1 t2;unfold alt at*;grind
def aAf{a b:V}(ha:nz a)(hb:nz b)(h:iI a b)(h1:¬alt a b):alt b a:=by have l:=pT ha hb;have c:=iU a b;unfold iI at h;unfold alt at*;grind
end Geo
end
section
namespace Geo
def cN:V->List V->List S
 |_,[] =>[]
 |a,x::l=>⟨a,x⟩::cN x l
def cyc:List V->List S
 |[] =>[]
 |a::l=>cN a (l++[a])
def tq:∀(a:V) (l:List V) (x:V) (m:List V),cN a (l++x::m)=cN a (l++[x])++cN x m
 |a,[],x,m=>rfl
 |a,y::l,x,m=>by
  show(⟨a,y⟩:S)::cN y (l++x::m)=(⟨a,y⟩:S)::(cN y (l++[x])++cN x m);rw[tq y l x m]
def zq:∀(a:V) (l:List V) (x:V),(cN a (l++[x])).map S.a=a::l
 |a,[],x=>rfl
 |a,y::l,x=>by
  show a::(cN y (l++[x])).map S.a=_;rw[zq y l x]
def zt:∀(a:V) (l:List V),(cN a l).map S.b=l
 |a,[] =>rfl
 |a,y::l=>by
  show y::(cN y l).map S.b=_;rw[zt y l]
def sK:∀r:List V,(cyc r).map S.a=r
 |[] =>rfl
 |a::l=>zq a l a
def Ea{r:List V}(h:r.Nodup):(cyc r).Nodup:=by rw[<-sK r]at h;exact Cg (by grind) (i8.1 h)
def mL{r:List V}{e:S}(h:e∈cyc r):e.a∈r:=by rw[<-sK r];grind
def mK{r:List V}{e:S}(h:e∈cyc r):e.b∈r:=by
 cases r with
 |nil=>cases h
 |cons a l=>
  have:e.b∈(cN a (l++[a])).map S.b:=bR.2 ⟨e,h,rfl⟩;rw[zt]at this;grind
def Oq(a:V)(l:List V):(cyc (l++[a])).Perm (cyc (a::l)):=by
 cases l with
 |nil=>exact .refl _
 |cons x m=>
  show(cN x (m++[a] ++[x])).Perm (⟨a,x⟩::cN x (m++[a]));rw[kD,Ch,tq];exact(vn (l₁:=cN x (m++[a])) (l₂:=cN a [x]))
structure CX(r:List V):Prop where
 three:3<=r.length
 nodup:r.Nodup
 left:∀e∈cyc r,∀v∈r,0<=ev (lin e.a e.b) (pt v)
def CX.rot{a:V}{l:List V}(h:CX (a::l)):CX (l++[a]) where
 three:=by have:=h.three;grind
 nodup:=(vn (l₁:=l) (l₂:=[a])).nodup_iff.2 h.nodup
 left:=λe he v hv=>h.left e ((Oq a l).mem_iff.1 he) v (by grind)
def UN{u p q:V}(hu:nz u)(hp:nz p)(hq:nz q)(h1:iI u p)(h2:iI u q)(h3:iI p q)(a:0<=cross u p)(b:cross u q<=0)(c:cross p q<=0):0<cross u p/\cross u q<0:=by have t1:=xF hu hp hq;have t2:=zU hu hp hq;have l1:=pT hu hp;have l2:=pT hu hq;have l3:=pT hp hq;have c3:=iU u q;unfold eV at t1 t2;unfold iI at h1 h2 h3;grind
def Ov{f:P3}{o w u v:V}(h0:ev f (pt o)=0)(hw:0<=ev f (pt w))(hu:0<=ev f (pt u))(hD:0<ev (lin o w) (pt u))(h1:0<=ev (lin o w) (pt v))(h2:0<=ev (lin u o) (pt v)):0<=ev f (pt v):=by
 have e:ev (lin o w) (pt u)*ev f (pt v)=ev (lin u o) (pt v)*ev f (pt w)+ev (lin o w) (pt v)*ev f (pt u)+(ev (lin o w) (pt u)-ev (lin u o) (pt v)-ev (lin o w) (pt v))*ev f (pt o):=by unfold ev lin pt;grind
 have a:=bm h2 hw;have b:=bm h1 hu;rw[h0,dU]at e;by_cases hn:ev f (pt v)<0
 .have:=fk hD hn;omega
 .omega
section
variable {W:List V} {side:V->V->Prop}
def Yj{i j v p:V}{f k1 k2:P3}(hij:i≠j)(h1i:ev k1 (pt i)=0)(h1j:0<ev k1 (pt j))(h2j:ev k2 (pt j)=0)(h2i:0<ev k2 (pt i))(fi:0<=ev f (pt i))(fj:0<=ev f (pt j))
  (hv:ev (lin i j) (pt v)<=0) (v1:0<=ev k1 (pt v)) (v2:0<=ev k2 (pt v)) (hp:0<ev (lin i j) (pt p)) (p1:0<=ev k1 (pt p)) (p2:0<=ev k2 (pt p)) (fp:ev f (pt p)=0):0<=ev f (pt v):=by
 have hL:=iW hij;have hQ:ev (lin i j) (cmb (ev (lin i j) (pt p)) (pt v) (-ev (lin i j) (pt v)) (pt p))=0:=by rw[aX,Int.neg_mul,eS];omega
 have g:=ke hQ;have e:∀k:P3,ev k (cmb (ev (lin i j) (pt p)) (pt v) (-ev (lin i j) (pt v)) (pt p))=ev (lin i j) (pt p)*ev k (pt v)+ -ev (lin i j) (pt v)*ev k (pt p):=λk=>aX ..;generalize cmb (ev (lin i j) (pt p)) (pt v) (-ev (lin i j) (pt v)) (pt p)=Q at*;have m:∀k:P3,(bj i j*Q.d-ev (aW i j) Q)*ev k (pt i)+ev (aW i j) Q*ev k (pt j)=bj i j*ev k Q:=λk=>by rw[<-aX,g];unfold ev;grind
 generalize ev (aW i j) Q=t at*;generalize bj i j*Q.d-t=s at*;generalize bj i j=L at*;have q1:0<=ev k1 Q:=by rw[e k1];exact Int.add_nonneg (bm (by omega) v1) (bm (by omega) p1)
 have q2:0<=ev k2 Q:=by rw[e k2];exact Int.add_nonneg (bm (by omega) v2) (bm (by omega) p2)
 have m1:=m k1;have m2:=m k2;have m3:=m f;rw[h1i,dU]at m1;rw[h2j,dU]at m2;have t0:0<=t:=by
  have:=bm (show 0<=L by omega) q1;by_cases hn:t<0
  .have:=lZ hn h1j;omega
  .omega
 have s0:0<=s:=by
  have:=bm (show 0<=L by omega) q2;by_cases hn:s<0
  .have:=lZ hn h2i;omega
  .omega
 have f0:0<=L*ev f Q:=by rw[<-m3];exact Int.add_nonneg (bm s0 fi) (bm t0 fj)
 rw[e f,fp,dU,nT]at f0;by_cases hn:ev f (pt v)<0
 .have:=fk hL (fk hp hn);omega
 .omega
def Net.onSide(N:Net W side){i j a:V}{k1 k2:P3}(hij:side i j)(ha:a∈W)(h1i:ev k1 (pt i)=0)(h1j:0<ev k1 (pt j))(h2j:ev k2 (pt j)=0)(h2i:0<ev k2 (pt i))(h0:ev (lin i j) (pt a)=0)(a1:0<=ev k1 (pt a))(a2:0<=ev k2 (pt a)):a=i\/a=j:=by
 have hL:=iW (N.ne hij);have g:=ke h0;have m:∀k:P3,(bj i j*(pt a).d-ev (aW i j) (pt a))*ev k (pt i)+ev (aW i j) (pt a)*ev k (pt j)=bj i j*ev k (pt a):=λk=>by rw[<-aX,g];unfold ev;grind
 have m1:=m k1;have m2:=m k2;rw[h1i,dU]at m1;rw[h2j,dU]at m2;refine N.clear hij ha (bj i j*(pt a).d-ev (aW i j) (pt a)) (ev (aW i j) (pt a)) (bj i j) ?_ ?_ (by rw[g];unfold cmb pt;simp) hL
 .by_cases hn:bj i j*(pt a).d-ev (aW i j) (pt a)<0
  .have:=lZ hn h2i;have:=bm (show 0<=bj i j by omega) a2;omega
  .omega
 .by_cases hn:ev (aW i j) (pt a)<0
  .have:=lZ hn h1j;have:=bm (show 0<=bj i j by omega) a1;omega
  .omega
end
end Geo
end
section
namespace Geo
structure Jn(W:List V)(side:V->V->Prop)(r1 r2:List V)(i j x y z w:V):Prop where
 net:Net W side
 c1:CX r1
 c2:CX r2
 s1:∀e∈cyc r1,side e.a e.b
 s2:∀e∈cyc r2,side e.a e.b
 ij:(⟨i,j⟩:S)∈cyc r1
 jx:(⟨j,x⟩:S)∈cyc r1
 yi:(⟨y,i⟩:S)∈cyc r1
 ji:(⟨j,i⟩:S)∈cyc r2
 iw:(⟨i,w⟩:S)∈cyc r2
 zj:(⟨z,j⟩:S)∈cyc r2
 t1:0<=ev (lin y i) (pt w)
 t2:0<=ev (lin z j) (pt x)
 yw:y≠w
 zx:z≠x
 yj:y≠j
 xi:x≠i
 zi:z≠i
 wj:w≠j
section
variable {W:List V} {side:V->V->Prop} {r1 r2:List V} {i j x y z w:V}
def Jn.symm(J:Jn W side r1 r2 i j x y z w):Jn W side r2 r1 j i w z y x:=
 ⟨J.net,J.c2,J.c1,J.s2,J.s1,J.ji,J.iw,J.zj,J.ij,J.jx,J.yi,J.t2,J.t1,J.zx,J.yw,J.zi,J.wj,J.yj,J.xi⟩
def Jn.corner(J:Jn W side r1 r2 i j x y z w):0<ev (lin i j) (pt y)/\ev (lin i j) (pt w)<0:=by
 have N:=J.net;have sj:=J.s1 _ J.ij;have sy:=N.symm (J.s1 _ J.yi);have sw:=J.s2 _ J.iw;dsimp only at sj sy sw;have a:=J.c1.left _ J.ij y (mL J.yi);have b:=J.c2.left _ J.ji w (mK J.iw);have c:=J.t1;dsimp only at a b;rw[iV]at b c;have k:=UN (kN (N.ne sj).symm) (kN (N.ne sy).symm) (kN (N.ne sw).symm) (N.fanApart sj sy J.yj.symm) (N.fanApart sj sw J.wj.symm) (N.fanApart sy sw J.yw)
  (by rw[<-dO];exact a) (by rw[<-dO];omega) (by rw[<-dO];omega)
 rw[<-dO,<-dO]at k;exact k
def Jn.ends(J:Jn W side r1 r2 i j x y z w):0<ev (lin y i) (pt j)/\0<ev (lin j x) (pt i)/\0<ev (lin i w) (pt j)/\0<ev (lin j i) (pt z):=by
 obtain⟨a,b⟩:=J.corner;obtain⟨c,d⟩:=J.symm.corner;refine⟨by rw[<-gI];exact a,?_,?_,c⟩
 .rw[gI,iV];omega
 .rw[gI,iV];omega
def Jn.pos(J:Jn W side r1 r2 i j x y z w){a:V}(ha:a∈r1):a=i\/a=j\/0<ev (lin i j) (pt a):=by
 obtain⟨e1,e2,_,_⟩:=J.ends;have h:=J.c1.left _ J.ij a ha;dsimp only at h;by_cases h0:ev (lin i j) (pt a)=0
 .have m:a∈W:=by rw[<-sK r1]at ha;obtain⟨e,he,rfl⟩:=bR.1 ha;exact J.net.mem (J.s1 e he)
  rcases J.net.onSide (J.s1 _ J.ij) m (cH y i) e1 (bq j x) e2 h0 (J.c1.left _ J.yi a ha) (J.c1.left _ J.jx a ha)with e|e
  .exact .inl e
  grind
 omega
def Jn.half(J:Jn W side r1 r2 i j x y z w){e:S}(he:e∈cyc r1)(hne:e≠⟨i,j⟩){v:V}(hv:v∈r2):0<=ev (lin e.a e.b) (pt v):=by
 obtain⟨e1,e2,e3,e4⟩:=J.ends;have hi:=mL J.ij;have hj:=mK J.ij;have vji:=J.c2.left _ J.ji v hv;have viw:=J.c2.left _ J.iw v hv;have vzj:=J.c2.left _ J.zj v hv;dsimp only at vji viw vzj;have v1:0<=ev (lin y i) (pt v):=Ov (cH y i) J.t1 (by omega) e3 viw vji;have v2:0<=ev (lin j x) (pt v):=Ov (bq j x) (by omega) (by rw[gI];exact J.t2) e4 vji vzj;have vij:ev (lin i j) (pt v)<=0:=by rw[iV]at vji;omega
 have key:∀p∈r1,ev (lin e.a e.b) (pt p)=0->0<ev (lin i j) (pt p)->0<=ev (lin e.a e.b) (pt v):=λp hp h0 h1=>
  Yj (J.net.ne (J.s1 _ J.ij)) (cH y i) e1 (bq j x) e2 (J.c1.left e he i hi) (J.c1.left e he j hj) vij v1 v2 h1 (J.c1.left _ J.yi p hp) (J.c1.left _ J.jx p hp) h0
 have ka:=key e.a (mL he) (bq _ _);have kb:=key e.b (mK he) (cH _ _);rcases J.pos (mL he)with h|h|h
 .rcases J.pos (mK he)with g|g|g
  .exact absurd (h.trans g.symm) (J.net.ne (J.s1 e he))
  .exact absurd (by cases e;grind) hne
  .exact kb g
 .rcases J.pos (mK he)with g|g|g
  .grind
  .exact absurd (h.trans g.symm) (J.net.ne (J.s1 e he))
  .exact kb g
 .exact ka h
end
def Ae(i j:V)(A B:List V):cyc (i::(B++j::A))=cN i (B++[j])++cN j (A++[i]):=by show cN i (B++j::A++[i])=_;rw[kD,jn,tq]
def CX.join{W:List V}{side:V->V->Prop}{i j x y z w:V}{A B:List V}(J:Jn W side (i::j::A) (j::i::B) i j x y z w):CX (i::(B++j::A)):=by
 have n1:=J.c1.nodup;have n2:=J.c2.nodup;have q1:=kq.1 (Ea J.c1.nodup);have q2:=kq.1 (Ea J.c2.nodup);have dis:∀a∈A,∀b∈B,a≠b:=λa ha b hb e=>by subst e;have p1:=J.pos (a:=a) (by grind);have p2:=J.symm.pos (a:=a) (by grind);rw[iV]at p2;grind
 refine⟨?_,?_,?_⟩
 .have h1:=J.c1.three;grind
 .grind
 .intro e he v hv;have vv:v∈i::j::A\/v∈j::i::B:=by
   rcases aj.1 hv with h|h
   .grind
   .grind
  rw[Ae]at he;rcases bi.1 he with he|he
  .have h2:e∈cyc (j::i::B):=bk _ he;rcases vv with h|h
   .exact J.symm.half h2 (λg=>q2.1 (g▸he)) h
   .exact J.c2.left e h2 v h
  .have h1:e∈cyc (i::j::A):=bk _ he;rcases vv with h|h
   .exact J.c1.left e h1 v h
   .exact J.half h1 (λg=>q1.1 (g▸he)) h
end Geo
end
namespace Geo
def kG:∀(k l:List V),(cyc (l++k)).Perm (cyc (k++l))
 |[],l=>by grind
 |a::k,l=>by
  have h1:=kG k (l++[a]);rw[kD,Ch,<-kD]at h1;exact h1.trans (Oq a (k++l))
def CX.swap:∀{k l:List V},CX (k++l)->CX (l++k)
 |[],l,h=>by grind
 |a::k,l,h=>by
  have h1:=CX.rot (a:=a) (l:=k++l) h;rw[kD]at h1;have h2:=CX.swap h1;grind
def KL{α β:Type}{f:α->β}:∀{l:List α},(l.map f).Nodup->∀{a b:α},a∈l->b∈l->f a=f b->a=b
 |x::l,h,a,b,ha,hb,e=>by
  rw[cv,kq]at h;rcases aj.1 ha with ha|ha<;>rcases aj.1 hb with hb|hb
  .rw[ha,hb]
  .grind
  .grind
  .exact KL h.2 ha hb e
def A6{r:List V}(h:r.Nodup){e f:S}(he:e∈cyc r)(hf:f∈cyc r)(g:e.a=f.a):e=f:=
 KL (f:=S.a) (by rw[sK];exact h) he hf g
def BN{r:List V}(h:CX r){i j:V}(hm:(⟨i,j⟩:S)∈cyc r):∃k l A,r=k++l/\l++k=i::j::A:=by
 have hi:=mL hm;obtain⟨k,l,rfl⟩:=yu hi;have h2:=h.swap;have hp:=(kG k (i::l)).mem_iff (a:=(⟨i,j⟩:S));have hm2:=hp.2 hm;have h3:=h2.three;rw[jn]at h2 hm2 h3;match e:l++k with
 |[] =>grind
 |j'::A=>
  rw[e]at hm2 h2;have:=A6 h2.nodup hm2 (show(⟨i,j'⟩:S)∈cyc (i::j'::A)from bo) rfl;grind
structure Faces(nx:S->V)(H:S->Prop)(F:List (List V)):Prop where
 cx:∀r∈F,CX r
 once:(F.flatMap cyc).Nodup
 all:∀e,e∈F.flatMap cyc↔H e
 next:∀r∈F,∀e∈cyc r,∀f∈cyc r,e.b=f.a->nx e=f.b
def Faces.perm{nx:S->V}{H:S->Prop}{F G:List (List V)}(h:Faces nx H F)(p:F.Perm G):Faces nx H G where
 cx:=λr hr=>h.cx r (p.mem_iff.2 hr)
 once:=(p.flatMap_right cyc).nodup_iff.1 h.once
 all:=λe=>by rw[<-(p.flatMap_right cyc).mem_iff];exact h.all e
 next:=λr hr=>h.next r (p.mem_iff.2 hr)
def Faces.rotF{nx:S->V}{H:S->Prop}{k l:List V}{F:List (List V)}(h:Faces nx H ((k++l)::F)):Faces nx H ((l++k)::F):=by
 have p:(((k++l)::F).flatMap cyc).Perm (((l++k)::F).flatMap cyc):=by rw[fG,fG];exact(kG l k).append_right _
 refine⟨λr hr=> ?_,p.nodup_iff.1 h.once,λe=>by rw[<-p.mem_iff];exact h.all e,λr hr e he f hf=> ?_⟩
 .rcases aj.1 hr with e|hr
  .subst e;exact(h.cx _ (by grind)).swap
  .exact h.cx r (by grind)
 .rcases aj.1 hr with g|hr
  .subst g;exact h.next _ (by grind) e ((kG k l).mem_iff.1 he) f ((kG k l).mem_iff.1 hf)
  .exact h.next r (by grind) e he f hf
def G0(i j:V)(F F':List (List V)):Prop:=∃r q A B F2,F.Perm (r::q::F2)/\(∃k l,r=k++l/\l++k=i::j::A)/\(∃k l,q=k++l/\l++k=j::i::B)/\F'=(i::(B++j::A))::F2
def Faces.drop{W:List V}{side:V->V->Prop}(N:Net W side){nx nx':S->V}{H:S->Prop}{F:List (List V)}(Fc:Faces nx H F)(hs:∀e,H e->side e.a e.b){i j:V}(hij:H ⟨i,j⟩)(hji:H ⟨j,i⟩)
  (h1:∀e,H e->e.b=i->nx e=j->nx' e=nx ⟨j,i⟩) (h2:∀e,H e->e.b=j->nx e=i->nx' e=nx ⟨i,j⟩)
  (h3:∀e,H e->e≠⟨i,j⟩->e≠⟨j,i⟩->¬(e.b=i/\nx e=j)->¬(e.b=j/\nx e=i)->nx' e=nx e)
  (t1:∀y,H ⟨y,i⟩->nx ⟨y,i⟩=j->y≠nx ⟨j,i⟩/\0<=ev (lin y i) (pt (nx ⟨j,i⟩))) (t2:∀z,H ⟨z,j⟩->nx ⟨z,j⟩=i->z≠nx ⟨i,j⟩/\0<=ev (lin z j) (pt (nx ⟨i,j⟩))):
  ∃F',Faces nx' (λe=>H e/\e≠⟨i,j⟩/\e≠⟨j,i⟩) F'/\G0 i j F F':=by
 obtain⟨A,F1,G1,r0,p1,r1⟩:∃A F1,Faces nx H ((i::j::A)::F1)/\∃r,F.Perm (r::F1)/\∃k l,r=k++l/\l++k=i::j::A:=by obtain⟨r,hr,hm⟩:=cQ.1 ((Fc.all _).2 hij);obtain⟨k,l,A,e1,e2⟩:=BN (Fc.cx r hr) hm;have p:=Sd hr;have g:=Fc.perm p;rw[e1]at g;have g2:=g.rotF;rw[e2]at g2;exact⟨A,_,g2,r,by rw[e1]at p|-;exact p,k,l,e1,e2⟩
 have c1:=G1.cx _ bo;have ij1:(⟨i,j⟩:S)∈cyc (i::j::A):=bo;have n1:=c1.nodup;rw[kq,kq]at n1;obtain⟨n3,n4,n5⟩:=n1;obtain⟨x,A',eA⟩:∃x A',A=x::A':=by
  match A,c1.three with
  |x::A',_=>grind
 obtain⟨y,A2,eA2⟩:∃y A2,A=A2++[y] :=by
  rcases Se A with e|⟨A2,y,e⟩
  .grind
  grind
 have jx1:(⟨j,x⟩:S)∈cN j (A++[i]):=by rw[eA];exact bo
 have yi1:(⟨y,i⟩:S)∈cN j (A++[i]):=by rw[eA2,kD,Ch,tq];exact fB _ bo
 have up1:∀{e},e∈cN j (A++[i])->e∈cyc (i::j::A):=λh=>bk _ h;obtain⟨B,F2,G2,q0,p2,r2⟩:∃B F2,Faces nx H ((i::j::A)::(j::i::B)::F2)/\∃q,F1.Perm (q::F2)/\∃k l,q=k++l/\l++k=j::i::B:=by
  obtain⟨r,hr,hm⟩:=cQ.1 ((G1.all _).2 hji);rcases aj.1 hr with e|hr
  .rw[e]at hm;have:=A6 c1.nodup hm (up1 jx1) rfl;grind
  .obtain⟨k,l,B,e1,e2⟩:=BN (G1.cx r (by grind)) hm;have p:=Sd hr;have g:=(G1.perm (p.cons _)).perm (List.Perm.swap _ _ _);rw[e1]at g;have g2:=g.rotF;rw[e2]at g2;exact⟨B,_,g2.perm (List.Perm.swap _ _ _),r,by rw[e1]at p|-;exact p,k,l,e1,e2⟩
 clear G1;have m1:(i::j::A)∈(i::j::A)::(j::i::B)::F2:=by grind
 have m2:(j::i::B)∈(i::j::A)::(j::i::B)::F2:=by grind
 have m3:∀{r},r∈F2->r∈(i::j::A)::(j::i::B)::F2:=by grind
 have c2:=G2.cx _ m2;have ji2:(⟨j,i⟩:S)∈cyc (j::i::B):=bo;have n1:=c2.nodup;rw[kq,kq]at n1;obtain⟨k3,k4,k5⟩:=n1;obtain⟨w,B',eB⟩:∃w B',B=w::B':=by
  match B,c2.three with
  |w::B',_=>grind
 obtain⟨z,B2,eB2⟩:∃z B2,B=B2++[z] :=by
  rcases Se B with e|⟨B2,z,e⟩
  .grind
  grind
 have iw2:(⟨i,w⟩:S)∈cN i (B++[j]):=by rw[eB];exact bo
 have zj2:(⟨z,j⟩:S)∈cN i (B++[j]):=by rw[eB2,kD,Ch,tq];exact fB _ bo
 have up2:∀{e},e∈cN i (B++[j])->e∈cyc (j::i::B):=λh=>bk _ h;have hm:∀{r e},r∈(i::j::A)::(j::i::B)::F2->e∈cyc r->H e:=λhr he=>(G2.all _).1 (by grind);have xA:x∈A:=by rw[eA];grind
 have yA:y∈A:=by rw[eA2];grind
 have wB:w∈B:=by rw[eB];grind
 have zB:z∈B:=by rw[eB2];grind
 have nij:nx ⟨i,j⟩=x:=G2.next _ m1 _ ij1 _ (up1 jx1) rfl;have nji:nx ⟨j,i⟩=w:=G2.next _ m2 _ ji2 _ (up2 iw2) rfl;have nyi:nx ⟨y,i⟩=j:=G2.next _ m1 _ (up1 yi1) _ ij1 rfl;have nzj:nx ⟨z,j⟩=i:=G2.next _ m2 _ (up2 zj2) _ ji2 rfl;have T1:=t1 y (hm m1 (up1 yi1)) nyi;have T2:=t2 z (hm m2 (up2 zj2)) nzj;rw[nji]at T1;rw[nij]at T2;have J:Jn W side (i::j::A) (j::i::B) i j x y z w:=⟨N,c1,c2,by grind,by grind,ij1,up1 jx1,up1 yi1,ji2,up2 iw2,up2 zj2,T1.2,T2.2,T1.1,T2.1,
  by grind,by grind,by grind,by grind⟩
 have cj:=CX.join J;have nj:=cj.nodup;rw[kq,bi,nR]at nj;have P:(((i::j::A)::(j::i::B)::F2).flatMap cyc).Perm (⟨i,j⟩::⟨j,i⟩::(((i::(B++j::A))::F2).flatMap cyc)):=by rw[fG,fG,fG,Ae];show(⟨i,j⟩::(cN j (A++[i])++(⟨j,i⟩::(cN i (B++[j])++F2.flatMap cyc)))).Perm _;refine List.Perm.cons _ (List.perm_middle.trans (List.Perm.cons _ ?_));rw[<-kD];exact vn.append_right _
 have nd:=P.nodup_iff.1 G2.once;rw[kq,kq,aj]at nd;obtain⟨d1,d2,d3⟩:=nd;have d4:(⟨i,j⟩:S)∉((i::(B++j::A))::F2).flatMap cyc:=by grind
 have keep:∀r∈(i::j::A)::(j::i::B)::F2,∀e∈cyc r,∀f∈cyc r,e.b=f.a->e≠⟨i,j⟩->e≠⟨j,i⟩->f≠⟨i,j⟩->f≠⟨j,i⟩->nx' e=f.b:=λr hr e he f hf g e1 e2 f1 f2=>by
  have hn:=G2.next r hr e he f hf g;rw[<-hn];refine h3 e (hm hr he) e1 e2 ?_ ?_
  .rintro⟨p1,p2⟩;cases f;grind
  .rintro⟨p1,p2⟩;cases f;grind
 refine⟨(i::(B++j::A))::F2,⟨λr hr=> ?_,d3,λe=> ?_,λr hr e he f hf g=> ?_⟩,r0,q0,A,B,F2,p1.trans (p2.cons _),r1,r2,rfl⟩
 .rcases aj.1 hr with e|hr
  .grind
  .exact G2.cx r (m3 hr)
 .rw[<-G2.all,P.mem_iff,aj,aj];constructor
  .intro h;exact⟨.inr (.inr h),by grind,by grind⟩
  grind
 .have ne:∀{e},e∈cyc r->e≠⟨i,j⟩/\e≠⟨j,i⟩:=λh=>⟨λg=>d4 (g▸cQ.2 ⟨_,hr,h⟩),λg=>d2 (g▸cQ.2 ⟨_,hr,h⟩)⟩;obtain⟨e1,e2⟩:=ne he;obtain⟨f1,f2⟩:=ne hf;rcases aj.1 hr with hr|hr
  .subst hr;rw[Ae]at he hf;have sB:∀{f},f∈cN i (B++[j])->f.a=i\/f.a∈B:=λ{f} h=>by
    have:f.a∈(cN i (B++[j])).map S.a:=by grind
    rw[zq]at this;grind
   have sA:∀{f},f∈cN j (A++[i])->f.a=j\/f.a∈A:=λ{f} h=>by
    have:f.a∈(cN j (A++[i])).map S.a:=by grind
    rw[zq]at this;grind
   have tB:∀{f},f∈cN i (B++[j])->f.b∈B\/f.b=j:=λ{f} h=>by
    have:f.b∈(cN i (B++[j])).map S.b:=by grind
    rw[zt]at this;grind
   have tA:∀{f},f∈cN j (A++[i])->f.b∈A\/f.b=i:=λ{f} h=>by
    have:f.b∈(cN j (A++[i])).map S.b:=by grind
    rw[zt]at this;grind
   have AB:∀v,v∈A->v∈B->False:=λv ha hb=>nj.2.2.2 v hb v (by grind) rfl;rcases bi.1 he with he|he<;>rcases bi.1 hf with hf|hf
   .grind
   .have ej:e.b=j:=by
     rcases tB he with h|h
     .grind
     .exact h
    rw[h2 e (hm m2 (up2 he)) ej (G2.next _ m2 e (up2 he) _ ji2 ej)];exact G2.next _ m1 _ ij1 f (up1 hf) (ej.symm.trans g)
   .have ei:e.b=i:=by
     rcases tA he with h|h
     .grind
     .exact h
    rw[h1 e (hm m1 (up1 he)) ei (G2.next _ m1 e (up1 he) _ ij1 ei)];exact G2.next _ m2 _ ji2 f (up2 hf) (ei.symm.trans g)
   grind
  grind
end Geo
section
namespace Geo
def JV{u v t:V}(hu:nz u)(hv:nz v)(ht:nz t)(h1:iI u t)(h2:iI v t)(hc:0<cross v u)(hs:¬(0<cross v t/\0<cross t u)):pu u t v=true/\pu u v t≠true:=by have t1:=xF hv ht hu;have t2:=zU hv ht hu;have l2:=pT hv ht;have c1:=iU v u;have c2:=iU t u;have c3:=iU v t;unfold iI at h1 h2;unfold eV at t1 t2;unfold pu vF;grind
section
variable {W:List V} {side:V->V->Prop} {ins:P3->Bool}
def Tri.next(N:Net W side){a b c:V}(T:Tri W side ins a b c){l:List V}(hl:∀x,x∈l↔side b x):fQ l b a true=c:=by
 have ba:=N.symm T.ab;have bc:=T.bc;have hc:c≠a:=N.ne T.ca;have hcr:0<cross (sub c b) (sub a b):=by rw[<-dO,gI];exact T.left
 refine mv (S:=λx=>side b x) hc ?_ ?_ l a (by grind) (.inl rfl) (by grind)
 .intro x hx e1 e2;exact(JV (kN (N.ne ba).symm) (kN (N.ne bc).symm) (kN (N.ne hx).symm) (N.fanApart ba hx e1.symm) (N.fanApart bc hx e2.symm) hcr (by have:=T.rot.sector N hx;unfold Ccw at this;rw[dO,dO]at this;exact this)).2
 .intro x hx e1 e2;have:=(JV (kN (N.ne ba).symm) (kN (N.ne bc).symm) (kN (N.ne hx).symm) (N.fanApart ba hx e1.symm) (N.fanApart bc hx e2.symm) hcr (by have:=T.rot.sector N hx;unfold Ccw at this;rw[dO,dO]at this;exact this)).1
  grind
def Tri.cx(N:Net W side){a b c:V}(T:Tri W side ins a b c):CX [a,b,c] where
 three:=by simp
 nodup:=by have h1:=N.ne T.ab;have h2:=N.ne T.bc;have h3:=N.ne T.ca;grind
 left:=by intro e he v hv;have l:=T.left;have l2:=T.rot.left;have l3:=T.rot.rot.left;have he:e∈([⟨a,b⟩,⟨b,c⟩,⟨c,a⟩] :List S):=he;simp only[aj,cG,or_false]at he hv;rcases he with rfl|rfl|rfl<;>rcases hv with rfl|rfl|rfl<;>first|(rw[bq];exact i9 _)|(rw[cH];exact i9 _)|grind
def aAX(H:Filled W side ins){TL:List T3}(A:All3 W side ins TL){DS:List S}(hn:DS.Nodup)(hm:∀e:S,e∈DS↔side e.a e.b/\Lft ins e.a e.b){nx:S->V}(hx:∀a b c,Tri W side ins a b c->nx ⟨a,b⟩=c):
  Faces nx (λe=>e∈DS) (TL.map λt=>[t.a,t.b,t.c]):=by
 have N:=H.net;have P:=A.perm H hn hm;have e:(TL.map λt=>[t.a,t.b,t.c]).flatMap cyc=TL.flatMap T3.sides:=by rw[Ia];rfl
 refine⟨λr hr=> ?_,by grind,λf=>by grind,λr hr f hf g hg h=> ?_⟩
 .obtain⟨t,ht,rfl⟩:=bR.1 hr;exact(A.tri t ht).cx N
 .obtain⟨t,ht,rfl⟩:=bR.1 hr;have T:=A.tri t ht;have h1:=N.ne T.ab;have h2:=N.ne T.bc;have h3:=N.ne T.ca;have hf:f∈([⟨t.a,t.b⟩,⟨t.b,t.c⟩,⟨t.c,t.a⟩] :List S):=hf;have hg:g∈([⟨t.a,t.b⟩,⟨t.b,t.c⟩,⟨t.c,t.a⟩] :List S):=hg;simp only[aj,cG,or_false]at hf hg;rcases hf with rfl|rfl|rfl<;>rcases hg with rfl|rfl|rfl<;>dsimp only at h|-
  .grind
  .grind
  .grind
  .grind
  .grind
  .exact hx _ _ _ T.rot
  .exact hx _ _ _ T.rot.rot
  .grind
  grind
end
end Geo
end
section
namespace Geo
section
variable {p:V} {L l l':List V}
def ZK{n a m:Nat}(ha:a<n)(h:m=(a+n-1) % n):(1<=a/\m+1=a)\/(a=0/\m+1=n):=by
 by_cases h0:a=0
 .rw[h,dp (by omega)];omega
 .rw[h,show a+n-1=(a-1)+n by omega,oj,dp (by omega)];omega
def ZW{n a m:Nat}(ha:a<n)(h:m=(a+1) % n):(a+1<n/\m=a+1)\/(a+1=n/\m=0):=by
 by_cases h0:a+1<n
 .rw[h,dp h0];omega
 .have:a+1=n:=by omega
  simp_all
def Fan.inj(F:Fan p L){i j:Nat}(hi:i<L.length)(hj:j<L.length)(h:L[i] =L[j]):i=j:=by
 by_cases e:i=j
 .exact e
 .exact absurd h (F.ne hi hj e)
def Fan.prevAt(F:Fan p L)(hl:∀x,x∈l↔x∈L){a:Nat}(ha:a<L.length):∃m,∃hm:m<L.length,fQ l p L[a] true=L[m]/\((1<=a/\m+1=a)\/(a=0/\m+1=L.length)):=
 ⟨(a+L.length-1) % L.length,bw _ (by omega),F.prev hl ha (bw _ (by omega)) rfl,ZK ha rfl⟩
def Fan.nextAt(F:Fan p L)(hl:∀x,x∈l↔x∈L){a:Nat}(ha:a<L.length):∃m,∃hm:m<L.length,fQ l p L[a] false=L[m]/\((a+1<L.length/\m=a+1)\/(a+1=L.length/\m=0)):=
 ⟨(a+1) % L.length,bw _ (by omega),F.next hl ha (bw _ (by omega)) rfl,ZW ha rfl⟩
def Fan.V9(F:Fan p L)(hl:∀x,x∈l↔x∈L)(hl':∀x,x∈l'↔x∈L){q:V}(hq:q∈L):fQ l' p q true=fQ l p q true:=by obtain⟨a,ha,rfl⟩:=io.1 hq;rw[F.prev hl ha (bw _ (by omega)) rfl,F.prev hl' ha (bw _ (by omega)) rfl]
def Fan.N7(F:Fan p L)(hl:∀x,x∈l↔x∈L){q:V}(hq:q∈L)(h:2<=L.length):fQ l p q true≠q:=by obtain⟨a,ha,rfl⟩:=io.1 hq;obtain⟨m,hm,e,h2⟩:=F.prevAt hl ha;rw[e];exact F.ne hm ha (by omega)
def Fan.Ky(F:Fan p L)(hl:∀x,x∈l↔x∈L){q j:V}(hq:q∈L)(h:fQ l p q true=j):fQ l p j false=q:=by obtain⟨a,ha,rfl⟩:=io.1 hq;obtain⟨m,hm,e,h2⟩:=F.prevAt hl ha;obtain⟨k,hk,e3,h3⟩:=F.nextAt hl hm;grind
def Fan.O9(F:Fan p L)(hl:∀x,x∈l↔x∈L){j:V}(hj:j∈L)(h:3<=L.length):fQ l p j false≠fQ l p j true:=by obtain⟨a,ha,rfl⟩:=io.1 hj;obtain⟨m,hm,e,h2⟩:=F.prevAt hl ha;obtain⟨k,hk,e3,h3⟩:=F.nextAt hl ha;rw[e,e3];exact F.ne hk hm (by omega)
def Fan.dropNext(F:Fan p L){j q:V}(hl:∀x,x∈l↔x∈L)(hl':∀x,x∈l'↔x∈L/\x≠j)(hq:q∈L)(hj:j∈L)(hne:q≠j):fQ l' p q true=if fQ l p q true=j then fQ l p j true else fQ l p q true:=by
 obtain⟨a,ha,rfl⟩:=io.1 hq;obtain⟨b,hb,rfl⟩:=io.1 hj;obtain⟨m,hm,e,h2⟩:=F.prevAt hl ha;obtain⟨c,hc,e3,h3⟩:=F.prevAt hl hb;rw[e,e3];have key:∀g (hg:g<L.length),g≠a->g≠b->(∀d,d<L.length->d≠a->d≠b->d≠g->((a<d/\d<g)\/(d<g/\g<a)\/(g<a/\a<d)))->fQ l' p L[a] true=L[g] :=λg hg h1 h2 h3=>by
  refine mv (S:=λx=>x∈L/\x≠L[b]) (F.ne hg ha h1) ?_ ?_ l' _ (by grind) (.inl rfl) (.inr ((hl' _).2 ⟨by grind,F.ne hg hb h2⟩))
  .rintro x ⟨hx,hxb⟩ e1 e2;obtain⟨d,hd,rfl⟩:=io.1 hx;have k1:d≠a:=by grind
   have k2:d≠g:=by grind
   have k3:d≠b:=by grind
   have:=h3 d hd k1 k3 k2;exact mt (F.soon ha hg hd (o8 h1) (o8 k2) k1).1 (by omega)
  .rintro x ⟨hx,hxb⟩ e1 e2;obtain⟨d,hd,rfl⟩:=io.1 hx;have k1:d≠a:=by grind
   have k2:d≠g:=by grind
   have k3:d≠b:=by grind
   have:=h3 d hd k1 k3 k2;rw[(F.soon ha hd hg (o8 k1) k2 h1).2 (by omega)];simp
 by_cases hmb:m=b
 .subst hmb;rw[if_pos rfl];by_cases hca:c=a
  .subst hca;refine zT l' λx hx=> ?_;obtain⟨hx,hxb⟩:=(hl' x).1 hx;obtain⟨d,hd,rfl⟩:=io.1 hx;grind
  grind
 .rw[if_neg (F.ne hm hb hmb)];grind
end
def NV{a b c:V}(h:0<=turn a b c):0<=ev (lin a b) (pt c):=by rw[dO];unfold turn sgn at h;omega
def Faces.dropR{W:List V}{side:V->V->Prop}(N:Net W side){l l' L:V->List V}{H:S->Prop}{F:List (List V)}{i j:V}
  (Fc:Faces (λe=>fQ (l e.b) e.b e.a true) H F) (fan:∀p,Fan p (L p)) (hl:∀p x,x∈l p↔x∈L p) (hs:∀e,H e->side e.a e.b) (hH:∀e,H e->e.a∈L e.b)
  (hl':∀p x,x∈l' p↔x∈L p/\¬((p=i/\x=j)\/(p=j/\x=i))) (hij:H ⟨i,j⟩) (hji:H ⟨j,i⟩) (hi:3<=(L i).length) (hj:3<=(L j).length)
  (n1:0<=turn i (fQ (l i) i j true) (fQ (l i) i j false)) (n2:0<=turn j (fQ (l j) j i true) (fQ (l j) j i false)):
  ∃F',Faces (λe=>fQ (l' e.b) e.b e.a true) (λe=>H e/\e≠⟨i,j⟩/\e≠⟨j,i⟩) F'/\G0 i j F F':=by
 have ji:j∈L i:=hH _ hji;have ij:i∈L j:=hH _ hij;have li':∀x,x∈l' i↔x∈L i/\x≠j:=by grind
 have lj':∀x,x∈l' j↔x∈L j/\x≠i:=by grind
 refine Fc.drop N hs hij hji ?_ ?_ ?_ ?_ ?_
 .rintro⟨q,p⟩ he hb hn;dsimp only at hb hn|-;subst hb;have hq:q∈L p:=hH _ he;have hqj:q≠j:=λe=>by subst e;exact(fan p).N7 (hl p) hq (by omega) hn
  rw[(fan p).dropNext (hl p) li' hq ji hqj,if_pos hn]
 .rintro⟨q,p⟩ he hb hn;dsimp only at hb hn|-;subst hb;have hq:q∈L p:=hH _ he;have hqj:q≠i:=λe=>by subst e;exact(fan p).N7 (hl p) hq (by omega) hn
  rw[(fan p).dropNext (hl p) lj' hq ij hqj,if_pos hn]
 .rintro⟨q,p⟩ he e1 e2 g1 g2;have hq:q∈L p:=hH _ he;by_cases hp:p=i
  .subst hp;rw[(fan p).dropNext (hl p) li' hq ji (by grind),if_neg (by grind)]
  .by_cases hp2:p=j
   .subst hp2;rw[(fan p).dropNext (hl p) lj' hq ij (by grind),if_neg (by grind)]
   .exact(fan p).V9 (hl p) (by grind) hq
 .intro y hy hn;have e:=(fan i).Ky (hl i) (hH _ hy) hn;refine⟨λh=>(fan i).O9 (hl i) ji hi (e.trans h),?_⟩;rw[e]at n1;rw[<-gI];exact NV n1
 .intro z hz hn;have e:=(fan j).Ky (hl j) (hH _ hz) hn;refine⟨λh=>(fan j).O9 (hl j) ij hj (e.trans h),?_⟩;rw[e]at n2;rw[<-gI];exact NV n2
end Geo
end
namespace Geo
def tr(nx:S->V):Nat->List S->S->List V->List S×List V
 |0,U,_,r=>(U,r)
 |f+1,U,e,r=>if e∈U then(U,r)else tr nx f (U++[e]) ⟨e.b,nx e⟩ (r++[e.a])
def Bk{nx:S->V}{f:Nat}{U:List S}{e:S}{r:List V}(h:e∈U):tr nx f U e r=(U,r):=by
 cases f with
 |zero=>rfl
 |succ f=>exact if_pos h
def GV{nx:S->V}{f:Nat}{U:List S}{e:S}{r:List V}(h:e∉U):tr nx (f+1) U e r=tr nx f (U++[e]) ⟨e.b,nx e⟩ (r++[e.a]):=if_neg h
def NX{nx:S->V}:∀(l:List V) (a x:V) (m:List V) (z:V) (f:Nat) (U:List S) (r:List V),l++[z] =x::m->(∀e∈cN a (l++[z]),e∉U)->(cN a (l++[z])).Nodup->
  (∀e∈cN a (l++[z]),∀g∈cN a (l++[z]),e.b=g.a->e.b≠z->nx e=g.b)->(a::l).Nodup->z∉l->
  ∃y,(⟨y,z⟩:S)∈cN a (l++[z])/\tr nx (f+(l.length+1)) U ⟨a,x⟩ r=tr nx f (U++cN a (l++[z])) ⟨z,nx ⟨y,z⟩⟩ (r++a::l)
 |[],a,x,m,z,f,U,r,e,hU,hn,hx,_,_=>by
  obtain⟨rfl,_⟩:=List.cons.inj e;exact⟨a,bo,GV (hU ⟨a,z⟩ bo)⟩
 |b::l,a,x,m,z,f,U,r,e,hU,hn,hx,hd,hz=>by
  obtain⟨rfl,em⟩:=List.cons.inj e;have hzb:b≠z:=by grind
  have hn2:(⟨a,b⟩:S)∉cN b (l++[z])/\(cN b (l++[z])).Nodup:=kq.1 hn;obtain⟨x2,m2,e2⟩:∃x2 m2,l++[z] =x2::m2:=by
   cases l with
   |nil=>grind
   |cons x2 l=>grind
  have hd2:=(kq.1 hd).2;obtain⟨y,hy,h⟩:=NX l b x2 m2 z f (U++[⟨a,b⟩]) (r++[a]) e2 (λe he h=>by
    rcases bi.1 h with h|h
    .exact hU e (bk _ he) h
    grind) hn2.2
   (λe he g hg=>hx e (bk _ he) g (bk _ hg)) hd2 (by grind)
  refine⟨y,bk _ hy,?_⟩;have h0:=hU ⟨a,b⟩ bo;have hnx:nx ⟨a,b⟩=x2:=hx ⟨a,b⟩ bo ⟨b,x2⟩ (bk _ (show(⟨b,x2⟩:S)∈cN b (l++[z]) by rw[e2];exact bo)) rfl hzb;have st:tr nx (f+((b::l).length+1)) U ⟨a,b⟩ r=tr nx (f+(l.length+1)) (U++[⟨a,b⟩]) ⟨b,nx ⟨a,b⟩⟩ (r++[a]):=by rw[show f+((b::l).length+1)=f+(l.length+1)+1 by grind];exact GV h0
  rw[st,hnx,h,kD,kD];rfl
def Faces.trace{nx:S->V}{H:S->Prop}{F:List (List V)}(Fc:Faces nx H F){r:List V}(hr:r∈F){e:S}(he:e∈cyc r){U:List S}(hU:∀g∈cyc r,g∉U){f:Nat}(hf:r.length<=f):
  ∃k l,r=k++l/\tr nx f U e [] =(U++cyc (l++k),l++k):=by
 obtain⟨i,j⟩:=e;obtain⟨k,l,A,e1,e2⟩:=BN (Fc.cx r hr) he;refine⟨k,l,e1,?_⟩;have c:=Fc.cx r hr;have hp:(cyc (l++k)).Perm (cyc r):=by rw[e1];exact kG k l
 have c2:CX (l++k):=by rw[e1]at c;exact c.swap
 have hl:(l++k).length=r.length:=by rw[e1,gi,gi];omega
 rw[e2]at hp c2 hl|-;have hn:=c2.nodup;obtain⟨y,hy,h⟩:=NX (nx:=nx) (j::A) i j (A++[i]) i (f-(A.length+2)) U [] rfl (λg hg=>hU g (hp.mem_iff.1 hg)) (Ea hn)
  (λe he g hg h _=>Fc.next r hr e (hp.mem_iff.1 he) g (hp.mem_iff.1 hg) h) hn (by grind)
 have ef:f-(A.length+2)+((j::A).length+1)=f:=by simp only[gu]at hl|-;omega
 rw[ef]at h;have first:(⟨i,j⟩:S)∈cyc (i::j::A):=by grind
 have hnx:nx ⟨y,i⟩=j:=Fc.next r hr ⟨y,i⟩ (hp.mem_iff.1 hy) ⟨i,j⟩ (by grind) rfl;rw[h,hnx];exact Bk (fB _ first)
def nM(nx:S->V)(f:Nat)(g:List V->List V):List S->List S×List (List V)->List S×List (List V)
 |[],x=>x
 |e::l,x=>nM nx f g l ((tr nx f x.1 e []).1,if 0<(tr nx f x.1 e []).2.length then x.2++[g (tr nx f x.1 e []).2]else x.2)
def EC{nx:S->V}{H:S->Prop}{F:List (List V)}(Fc:Faces nx H F){f:Nat}(hf:∀r∈F,r.length<=f){g:List V->List V}(hg:∀r∈F,∀k l,r=k++l->g (l++k)=g r):
  ∀(l:List S) (x:List S×List (List V)) (F1 F2:List (List V)),(∀e∈l,H e)->F.Perm (F1++F2)->(∀e,e∈x.1↔e∈F1.flatMap cyc)->x.2.Perm (F1.map g)->
   (∀r∈F2,∀e∈cyc r,e∈l)->(nM nx f g l x).2.Perm (F.map g)
 |[],x,F1,F2,_,hP,_,hx2,hl=>by
  have:F2=[] :=by
   cases F2 with
   |nil=>rfl
   |cons r F2=>
    have c:=Fc.cx r (by grind);match r,c.three with
    |a::b::r,_=>exact absurd (hl _ bo ⟨a,b⟩ bo) (by simp)
  subst this;rw[Ci]at hP;exact hx2.trans (hP.symm.map g)
 |e::l,x,F1,F2,hH,hP,hx1,hx2,hl=>by
  unfold nM;have he:e∈F.flatMap cyc:=(Fc.all e).2 (by grind);by_cases h1:e∈x.1
  .have t:tr nx f x.1 e [] =(x.1,[]):=Bk h1;rw[t];refine EC Fc hf hg l _ F1 F2 (by grind) hP hx1 hx2 λr hr g hg=> ?_;rcases aj.1 (hl r hr g hg)with h|h
   .have nd:=(hP.flatMap_right cyc).nodup_iff.1 Fc.once;grind
   .exact h
  .have h2:e∈F2.flatMap cyc:=by
    have:=(hP.flatMap_right cyc).mem_iff.1 he;rw[vz]at this;rcases bi.1 this with h|h
    .grind
    .exact h
   obtain⟨r,hr,her⟩:=cQ.1 h2;have hP2:=Sd hr;have hP3:F.Perm ((r::F1)++F2.erase r):=by grind
   have hrF:r∈F:=by grind
   have nd:=(hP3.flatMap_right cyc).nodup_iff.1 Fc.once;rw[jn,fG,vz,nR]at nd;have dis:∀g∈cyc r,g∉x.1:=by grind
   obtain⟨k,m,e1,t⟩:=Fc.trace hrF her dis (hf r hrF);have hp:(cyc (m++k)).Perm (cyc r):=by rw[e1];exact kG k m
   have hlen:0<(m++k).length:=by have:=(Fc.cx r hrF).three;rw[e1,gi]at this;rw[gi];omega
   rw[t];rw[if_pos hlen,hg r hrF k m e1];refine EC Fc hf hg l _ (r::F1) (F2.erase r) (by grind) hP3 (λq=> ?_) ?_ λr2 hr2 q hq=> ?_
   .rw[bi,hx1,hp.mem_iff,fG,bi,or_comm]
   .grind
   grind
end Geo
namespace Geo
def Ak{x y:List V}{u:V}(h:∀v∈x++u::y,leV u v)(hx:u∉x):c7 (x++u::y)=u::(y++x):=by
 have hn:nth (x++u::y) x.length=u:=by unfold nth;rw[List.getD_eq_getElem?_getD,kW (bX _),Nat.sub_self];rfl
 have e:x.length=dM (x++u::y):=TC (by grind) (λi hi=>by rw[hn];exact h _ (eC hi)) λi hi g=>by rw[hn]at g;apply hx;rw[<-g];unfold nth;grind
 unfold c7;grind
def FF{r:List V}(h:r≠[]):∃u∈r,∀v∈r,leV u v:=by
 have hp:0<r.length:=by grind
 refine⟨_,eC (qY hp),λv hv=> ?_⟩;obtain⟨i,hi,rfl⟩:=fN.1 hv;exact uB r r.length i hi
def VW{k l:List V}(hn:(k++l).Nodup):c7 (l++k)=c7 (k++l):=by
 by_cases h0:k++l=[]
 .simp_all
 .obtain⟨u,hu,hle⟩:=FF h0;have hle2:∀v∈l++k,leV u v:=by grind
  have hn2:(l++k).Nodup:=by grind
  rcases bi.1 hu with h|h
  .obtain⟨x,y,rfl⟩:=yu h;have e1:(x++u::y)++l=x++u::(y++l):=by simp
   have e2:l++(x++u::y)=(l++x)++u::y:=by simp
   rw[e1]at hn hle|-;rw[e2]at hn2 hle2|-;rw[Ak hle (by grind),Ak hle2 (by grind)];simp
  .obtain⟨x,y,rfl⟩:=yu h;have e1:(x++u::y)++k=x++u::(y++k):=by simp
   have e2:k++(x++u::y)=(k++x)++u::y:=by simp
   rw[e1]at hn2 hle2|-;rw[e2]at hn hle|-;rw[Ak hle (by grind),Ak hle2 (by grind)];simp
noncomputable def fS(r:List V)(u:V):Bool:= @decide (∃a b,(⟨a,u⟩:S)∈cyc r/\(⟨u,b⟩:S)∈cyc r/\turn a u b≠0) (Classical.propDecidable _)
def sL{r:List V}{u:V}:fS r u=true↔∃a b,(⟨a,u⟩:S)∈cyc r/\(⟨u,b⟩:S)∈cyc r/\turn a u b≠0:=by unfold fS;grind
def Wr(k l:List V):fS (l++k)=fS (k++l):=by
 funext u
 rw[Bool.eq_iff_iff,sL,sL];simp only[(kG k l).mem_iff]
noncomputable def lV(r:List V):List V:=c7 (r.filter (fS r))
def Wq{k l:List V}(hn:(k++l).Nodup):lV (l++k)=lV (k++l):=by unfold lV;rw[Wr,qQ,qQ];refine VW ?_;grind
def CX.noBack{r:List V}(c:CX r){a b:V}(h:(⟨a,b⟩:S)∈cyc r):(⟨b,a⟩:S)∉cyc r:=λg=>by
 obtain⟨k,l,A,e1,e2⟩:=BN c h;have hp:(cyc (l++k)).Perm (cyc r):=by rw[e1];exact kG k l
 have c2:CX (l++k):=by rw[e1]at c;exact c.swap
 rw[e2]at hp c2;have hn:=c2.nodup;match A,c2.three with
 |x::A,_=>
  have hx:(⟨b,x⟩:S)∈cyc (a::b::x::A):=bk _ bo;have:=A6 hn (hp.mem_iff.2 g) hx rfl;grind
def CX.around{r:List V}(c:CX r){u:V}(h:u∈r):∃a b,(⟨a,u⟩:S)∈cyc r/\(⟨u,b⟩:S)∈cyc r:=by
 have h1:u∈(cyc r).map S.a:=by rw[sK];exact h
 obtain⟨⟨x,b⟩,hb,rfl⟩:=bR.1 h1;obtain⟨k,l,rfl⟩:=yu h;have hp:=kG k (x::l);have hm:(⟨x,b⟩:S)∈cyc (k++x::l):=hb;rcases Se (l++k)with e|⟨m,y,e⟩
 .have:=c.three;simp_all
 .rw[List.concat_eq_append]at e;refine⟨y,b,hp.mem_iff.1 ?_,hm⟩;rw[jn,e];show(⟨y,x⟩:S)∈cN x (m++[y] ++[x]);rw[kD,Ch,tq];exact fB _ bo
def BR{u v:V}(h:leV u v)(hne:v≠u):gY (sub v u):=by unfold leV at h;unfold gY sub;obtain⟨ux,uy⟩:=u;obtain⟨vx,vy⟩:=v;grind
def CX.corner{W:List V}{side:V->V->Prop}(N:Net W side){r:List V}(c:CX r)(hs:∀e∈cyc r,side e.a e.b):r.filter (fS r)≠[] :=by
 obtain⟨u,hu,hle⟩:=FF (r:=r) (λe=>by have:=c.three;grind);obtain⟨a,b,ha,hb⟩:=c.around hu;have ua:=N.symm (hs _ ha);have ub:=hs _ hb;have hab:a≠b:=λe=>by subst e;exact c.noBack ha hb
 have pa:=BR (hle a (mL ha)) (N.ne ua).symm;have pb:=BR (hle b (mK hb)) (N.ne ub).symm;have:u∈r.filter (fS r):=fF.2 ⟨hu,sL.2 ⟨a,b,ha,hb,λh0=> ?_⟩⟩
 .grind
 .have hcr:cross (sub a u) (sub b u)=0:=by
   have e:cross (sub u a) (sub b a)= -cross (sub a u) (sub b u):=by unfold cross sub;grind
   unfold turn sgn at h0;split at h0
   .cases h0
   .omega
  have:=pT (kN (N.ne ua).symm) (kN (N.ne ub).symm) hcr;have ap:=N.fanApart ua ub hab;unfold iI at ap;grind
end Geo
section
namespace Geo
def PO{α:Type}(f:α->Int):∀l:List α,l≠[]->∃x∈l,∀y∈l,f x<=f y
 |[],h=>absurd rfl h
 |[x],_=>⟨x,bo,λy hy=>by simp_all⟩
 |x::z::l,_=>by
  obtain⟨m,hm,h⟩:=PO f (z::l) (by simp);by_cases c:f x<=f m
  .exact⟨x,bo,λy hy=>by rcases aj.1 hy with rfl|hy;omega;have:=h y hy;omega⟩
  .exact⟨m,bk _ hm,λy hy=>by rcases aj.1 hy with rfl|hy;omega;exact h y hy⟩
section
variable {W:List V} {side:V->V->Prop}
def CX.hull(N:Net W side){r:List V}(c:CX r)(hs:∀e∈cyc r,side e.a e.b)(f:P3)(h:∀v∈r.filter (fS r),0<=ev f (pt v)):∀v∈r,0<=ev f (pt v):=by
 have h0:r≠[] :=λe=>by have:=c.three;simp_all
 obtain⟨m,hm,hmin⟩:=PO (λv=>ev f (pt v)) r h0;obtain⟨u,hu,hle⟩:=FF (r:=r.filter λv=>decide (ev f (pt v)=ev f (pt m))) (λe=>by have:m∈r.filter λv=>decide (ev f (pt v)=ev f (pt m)):=fF.2 ⟨hm,decide_eq_true rfl⟩;rw[e]at this;cases this)
 obtain⟨hur,hum⟩:=fF.1 hu;have hum:=of_decide_eq_true hum;obtain⟨a,b,ha,hb⟩:=c.around hur;have ua:=N.symm (hs _ ha);have ub:=hs _ hb;have hab:a≠b:=λe=>by subst e;exact c.noBack ha hb
 have fa:=hmin a (mL ha);have fb:=hmin b (mK hb);have hc:u∈r.filter (fS r):=by
  refine fF.2 ⟨hur,sL.2 ⟨a,b,ha,hb,λh0=> ?_⟩⟩;have hcr:cross (sub a u) (sub b u)=0:=by
   have e:cross (sub u a) (sub b a)= -cross (sub a u) (sub b u):=by unfold cross sub;grind
   unfold turn sgn at h0;split at h0
   .cases h0
   .omega
  have ap:=N.fanApart ua ub hab;have hd:dot (sub a u) (sub b u)<0:=by unfold iI at ap;grind
  have na:=kN (N.ne ua).symm;have nb:=kN (N.ne ub).symm;have ld:=pT na nb hcr;have key:dot (sub a u) (sub a u)*(ev f (pt b)-ev f (pt u))=dot (sub a u) (sub b u)*(ev f (pt a)-ev f (pt u)):=by unfold ev pt dot sub cross at*;grind
  have pos:0<dot (sub a u) (sub a u):=by
   unfold nz at na;unfold dot;rcases o4 (sub a u).x 0 with g|g|g
   .have:=vj g g;have:=nf (sub a u).y;omega
   .have:(sub a u).y≠0:=λe=>na ⟨g,e⟩;rcases kU this with k|k
    .have:=vj k k;rw[g];omega
    .have:=aa k k;rw[g];omega
   .have:=aa g g;have:=nf (sub a u).y;omega
  have fa':0<=ev f (pt a)-ev f (pt u):=by omega
  have fb':0<=ev f (pt b)-ev f (pt u):=by omega
  have p1:=bm (gR pos) fb';have p2:dot (sub a u) (sub b u)*(ev f (pt a)-ev f (pt u))<=0:=IU (gR hd) fa';have eb:ev f (pt b)=ev f (pt u):=by
   have:dot (sub a u) (sub a u)*(ev f (pt b)-ev f (pt u))=0:=by omega
   rcases cp.1 this with g|g<;>omega
  have ea:ev f (pt a)=ev f (pt u):=by
   have:dot (sub a u) (sub b u)*(ev f (pt a)-ev f (pt u))=0:=by rw[<-key,eb];simp
   rcases cp.1 this with g|g<;>omega
  have pa:=BR (hle a (fF.2 ⟨mL ha,decide_eq_true (by omega)⟩)) (N.ne ua).symm;have pb:=BR (hle b (fF.2 ⟨mK hb,decide_eq_true (by omega)⟩)) (N.ne ub).symm;grind
 intro v hv;have:=h u hc;have:=hmin v hv;omega
def CX.common(N:Net W side){r q:List V}(c:CX r)(d:CX q)(hr:∀e∈cyc r,side e.a e.b)(hq:∀e∈cyc q,side e.a e.b)(h:∀v,v∈r.filter (fS r)↔v∈q.filter (fS q)):∃e,e∈cyc r/\e∈cyc q:=by
 obtain⟨a,ha⟩:=Ib _ (c.corner N hr);have ha2:=(h a).1 ha;obtain⟨har,hac⟩:=fF.1 ha;obtain⟨p,x,hp,hx,ht⟩:=sL.1 hac;obtain⟨_,y,_,hy⟩:=d.around (fF.1 ha2).1;have cr:∀v∈r.filter (fS r),0<=ev (lin a x) (pt v):=λv hv=>c.left _ hx v (fF.1 hv).1;have cq:∀v∈q.filter (fS q),0<=ev (lin a y) (pt v):=λv hv=>d.left _ hy v (fF.1 hv).1;have h1:=d.hull N hq (lin a x) (λv hv=>cr v ((h v).2 hv)) y (mK hy);have h2:=c.hull N hr (lin a y) (λv hv=>cq v ((h v).1 hv)) x (mK hx);have sx:=hr _ hx;have sy:=hq _ hy;by_cases e:x=y
 .subst e;exact⟨_,hx,hy⟩
 .exfalso;have ap:=N.fanApart sx sy e;rw[dO]at h1 h2;have h0:cross (sub x a) (sub y a)=0:=by
   have:cross (sub y a) (sub x a)= -cross (sub x a) (sub y a):=by unfold cross;grind
   omega
  have hd:dot (sub x a) (sub y a)<0:=by unfold iI at ap;grind
  have z:∀v∈r.filter (fS r),0<=ev (lin x a) (pt v):=λv hv=>by
   have g1:=cr v hv;have g2:=cq v ((h v).1 hv);rw[dO]at g1 g2;rw[iV,dO];have key:dot (sub x a) (sub x a)*cross (sub y a) (sub v a)=dot (sub x a) (sub y a)*cross (sub x a) (sub v a):=by unfold dot cross sub at*;grind
   have pos:0<=dot (sub x a) (sub x a):=by unfold dot;have:=nf (sub x a).x;have:=nf (sub x a).y;omega
   have k1:=bm pos g2;have k2:¬0<cross (sub x a) (sub v a):=λg=>by have:=lZ hd g;omega
   omega
  have zp:=c.hull N hr (lin x a) z p (mL hp);have wp:=c.left _ hx p (mL hp);rw[iV]at zp;have w0:ev (lin a x) (pt p)=0:=by have wp:0<=ev (lin a x) (pt p):=wp;omega
  rw[dO]at w0;apply ht;have:cross (sub a p) (sub x p)=0:=by unfold cross sub at*;grind
  unfold turn;rw[this];rfl
end
def Faces.corners{W:List V}{side:V->V->Prop}(N:Net W side){nx:S->V}{H:S->Prop}{F:List (List V)}(h:Faces nx H F)(hs:∀e,H e->side e.a e.b):(F.map lV).Nodup:=by
 have hr:∀r∈F,∀e∈cyc r,side e.a e.b:=λr hr e he=>hs e ((h.all e).1 (cQ.2 ⟨r,hr,he⟩));have o:=h.once;rw[IY,o9,IZ]at o;rw[o9,i8];have o2:=i8.1 o.2;refine(List.Pairwise.and_mem.1 o2).imp λ{a b} ⟨ha,hb,hab⟩ he=> ?_;have hm:∀v,v∈a.filter (fS a)↔v∈b.filter (fS b):=λv=>by rw[<-(uF (a.filter (fS a))).mem_iff,<-(uF (b.filter (fS b))).mem_iff];show v∈lV a↔v∈lV b;rw[he]
 obtain⟨e,e1,e2⟩:=(h.cx a ha).common N (h.cx b hb) (hr a ha) (hr b hb) hm;exact hab e e1 e e2 rfl
end Geo
end
namespace Geo
def LW(r:List V)(q:P3):Prop:=∀e∈cyc r,0<=ev (lin e.a e.b) q
def LS(r:List V)(q:P3):Prop:=∀e∈cyc r,0<ev (lin e.a e.b) q
def T3.l(t:T3):List V:=[t.a,t.b,t.c]
def T3.rE(t:T3):cyc t.l=t.sides:=rfl
def lQ(TL:List T3)(F:List (List V)):Prop:=∃G:List (List V×List T3),(G.map Prod.fst).Perm F/\(G.flatMap yv).Perm TL/\∀g∈G,(∀t∈g.2,∀v∈t.l,v∈g.1)/\∀q:P3,LW g.1 q->∃t∈g.2,LW t.l q
def lQ.start(TL:List T3):lQ TL (TL.map T3.l):=by
 refine⟨TL.map λt=>(t.l,[t]),by rw[List.map_map];exact .refl _,?_,λg hg=> ?_⟩
 .rw[Ia];simp
 .obtain⟨t,_,rfl⟩:=bR.1 hg;exact⟨by simp,λq h=>⟨t,by simp,h⟩⟩
def JF{α β:Type}{f:α->β}{G:List α}{x:β}{L:List β}(h:(G.map f).Perm (x::L)):∃g G',G.Perm (g::G')/\f g=x/\(G'.map f).Perm L:=by obtain⟨g,hg,e⟩:=bR.1 (h.mem_iff.2 bo);obtain⟨a,b,rfl⟩:=yu hg;have p:(a++g::b).Perm (g::(a++b)):=List.perm_middle;refine⟨g,a++b,p,e,?_⟩;have:=(p.map f).symm.trans h;rw[cv,e]at this;exact this.cons_inv
def LW.turn{k l:List V}{q:P3}:LW (k++l) q↔LW (l++k) q:=by unfold LW;simp only[(kG k l).mem_iff]
def lQ.joined{TL:List T3}{F F':List (List V)}{i j:V}(h:lQ TL F)(J:G0 i j F F'):lQ TL F':=by
 obtain⟨G,g1,g2,g3⟩:=h;obtain⟨r,q,A,B,F2,p,⟨k,l,e1,e2⟩,⟨k',l',e3,e4⟩,rfl⟩:=J;obtain⟨a,G1,p1,ea,q1⟩:=JF (g1.trans p);obtain⟨b,G2,p2,eb,q2⟩:=JF q1;have P:G.Perm (a::b::G2):=p1.trans (p2.cons _);have ma:=g3 a (P.mem_iff.2 bo);have mb:=g3 b (P.mem_iff.2 (bk _ bo));have va:∀v,v∈a.1->v∈i::j::A:=λv h=>by rw[ea,e1]at h;rw[<-e2];grind
 have vb:∀v,v∈b.1->v∈j::i::B:=λv h=>by rw[eb,e3]at h;rw[<-e4];grind
 have wa:∀q,LW (i::j::A) q->LW a.1 q:=λq h=>by rw[ea,e1,LW.turn,e2];exact h
 have wb:∀q,LW (j::i::B) q->LW b.1 q:=λq h=>by rw[eb,e3,LW.turn,e4];exact h
 refine⟨(i::(B++j::A),a.2++b.2)::G2,q2.cons _,?_,λg hg=> ?_⟩
 .refine List.Perm.trans ?_ ((P.flatMap_right yv).symm.trans g2);simp only[fG,kD];exact .refl _
 .rcases aj.1 hg with rfl|hg
  .refine⟨λt ht v hv=> ?_,λq h=> ?_⟩
   .rcases bi.1 ht with ht|ht
    .have:=va v (ma.1 t ht v hv);grind
    .have:=vb v (mb.1 t ht v hv);grind
   .have h:∀e∈cyc (i::(B++j::A)),0<=ev (lin e.a e.b) q:=h;rw[Ae]at h;by_cases c:0<=ev (lin i j) q
    .obtain⟨t,ht,g⟩:=ma.2 q (wa q λe he=>by
      rcases aj.1 he with rfl|he
      .exact c
      .exact h e (fB _ he))
     exact⟨t,fT _ ht,g⟩
    .obtain⟨t,ht,g⟩:=mb.2 q (wb q λe he=>by
      rcases aj.1 he with rfl|he
      .show 0<=ev (lin j i) q;rw[iV];omega
      .exact h e (fT _ he))
     exact⟨t,fB _ ht,g⟩
  .exact g3 g (P.mem_iff.2 (bk _ (bk _ hg)))
def XL{t:T3}(hl:0<ev (lin t.a t.b) (pt t.c)){q:P3}(hq:0<q.d)(h:LW t.l q)(f:P3)(hf:∀v∈t.l,0<=ev f (pt v)):0<=ev f q:=by
 have h1:=h ⟨t.a,t.b⟩ (by rw[T3.rE];unfold T3.sides;simp);have h2:=h ⟨t.b,t.c⟩ (by rw[T3.rE];unfold T3.sides;simp);have h3:=h ⟨t.c,t.a⟩ (by rw[T3.rE];unfold T3.sides;simp);have fa:=hf t.a (by simp[T3.l]);have fb:=hf t.b (by simp[T3.l]);have fc:=hf t.c (by simp[T3.l]);dsimp only at h1 h2 h3;have key:ev (lin t.a t.b) (pt t.c)*ev f q=ev (lin t.b t.c) q*ev f (pt t.a)+ev (lin t.c t.a) q*ev f (pt t.b)+ev (lin t.a t.b) q*ev f (pt t.c):=by unfold ev lin pt;grind
 have m1:=bm h2 fa;have m2:=bm h3 fb;have m3:=bm h1 fc;exact nnl hl (by rw[eS,key];omega)
end Geo
namespace Geo
def tR(F:List (List V))(U:List S):Prop:=∃F1 F2,F.Perm (F1++F2)/\∀e,e∈U↔e∈F1.flatMap cyc
def NY{nx:S->V}{H:S->Prop}{F:List (List V)}(Fc:Faces nx H F){f:Nat}(hf:∀r∈F,r.length<=f){U:List S}(I:tR F U){e:S}(he:H e):
  (tr nx f U e [] =(U,[]))\/∃r∈F,∃k l,r=k++l/\tr nx f U e [] =(U++cyc (l++k),l++k)/\tR F (U++cyc (l++k)):=by
 obtain⟨F1,F2,hP,hU⟩:=I;by_cases h1:e∈U
 .exact .inl (Bk h1)
 .right;have h2:e∈F2.flatMap cyc:=by
   have:=(hP.flatMap_right cyc).mem_iff.1 ((Fc.all e).2 he);rw[vz]at this;rcases bi.1 this with h|h
   .grind
   .exact h
  obtain⟨r,hr,her⟩:=cQ.1 h2;have hP3:F.Perm ((r::F1)++F2.erase r):=by grind
  have hrF:r∈F:=by grind
  have nd:=(hP3.flatMap_right cyc).nodup_iff.1 Fc.once;rw[jn,fG,vz,nR]at nd;have dis:∀g∈cyc r,g∉U:=by grind
  obtain⟨k,m,e1,t⟩:=Fc.trace hrF her dis (hf r hrF);have hp:(cyc (m++k)).Perm (cyc r):=by rw[e1];exact kG k m
  refine⟨r,hrF,k,m,e1,t,r::F1,F2.erase r,hP3,λq=> ?_⟩;grind
def Jb(nx:S->V)(f:Nat)(g:List V->List V):∀(l:List S) (e:S) (x:List S×List (List V)),nM nx f g (l++[e]) x=
  ((tr nx f (nM nx f g l x).1 e []).1,if 0<(tr nx f (nM nx f g l x).1 e []).2.length then(nM nx f g l x).2++[g (tr nx f (nM nx f g l x).1 e []).2]else(nM nx f g l x).2)
 |[],_,_=>rfl
 |_::l,e,_=>Jb nx f g l e _
def MY{nx:S->V}{H:S->Prop}{F:List (List V)}(Fc:Faces nx H F){f:Nat}(hf:∀r∈F,r.length<=f){g:List V->List V}:
  ∀(l:List S) (x:List S×List (List V)),tR F x.1->(∀e∈l,H e)->tR F (nM nx f g l x).1
 |[],x,I,_=>I
 |e::l,x,I,h=>by
  refine MY Fc hf l _ ?_ (by grind);rcases NY Fc hf I (h e bo)with t|⟨r,_,k,m,_,t,J⟩
  .grind
  grind
def tR.nil(F:List (List V)):tR F [] :=⟨[],F,.refl _,λe=>by simp⟩
end Geo
section
namespace Geo
def Aj{a b:V}{q f:P3}(h:Bet q a b)(ha:0<=ev f (pt a))(hb:0<=ev f (pt b)):0<=ev f q:=by obtain⟨x,y,k,hx,hy,hk,e⟩:=h;have g:=congrArg (ev f) e;rw[aX,aX]at g;have:=bm hx ha;have:=bm hy hb;exact nnl hk (by rw[eS];omega)
section
variable {W:List V} {side:V->V->Prop} {ins:P3->Bool}
def Tri.lines{t:T3}(h:Tri W side ins t.a t.b t.c):∀e∈t.sides,∀v∈t.l,0<=ev (lin e.a e.b) (pt v):=by
 have l:=h.left;have r1:ev (lin t.b t.c) (pt t.a)=ev (lin t.a t.b) (pt t.c):=gI _ _ _;have r2:ev (lin t.c t.a) (pt t.b)=ev (lin t.a t.b) (pt t.c):=by unfold ev lin pt;grind
 intro e he v hv;unfold T3.sides at he;unfold T3.l at hv;simp only[aj,cG,or_false]at he hv;rcases he with rfl|rfl|rfl<;>rcases hv with rfl|rfl|rfl<;>simp only[bq,cH] <;>omega
def HZ{t:T3}{q:P3}(h:LW t.l q):0<=ev (lin t.a t.b) q/\0<=ev (lin t.b t.c) q/\0<=ev (lin t.c t.a) q:=
 ⟨h ⟨t.a,t.b⟩ (by rw[T3.rE];unfold T3.sides;simp),h ⟨t.b,t.c⟩ (by rw[T3.rE];unfold T3.sides;simp),h ⟨t.c,t.a⟩ (by rw[T3.rE];unfold T3.sides;simp)⟩
def u4{a b c:V}{q:P3}(hl:0<ev (lin a b) (pt c))(h0:ev (lin a b) q=0)(h1:0<=ev (lin b c) q)(h2:0<=ev (lin c a) q):Bet q a b:=by refine⟨ev (lin b c) q,ev (lin c a) q,ev (lin a b) (pt c),h1,h2,hl,?_⟩;unfold ev lin at h0;unfold cmb ev lin pt;simp only[P3.mk.injEq];refine⟨?_,?_,?_⟩<;>grind
def aBh{t:T3}(h:Tri W side ins t.a t.b t.c){q:P3}(hq:0<q.d)(g:LW t.l q)(off:∀a b,side a b->¬Bet q a b):In [lin t.a t.b,lin t.b t.c,lin t.c t.a] q:=by
 obtain⟨g1,g2,g3⟩:=HZ g;have l:=h.left;have r1:ev (lin t.b t.c) (pt t.a)=ev (lin t.a t.b) (pt t.c):=gI _ _ _;have r2:ev (lin t.c t.a) (pt t.b)=ev (lin t.a t.b) (pt t.c):=by unfold ev lin pt;grind
 have n1:ev (lin t.a t.b) q≠0:=λe=>off _ _ h.ab (u4 l e g2 g3);have n2:ev (lin t.b t.c) q≠0:=λe=>off _ _ h.bc (u4 (by omega) e g3 g1);have n3:ev (lin t.c t.a) q≠0:=λe=>off _ _ h.ca (u4 (by omega) e g1 g2);refine⟨hq,λf hf=> ?_⟩;simp only[aj,cG,or_false]at hf;rcases hf with rfl|rfl|rfl<;>omega
def far(c q:P3):∀L:List S,(∀e∈L,0<ev (lin e.a e.b) q)->∃n:Int,0<n/\∀e∈L,0<n*ev (lin e.a e.b) q+ev (lin e.a e.b) c
 |[],_=>⟨1,by omega,by simp⟩
 |e::L,h=>by
  obtain⟨n,hn,g⟩:=far c q L λf hf=>h f (bk _ hf);have he:=h e bo;refine⟨n+((ev (lin e.a e.b) c).natAbs+1:Nat),by omega,λf hf=> ?_⟩;rcases aj.1 hf with rfl|hf
  .have:=dG (show(1:Int)<=ev (lin f.a f.b) q by omega) (show(0:Int)<=n+((ev (lin f.a f.b) c).natAbs+1:Nat) by omega);omega
  .have h1:=g f hf;have h2:=bm (show(0:Int)<=((ev (lin e.a e.b) c).natAbs+1:Nat) by omega) (gR (h f (bk _ hf)));rw[o6];omega
def lQ.cover{TL:List T3}{F:List (List V)}(A:All3 W side ins TL)(P:lQ TL F)(cx:∀r∈F,CX r){q:P3}(hq:0<q.d):(∃r∈F,LW r q)↔∃t∈TL,LW t.l q:=by
 obtain⟨G,g1,g2,g3⟩:=P;constructor
 .rintro⟨r,hr,h⟩;obtain⟨g,hg,rfl⟩:=bR.1 (g1.mem_iff.2 hr);obtain⟨t,ht,k⟩:=(g3 g hg).2 q h;exact⟨t,g2.mem_iff.1 (cQ.2 ⟨g,hg,ht⟩),k⟩
 .rintro⟨t,ht,h⟩;obtain⟨g,hg,hgt⟩:=cQ.1 (g2.mem_iff.2 ht);have hr:=g1.mem_iff.1 (bR.2 ⟨g,hg,rfl⟩);exact⟨g.1,hr,λe he=>XL (A.tri t ht).left hq h _ λv hv=>(cx _ hr).left e he v ((g3 g hg).1 t hgt v hv)⟩
def OB{α:Type}{R:α->α->Prop}(sy:∀a b,R a b->R b a):∀{l:List α},l.Pairwise R->∀a∈l,∀b∈l,a≠b->R a b
 |[],_,a,ha,_,_,_=>by cases ha
 |x::l,h,a,ha,b,hb,hne=>by
  obtain⟨h1,h2⟩:=List.pairwise_cons.1 h;rcases aj.1 ha with e1|k1
  .rcases aj.1 hb with e2|k2
   .exact absurd (e1.trans e2.symm) hne
   .rw[e1];exact h1 b k2
  .rcases aj.1 hb with e2|k2
   .rw[e2];exact sy _ _ (h1 a k1)
   .exact OB sy h2 a k1 b k2 hne
def lQ.one(N:Net W side){TL:List T3}{F:List (List V)}(A:All3 W side ins TL)(P:lQ TL F){r r':List V}(hr:r∈F)(hr':r'∈F)(hne:r≠r'){q:P3}(hq:0<q.d)(h:LS r q)(h':LW r' q):False:=by
 obtain⟨G,g1,g2,g3⟩:=P;obtain⟨g,hg,rfl⟩:=bR.1 (g1.mem_iff.2 hr);obtain⟨g',hg',rfl⟩:=bR.1 (g1.mem_iff.2 hr');obtain⟨u,hu,hw⟩:=(g3 g' hg').2 q h';have U:=A.tri u (g2.mem_iff.1 (cQ.2 ⟨g',hg',hu⟩));obtain⟨n,hn,far⟩:=far (ctr u.a u.b u.c) q (cyc g.1) h;have ci:=Bd U.left;have e1:∀f,ev f (cmb n q 1 (ctr u.a u.b u.c))=n*ev f q+ev f (ctr u.a u.b u.c):=λf=>by rw[aX];omega
 have hd:0<(cmb n q 1 (ctr u.a u.b u.c)).d:=by have:=aa hn hq;show 0<n*q.d+1*(ctr u.a u.b u.c).d;have:=ci.1;omega
 have hI:In [lin u.a u.b,lin u.b u.c,lin u.c u.a] (cmb n q 1 (ctr u.a u.b u.c)):=by
  refine⟨hd,λf hf=> ?_⟩;have c:=ci.2 f hf;have w:0<=ev f q:=by obtain⟨w1,w2,w3⟩:=HZ hw;simp only[aj,cG,or_false]at hf;rcases hf with rfl|rfl|rfl<;>assumption
  have:=bm (gR hn) w;rw[e1];omega
 obtain⟨t,ht,hw2⟩:=(g3 g hg).2 (cmb n q 1 (ctr u.a u.b u.c)) λe he=>by rw[e1];exact gR (far e he)
 have T:=A.tri t (g2.mem_iff.1 (cQ.2 ⟨g,hg,ht⟩));have hT:=aBh T hd hw2 λa b hs=>NN N U hI hs;have R:=ZR N T U hT hI;have o:(G.flatMap yv).Pairwise λt u=>¬Rt t u:=
  (g2.pairwise_iff λ{x y} hxy hr=>hxy hr.symm).2 (A.once.imp λ{a b} k=>aAy.2 k)
 rw[IY,IZ]at o;have o2:=i8.1 o.2;have o3:=OB (R:=λa b:List V×List T3=>∀x∈a.2,∀y∈b.2,¬Rt x y) (λa b k x hx y hy hr=>k y hy x hx hr.symm) o2 g hg g' hg' (λe=>hne (by rw[e]));exact o3 t ht u hu R
end
end Geo
end
section
namespace Geo
def LQ{q:Pt}:∀{l:List aE} {w:Int},fV q l w≠0->fV q l w≠2->(∃r∈l,bP r q=1)\/(fV q l w=w)
 |[],w,_,_=> .inr rfl
 |h::l,w,h0,h2=>by
  unfold fV at h0 h2|-;split at h0
  .exact absurd rfl h0
  .rename_i n2;rw[if_neg n2]at h2|-;split at h0
   .rename_i n1;exact .inl ⟨h,bo,n1⟩
   .rename_i n1;rw[if_neg n1]at h2|-;rcases LQ h0 h2 with⟨r,hr,g⟩|g
    .exact .inl ⟨r,bk _ hr,g⟩
    .exact .inr g
section
variable {s:Shape} {D:List S}
variable (T:Tg s D) {q:Pt} (hq:c6 q=true) (hqd:0<q.den)
include T hq hqd
def Mm{t:T3}(ht:Tri (bz s) (sides s D) (dB s) t.a t.b t.c):bP t.ring q≠0↔LW t.l (p3 q):=by
 have V:=wq T ht;have N:=T.filled.net;constructor
 .intro h;rcases Dx t.ring q with c|c|c
  .exact absurd c h
  .obtain⟨e,he,ho⟩:=Dy ((iB _).1 V) hq c;rw[wv]at he;have b:=(kI hqd (N.ne (AL ht he))).1 ho;have hm:e.a∈t.l/\e.b∈t.l:=by unfold T3.sides at he;unfold T3.l;simp only[aj,cG,or_false]at he;rcases he with rfl|rfl|rfl<;>simp
   intro f hf;rw[T3.rE]at hf;exact Aj b (ht.lines f hf _ hm.1) (ht.lines f hf _ hm.2)
  .have I:=QE T hq hqd t ht c;intro f hf;rw[T3.rE]at hf;unfold T3.sides at hf;simp only[aj,cG,or_false]at hf;rcases hf with rfl|rfl|rfl<;>exact gR (I.2 _ (by simp))
 .intro h;by_cases c:∃e∈aH t.ring,onP e q=true
  .obtain⟨e,he,ho⟩:=c;have:bP t.ring q=1:=by unfold bP;rw[V,hq];exact ue ⟨e,he,ho⟩
   omega
  .obtain⟨g1,g2,g3⟩:=HZ h;have l:=ht.left;have r1:ev (lin t.b t.c) (pt t.a)=ev (lin t.a t.b) (pt t.c):=gI _ _ _;have r2:ev (lin t.c t.a) (pt t.b)=ev (lin t.a t.b) (pt t.c):=by unfold ev lin pt;grind
   have no:∀e∈t.sides,¬Bet (p3 q) e.a e.b:=λe he b=>c ⟨e,by rw[wv];exact he,(kI hqd (N.ne (AL ht he))).2 b⟩;have n1:ev (lin t.a t.b) (p3 q)≠0:=λe=>no ⟨t.a,t.b⟩ (by unfold T3.sides;simp) (u4 l e g2 g3);have n2:ev (lin t.b t.c) (p3 q)≠0:=λe=>no ⟨t.b,t.c⟩ (by unfold T3.sides;simp) (u4 (by show 0<ev (lin t.b t.c) (pt t.a);omega) e g3 g1);have n3:ev (lin t.c t.a) (p3 q)≠0:=λe=>no ⟨t.c,t.a⟩ (by unfold T3.sides;simp) (u4 (by show 0<ev (lin t.c t.a) (pt t.b);omega) e g1 g2);have w:=O6 V q hq (by rw[<-dO];exact l);have:bP [t.a,t.b,t.c] q=2:=w.2 λf hf=>by
    unfold kh at hf;rw[yI]at hf;simp only[cv,kZ,aj,cG,or_false]at hf;rcases hf with rfl|rfl|rfl
    .show 0<ev (lin t.a t.b) (p3 q);omega
    .show 0<ev (lin t.b t.c) (p3 q);omega
    .show 0<ev (lin t.c t.a) (p3 q);omega
   show bP [t.a,t.b,t.c] q≠0;omega
def KT{TL:List T3}{F:List (List V)}(A:All3 (bz s) (sides s D) (dB s) TL)(P:lQ TL F)(cx:∀r∈F,CX r):(∃r∈F,LW r (p3 q))↔eL s q≠0:=by
 rw[P.cover A cx (show 0<(p3 q).d from hqd)];constructor
 .rintro⟨t,ht,h⟩;exact Zk T hq hqd (A.tri t ht) ((Mm T hq hqd (A.tri t ht)).2 h)
 .intro h;obtain⟨t,ht,g⟩:=Y0 T hq hqd A h;exact⟨t,ht,(Mm T hq hqd (A.tri t ht)).1 g⟩
omit hqd in
def VV(h0:eL s q≠0)(h2:eL s q≠2):∃e∈bQ s,onP e q=true:=by
 have h:=T.vs;rw[Dd h]at h0 h2;have fin:∀r∈aD s,bP r q=1->∃e∈bQ s,onP e q=true:=λr hr c=>by obtain⟨e,he,ho⟩:=Dy (h.ring hr) hq c;exact⟨e,cQ.2 ⟨r,hr,he⟩,ho⟩
 rcases LQ h0 h2 with⟨r,hr,g⟩|g
 .exact fin r (bk _ hr) g
 .rw[g]at h0 h2;have:=Dx s.outer q;exact fin s.outer bo (by omega)
def Zs{TL:List T3}{F:List (List V)}(A:All3 (bz s) (sides s D) (dB s) TL)(P:lQ TL F)(cx:∀r∈F,CX r)(he:∀e∈bQ s,∃r∈F,e∈cyc r\/swp e∈cyc r){r:List V}(hr:r∈F)(h:LS r (p3 q)):eL s q=2/\∀r'∈F,LW r' (p3 q)->r'=r:=by
 have N:=T.filled.net;have one:∀r'∈F,LW r' (p3 q)->r'=r:=λr' hr' h'=>cu λc=>P.one N A hr hr' (λe=>c e.symm) (show 0<(p3 q).d from hqd) h h';refine⟨cu λc=> ?_,one⟩;have h0:=(KT T hq hqd A P cx).1 ⟨r,hr,λe he=>gR (h e he)⟩;obtain⟨e,hem,ho⟩:=VV T hq h0 c;have b:=(kI hqd (T.vs.mD hem)).1 ho;obtain⟨r',hr',g⟩:=he e hem;have ends:e.a∈r'/\e.b∈r':=by
  rcases g with g|g
  .exact⟨mL g,mK g⟩
  .exact⟨mK g,mL g⟩
 have e1:=one r' hr' λf hf=>Aj b ((cx r' hr').left f hf _ ends.1) ((cx r' hr').left f hf _ ends.2);subst e1;have z:ev (lin e.a e.b) (p3 q)=0:=by have b1:=Aj (f:=lin e.a e.b) b (by rw[bq];omega) (by rw[cH];omega);have b2:=Aj (f:=lin e.b e.a) b (by rw[cH];omega) (by rw[bq];omega);rw[iV]at b2;omega
 rcases g with g|g
 .have:=h e g;omega
 .have:=h (swp e) g;have:0<ev (lin e.b e.a) (p3 q):=this;rw[iV]at this;omega
end
end Geo
end
section
namespace Geo
def Fwd(c a x:V):Prop:=cross (sub a c) (sub x a)=0/\0<dot (sub x a) (sub a c)
def Kp(b:Bool)(x:Int):Prop:=if b=true then 0<x else 0<=x
def GF{u v:V}(h:0<dot u v):0<dot v v:=by
 have:v.x≠0\/v.y≠0:=by refine cu λc=> ?_;unfold dot at h;grind
 unfold dot;have h1:=nf v.x;have h2:=nf v.y;rcases this with g|g
 .have:v.x*v.x≠0:=λe=>by rcases cp.1 e with e|e<;>exact g e
  omega
 .have:v.y*v.y≠0:=λe=>by rcases cp.1 e with e|e<;>exact g e
  omega
def Fwd.trans{c a x n:V}(h:Fwd c a x)(g:Fwd a x n):Fwd c x n:=by
 obtain⟨h1,h2⟩:=h;obtain⟨g1,g2⟩:=g;have p:=GF g2;have k1:dot (sub x a) (sub x a)*cross (sub x c) (sub n x)=dot (sub x a) (sub x a)*0:=by unfold dot cross sub at*;grind
 have k2:dot (sub x a) (sub x a)*dot (sub n x) (sub x c)=dot (sub x a) (sub x a)*dot (sub n x) (sub x a)+dot (sub n x) (sub x a)*dot (sub x a) (sub a c):=by unfold dot cross sub at*;grind
 refine⟨?_,?_⟩
 .rcases cp.1 (k1.trans (by simp))with e|e<;>omega
 .have m1:=aa p g2;have m2:=aa g2 h2;refine cu λno=> ?_;have:=yp (gR p) (show dot (sub n x) (sub x c)<=0 by omega);omega
def Fwd.ne{c a x:V}(h:Fwd c a x):x≠c:=λe=>by
 subst e;have:dot (sub x a) (sub a x)= -dot (sub a x) (sub a x):=by unfold dot sub;grind
 have p:=GF h.2;have:=h.2;omega
def Fwd.k{c a x:V}(h:Fwd c a x)(b:Bool)(q:P3):(Kp b (ev (lin c a) q)/\Kp b (ev (lin a x) q))↔Kp b (ev (lin c x) q):=by
 obtain⟨h1,h2⟩:=h;have p:=GF h2;have e1:ev (lin c x) q=ev (lin c a) q+ev (lin a x) q:=by unfold cross sub at h1;unfold ev lin;grind
 have e2:dot (sub a c) (sub a c)*ev (lin a x) q=dot (sub x a) (sub a c)*ev (lin c a) q:=by unfold dot cross sub at*;unfold ev lin;grind
 generalize ev (lin c a) q=A at*;generalize ev (lin a x) q=B at*;generalize dot (sub a c) (sub a c)=m at*;generalize dot (sub x a) (sub a c)=k at*;have s1:0<A->0<B:=λg=>by have:=aa h2 g;refine cu λc=> ?_;have:=yp (gR p) (show B<=0 by omega);omega
 have s2:A<0->B<0:=λg=>by have:=fk h2 g;refine cu λc=> ?_;have:=bm (gR p) (show 0<=B by omega);omega
 have s3:A=0->B=0:=λg=>by rw[g,dU]at e2;rcases cp.1 e2 with e|e<;>omega
 rw[e1];unfold Kp;cases b<;>simp<;>omega
section
variable (keep:V->Bool)
def IG:V->List V->Prop
 |a,x::n::l=>(keep x=false->Fwd a x n)/\a≠x/\IG x (n::l)
 |a,[x] =>keep x=true/\a≠x
 |_,[] =>True
def FZ(b:Bool)(q:P3):∀(l:List V) (c a:V),IG keep a l->(a≠c->∃x m,l=x::m/\Fwd c a x)->(((a≠c->Kp b (ev (lin c a) q))/\∀e∈cN a l,Kp b (ev (lin e.a e.b) q))↔∀e∈cN c (l.filter keep),Kp b (ev (lin e.a e.b) q))
 |[],c,a,_,hf=>by
  have:a=c:=cu λh=>by obtain⟨_,_,e,_⟩:=hf h;cases e
  subst this;simp[cN]
 |x::l,c,a,hs,hf=>by
  have hax:a≠x:=by cases l with
   |nil=>exact hs.2
   |cons n l=>exact hs.2.1
  have two:((a≠c->Kp b (ev (lin c a) q))/\Kp b (ev (lin a x) q))↔Kp b (ev (lin c x) q):=by
   by_cases e:a=c
   .subst e;simp
   .obtain⟨_,_,e2,f⟩:=hf e;cases e2;rw[<-f.k b q];simp[e]
  have hp:cN a (x::l)=⟨a,x⟩::cN x l:=rfl;rw[hp];cases hk:keep x with
  |true=>
   have ih:=FZ b q l x x (by
    cases l with
    |nil=>trivial
    |cons n l=>exact hs.2.2) (λh=>absurd rfl h)
   rw[Ic hk];have hp2:cN c (x::l.filter keep)=⟨c,x⟩::cN x (l.filter keep):=rfl;rw[hp2];simp only[aj,forall_eq_or_imp];rw[<-ih,<-two];simp[and_assoc]
  |false=>
   cases l with
   |nil=>rw[hs.1]at hk;cases hk
   |cons n l=>
    obtain⟨h1,_,h3⟩:=hs;have fx:Fwd c x n:=by
     by_cases e:a=c
     .subst e;exact h1 hk
     .obtain⟨_,_,e2,f⟩:=hf e;cases e2;exact f.trans (h1 hk)
    have hxc:x≠c:=by
     by_cases e:a=c
     .subst e;exact hax.symm
     .obtain⟨_,_,e2,f⟩:=hf e;cases e2;exact f.ne
    have ih:=FZ b q (n::l) c x h3 (λ_=>⟨n,l,rfl,fx⟩);rw[List.filter_cons_of_neg (by simp[hk]),<-ih,<-two];simp only[aj,forall_eq_or_imp];simp[hxc,and_assoc]
end
section
variable {W:List V} {side:V->V->Prop}
def CX.fwd(N:Net W side){r:List V}(c:CX r)(hs:∀e∈cyc r,side e.a e.b){a x n:V}(h1:(⟨a,x⟩:S)∈cyc r)(h2:(⟨x,n⟩:S)∈cyc r)(hk:fS r x=false):Fwd a x n:=by
 have ua:=N.symm (hs _ h1);have ub:=hs _ h2;have hab:a≠n:=λe=>by subst e;exact c.noBack h1 h2
 have h0:turn a x n=0:=cu λg=>by rw[sL.2 ⟨a,n,h1,h2,g⟩]at hk;cases hk
 have hcr:cross (sub x a) (sub n a)=0:=by
  unfold turn sgn at h0;split at h0
  .cases h0
  .omega
 have ap:=N.fanApart ua ub hab;have e1:cross (sub x a) (sub n x)=0:=by rw[<-hcr];unfold cross sub;grind
 have e2:cross (sub a x) (sub n x)= -cross (sub x a) (sub n x):=by unfold cross sub;grind
 have e3:dot (sub a x) (sub n x)= -dot (sub n x) (sub x a):=by unfold dot sub;grind
 refine⟨e1,?_⟩;unfold iI at ap;dsimp only at ap;omega
def Nh{r:List V}(N:Net W side)(c:CX r)(hs:∀e∈cyc r,side e.a e.b):∀(l:List V) (a z:V),(∀e∈cN a (l++[z]),e∈cyc r)->fS r z=true->IG (fS r) a (l++[z])
 |[],a,z,h,hz=>⟨hz,N.ne (hs ⟨a,z⟩ (h _ bo))⟩
 |x::l,a,z,h,hz=>by
  have ih:=Nh N c hs l x z (λe he=>h e (bk _ he)) hz;have m1:=h ⟨a,x⟩ bo;cases l with
  |nil=>exact⟨λhk=>c.fwd N hs m1 (h ⟨x,z⟩ (bk _ bo)) hk,N.ne (hs _ m1),ih⟩
  |cons n l=>exact⟨λhk=>c.fwd N hs m1 (h ⟨x,n⟩ (bk _ bo)) hk,N.ne (hs _ m1),ih⟩
def LK(b:Bool)(r:List V)(q:P3):Prop:=∀e∈cyc r,Kp b (ev (lin e.a e.b) q)
def LK.turn{b:Bool}{k l:List V}{q:P3}:LK b (k++l) q↔LK b (l++k) q:=by unfold LK;simp only[(kG k l).mem_iff]
def CX.corners(N:Net W side){r:List V}(c:CX r)(hs:∀e∈cyc r,side e.a e.b)(b:Bool)(q:P3):LK b (lV r) q↔LK b r q:=by
 obtain⟨u,hu⟩:=Ib _ (c.corner N hs);obtain⟨hur,huc⟩:=fF.1 hu;obtain⟨k,l,rfl⟩:=yu hur;have hb:∀m:List V,LK b (c7 m) q↔LK b m q:=λm=>by unfold c7;rw[LK.turn,List.take_append_drop]
 unfold lV;rw[hb,qQ,LK.turn,<-qQ,LK.turn (k:=k)];have c2:∀e,e∈cyc (u::l++k)->e∈cyc (k++u::l):=λe he=>(kG k (u::l)).mem_iff.1 he;have hst:=Nh N c hs (l++k) u u (λe he=>c2 e he) huc;have:=FZ (fS (k++u::l)) b q ((l++k)++[u]) u u hst (λh=>absurd rfl h);have hf:((l++k)++[u]).filter (fS (k++u::l))=(l++k).filter (fS (k++u::l))++[u] :=by rw[qQ,Ic huc];rfl
 rw[hf]at this;have hg:(u::l++k).filter (fS (k++u::l))=u::(l++k).filter (fS (k++u::l)):=by rw[jn,Ic huc]
 rw[hg];unfold LK;show(∀e∈cN u (_++[u]),_)↔∀e∈cN u ((l++k)++[u]),_;rw[<-this];simp
end
end Geo
end
section
inductive PV where
 |int (k:IntKind) (n:Int)
 |bool (b:Bool)
 |str (s:ByteArray)
 |agg (l:List PV)
 |tup (l:List PV)
 |sl (n:Nat) (cells:List PV)
 |pro (cells:List PV) (off:Nat)
 |fn (f:Fn) (first caps:List PV)
 |junk
deriving Inhabited
abbrev bE:=Nat->Nat->Value->Prop
def gg(vs:List Value):Prop:=∀u∈vs,u.oneCell'=true
mutual
def aU(C:bE):PV->Value->Prop
 | .int k n,v=>v= .int k n
 | .bool b,v=>v= .bool b
 | .str s,v=>v= .string s
 | .agg l,v=>∃vs:List Value,v= .agg vs.toArray/\ae C l vs/\gg vs
 | .tup l,v=>∃vs:List Value,v= .tuple vs.toArray/\ae C l vs
 | .sl n cs,v=>∃a c,v= .slice a n c/\n<=c/\(a=none->c=0/\cs=[])/\∀ad,a=some ad->(0<n->ad.spot=none)/\cL C cs ad.block ad.off
 | .pro cs off,v=>∃b o,v= .pointer (some ⟨b,o+off,none⟩)/\cL C cs b o
 | .fn f l1 l2,v=>∃vs1 vs2:List Value,v= .func f vs1.toArray vs2.toArray/\ae C l1 vs1/\ae C l2 vs2
 | .junk,_=>True
def ae(C:bE):List PV->List Value->Prop
 |[],vs=>vs=[]
 |x::l,vs=>∃v r,vs=v::r/\aU C x v/\ae C l r
def cL(C:bE):List PV->Nat->Nat->Prop
 |[],_,_=>True
 |x::l,b,o=>(∃v,C b o v/\v.oneCell'=true/\aU C x v)/\cL C l b (o+1)
end
section
variable {C C':bE}
mutual
theorem aU.mono(h:∀b o v,C b o v->C' b o v):∀(x:PV) (v:Value),aU C x v->aU C' x v
 | .int ..,v,hx=>by unfold aU at*;exact hx
 | .bool ..,v,hx=>by unfold aU at*;exact hx
 | .str ..,v,hx=>by unfold aU at*;exact hx
 | .agg l,v,hx=>by unfold aU at*;obtain⟨vs,h1,h2,h3⟩:=hx;exact⟨vs,h1,ae.mono h l vs h2,h3⟩
 | .tup l,v,hx=>by unfold aU at*;obtain⟨vs,h1,h2⟩:=hx;exact⟨vs,h1,ae.mono h l vs h2⟩
 | .sl n cs,v,hx=>by
   unfold aU at*;obtain⟨a,c,h1,h2,h3,h4⟩:=hx;exact⟨a,c,h1,h2,h3,λad e=>⟨(h4 ad e).1,cL.mono h cs _ _ (h4 ad e).2⟩⟩
 | .pro cs off,v,hx=>by unfold aU at*;obtain⟨b,o,h1,h2⟩:=hx;exact⟨b,o,h1,cL.mono h cs _ _ h2⟩
 | .fn f l1 l2,v,hx=>by unfold aU at*;obtain⟨a,b,h1,h2,h3⟩:=hx;exact⟨a,b,h1,ae.mono h l1 a h2,ae.mono h l2 b h3⟩
 | .junk,v,hx=>by unfold aU;trivial
theorem ae.mono(h:∀b o v,C b o v->C' b o v):∀(l:List PV) (vs:List Value),ae C l vs->ae C' l vs
 |[],vs,hx=>by unfold ae at*;exact hx
 |x::l,vs,hx=>by unfold ae at*;obtain⟨v,r,h1,h2,h3⟩:=hx;exact⟨v,r,h1,aU.mono h x v h2,ae.mono h l r h3⟩
theorem cL.mono(h:∀b o v,C b o v->C' b o v):∀(l:List PV) (b o:Nat),cL C l b o->cL C' l b o
 |[],b,o,hx=>by unfold cL;trivial
 |x::l,b,o,hx=>by
  unfold cL at*;obtain⟨⟨v,h1,h2,h3⟩,h4⟩:=hx;exact⟨⟨v,h _ _ _ h1,h2,aU.mono h x v h3⟩,cL.mono h l b (o+1) h4⟩
end
def ae.length:∀(l:List PV) (vs:List Value),ae C l vs->vs.length=l.length
 |[],vs,h=>by unfold ae at h;subst h;rfl
 |x::l,vs,h=>by unfold ae at h;obtain⟨v,r,rfl,_,h3⟩:=h;simp[ae.length l r h3]
def ae.get:∀(l:List PV) (vs:List Value),ae C l vs->∀(i:Nat) x,l[i]? =some x->∃v,vs[i]? =some v/\aU C x v
 |[],vs,h,i,x,hi=>by simp at hi
 |y::l,vs,h,0,x,hi=>by unfold ae at h;grind
 |y::l,vs,h,i+1,x,hi=>by
  unfold ae at h;obtain⟨v,r,rfl,h2,h3⟩:=h;exact ae.get l r h3 i x (by grind)
def ae.of:∀(l:List PV) (vs:List Value),vs.length=l.length->(∀(i:Nat) x,l[i]? =some x->∃v,vs[i]? =some v/\aU C x v)->ae C l vs
 |[],vs,hl,h=>by unfold ae;grind
 |y::l,[],hl,h=>by simp at hl
 |y::l,v::r,hl,h=>by
  unfold ae;obtain⟨v',h1,h2⟩:=h 0 y rfl;simp at h1;subst h1;exact⟨v,r,rfl,h2,ae.of l r (by grind) (λi x hi=>h (i+1) x (by grind))⟩
def cL.get:∀(l:List PV) (b o:Nat),cL C l b o->∀(i:Nat) x,l[i]? =some x->∃v,C b (o+i) v/\v.oneCell'=true/\aU C x v
 |[],b,o,h,i,x,hi=>by simp at hi
 |y::l,b,o,h,0,x,hi=>by unfold cL at h;grind
 |y::l,b,o,h,i+1,x,hi=>by
  unfold cL at h;have:=cL.get l b (o+1) h.2 i x (by grind);grind
def cL.of:∀(l:List PV) (b o:Nat),(∀(i:Nat) x,l[i]? =some x->∃v,C b (o+i) v/\v.oneCell'=true/\aU C x v)->cL C l b o
 |[],b,o,h=>by unfold cL;trivial
 |y::l,b,o,h=>by
  unfold cL;refine⟨h 0 y rfl,cL.of l b (o+1) (λi x hi=> ?_)⟩;have:=h (i+1) x (by grind);grind
def cL.drop{l:List PV}{b o:Nat}(h:cL C l b o)(k:Nat):cL C (l.drop k) b (o+k):=
 cL.of _ _ _ λi x hi=>by rw[vo]at hi;have:=cL.get l b o h (k+i) x hi;grind
def cL.take{l:List PV}{b o:Nat}(h:cL C l b o)(k:Nat):cL C (l.take k) b o:=
 cL.of _ _ _ λi x hi=>by
  rw[o5]at hi;split at hi
  .exact cL.get l b o h i x hi
  .cases hi
end
inductive AV where
 |any
 |undef
 |nil
 |p (x:PV)
 |ptr (s off:Nat)
 |own (s o n:Nat)
 |agg (l:List AV)
 |tup (l:List AV)
 |fn (f:Fn) (first caps:List AV)
 |mp (s:Nat)
deriving Inhabited
abbrev Ren:=Nat->Option (Option Nat×Nat)
mutual
def aR(ρ:Ren)(C:bE):AV->Value->Prop
 | .any,_=>True
 | .undef,v=>v=Go.undef
 | .nil,v=>v= .slice none 0 0
 | .p x,v=>aU C x v
 | .ptr s off,v=>∃b c,ρ s=some (some b,c)/\v= .pointer (some ⟨b,off,none⟩)
 | .own s o n,v=>∃q c,ρ s=some (q,c)/\((q=none/\v= .slice none 0 0/\n=0/\o=0)\/∃b o' c',q=some b/\v= .slice (some ⟨b,o',none⟩) n c'/\n<=c'/\(n≠0->o'=o)/\(o=0->o'=0/\c'=c))
 | .agg l,v=>∃vs:List Value,v= .agg vs.toArray/\ag ρ C l vs/\gg vs
 | .tup l,v=>∃vs:List Value,v= .tuple vs.toArray/\ag ρ C l vs
 | .fn f l1 l2,v=>∃vs1 vs2:List Value,v= .func f vs1.toArray vs2.toArray/\ag ρ C l1 vs1/\ag ρ C l2 vs2
 | .mp s,v=>∃c,ρ s=some (none,c)/\v= .map (some c)
def ag(ρ:Ren)(C:bE):List AV->List Value->Prop
 |[],vs=>vs=[]
 |x::l,vs=>∃v r,vs=v::r/\aR ρ C x v/\ag ρ C l r
end
section
variable {C C':bE} {ρ ρ':Ren}
mutual
theorem aR.mono(hr:∀s q,ρ s=some q->ρ' s=some q)(h:∀b o v,C b o v->C' b o v):∀(x:AV) (v:Value),aR ρ C x v->aR ρ' C' x v
 | .any,v,hx=>by unfold aR;trivial
 | .undef,v,hx=>by unfold aR at*;exact hx
 | .nil,v,hx=>by unfold aR at*;exact hx
 | .p x,v,hx=>by unfold aR at*;exact aU.mono h x v hx
 | .ptr ..,v,hx=>by unfold aR at*;grind
 | .own ..,v,hx=>by unfold aR at*;grind
 | .agg l,v,hx=>by unfold aR at*;obtain⟨vs,h1,h2,h3⟩:=hx;exact⟨vs,h1,ag.mono hr h l vs h2,h3⟩
 | .tup l,v,hx=>by unfold aR at*;obtain⟨vs,h1,h2⟩:=hx;exact⟨vs,h1,ag.mono hr h l vs h2⟩
 | .fn f l1 l2,v,hx=>by unfold aR at*;obtain⟨a,b,h1,h2,h3⟩:=hx;exact⟨a,b,h1,ag.mono hr h l1 a h2,ag.mono hr h l2 b h3⟩
 | .mp s,v,hx=>by unfold aR at*;grind
theorem ag.mono(hr:∀s q,ρ s=some q->ρ' s=some q)(h:∀b o v,C b o v->C' b o v):∀(l:List AV) (vs:List Value),ag ρ C l vs->ag ρ' C' l vs
 |[],vs,hx=>by unfold ag at*;exact hx
 |x::l,vs,hx=>by unfold ag at*;obtain⟨v,r,h1,h2,h3⟩:=hx;exact⟨v,r,h1,aR.mono hr h x v h2,ag.mono hr h l r h3⟩
end
def ag.length:∀(l:List AV) (vs:List Value),ag ρ C l vs->vs.length=l.length
 |[],vs,h=>by unfold ag at h;subst h;rfl
 |x::l,vs,h=>by unfold ag at h;obtain⟨v,r,rfl,_,h3⟩:=h;simp[ag.length l r h3]
def ag.get:∀(l:List AV) (vs:List Value),ag ρ C l vs->∀(i:Nat) x,l[i]? =some x->∃v,vs[i]? =some v/\aR ρ C x v
 |[],vs,h,i,x,hi=>by simp at hi
 |y::l,vs,h,0,x,hi=>by unfold ag at h;grind
 |y::l,vs,h,i+1,x,hi=>by
  unfold ag at h;obtain⟨v,r,rfl,h2,h3⟩:=h;exact ag.get l r h3 i x (by grind)
def ag.of:∀(l:List AV) (vs:List Value),vs.length=l.length->(∀(i:Nat) x,l[i]? =some x->∃v,vs[i]? =some v/\aR ρ C x v)->ag ρ C l vs
 |[],vs,hl,h=>by unfold ag;grind
 |y::l,[],hl,h=>by simp at hl
 |y::l,v::r,hl,h=>by
  unfold ag;obtain⟨v',h1,h2⟩:=h 0 y rfl;simp at h1;subst h1;exact⟨v,r,rfl,h2,ag.of l r (by grind) (λi x hi=>h (i+1) x (by grind))⟩
end
structure Ob where
 ty:TypeId
 esz:Nat
 cells:List AV
deriving Inhabited
def bC(C0:bE)(B:Nat)(w:World)(ρ:Ren)(g:Nat->Option Ob):bE:=λb o v=>w.cell? ⟨b,o,none⟩=some v/\(∀s c,ρ s=some (some b,c)->g s=none)/\(B<=b\/C0 b o v)
structure ObRep(ρ:Ren)(C:bE)(w:World)(b c:Nat)(ob:Ob)(arr:Array Value):Prop where
 blk:w.heap[b]? =some (.cells arr ob.ty (0,0))
 box:ob.esz=0->arr.size=ob.cells.length
 row:ob.esz≠0->arr.size=c*ob.esz/\ob.cells.length<=arr.size/\c<=maxLen
 cells:∀(i:Nat) x,ob.cells[i]? =some x->∃v,arr[i]? =some v/\v.oneCell'=true/\aR ρ C x v
def xw(C0:bE)(B:Nat)(ρ:Ren)(C:bE)(w:World)(c:Nat)(o:Ob):Prop:=
 (o.ty=0/\(∀(i:Nat) x,o.cells[i]? =some x->∀v,C0 B i v->aR ρ C x v)/\∀i v,C0 B i v->i<o.cells.length)\/
 (o.ty=1/\B<=c/\∃es clock,w.heap[c]? =some (.map es clock)/\ag ρ C o.cells (es.toList.flatMap λe=>[e.key,e.val]))
def rN(o:Ob)(c:Nat)(o':Ob)(c':Nat):Prop:=(o.ty=1/\o'.ty=1/\c=c')\/(o.ty=0/\o'.ty=0)
def rN.symm{o:Ob}{c:Nat}{o':Ob}{c':Nat}(h:rN o c o' c'):rN o' c' o c:=by
 rcases h with⟨h1,h2,h3⟩|⟨h1,h2⟩
 .exact .inl ⟨h2,h1,h3.symm⟩
 .exact .inr ⟨h2,h1⟩
structure StR(C0:bE)(ρ:Ren)(g:Nat->Option Ob)(w:World)(B:Nat):Prop where
 ob:∀s o,g s=some o->∃q c,ρ s=some (q,c)/\((q=none/\((o.esz≠0/\o.cells=[]/\c=0)\/(o.esz=0/\xw C0 B ρ (bC C0 B w ρ g) w c o)))\/∃b arr,q=some b/\B<=b/\ObRep ρ (bC C0 B w ρ g) w b c o arr)
 inj:∀s s' o o' b c c',g s=some o->g s'=some o'->ρ s=some (some b,c)->ρ s'=some (some b,c')->s=s'
 mpi:∀s s' o o' c c',g s=some o->g s'=some o'->o.esz=0->o'.esz=0->ρ s=some (none,c)->ρ s'=some (none,c')->rN o c o' c'->s=s'
def ObRep.lt{ρ:Ren}{C:bE}{w:World}{b c:Nat}{ob:Ob}{arr:Array Value}(h:ObRep ρ C w b c ob arr):b<w.heap.size:=by
 rcases nU b w.heap.size with hlt|hge
 .exact hlt
 .have:=h.blk;grind
def ObRep.cell{ρ:Ren}{C:bE}{w:World}{b c:Nat}{ob:Ob}{arr:Array Value}(h:ObRep ρ C w b c ob arr)(i:Nat):w.cell? ⟨b,i,none⟩=arr[i]? :=cell_of_row w b i arr ob.ty (0,0) h.blk
def ObRep.frozen{ρ:Ren}{C:bE}{w:World}{b c:Nat}{ob:Ob}{arr:Array Value}(h:ObRep ρ C w b c ob arr)(i:Nat):w.frozen? ⟨b,i,none⟩=false:=by simp[Ie,h.blk]
def StR.at{C0:bE}{ρ:Ren}{g:Nat->Option Ob}{w:World}{B s b c:Nat}{o:Ob}(h:StR C0 ρ g w B)(hg:g s=some o)(hr:ρ s=some (some b,c)):B<=b/\∃arr,ObRep ρ (bC C0 B w ρ g) w b c o arr:=by obtain⟨q,c',h1,h2⟩:=h.ob s o hg;grind
end
section
structure GrD where
 n:Nat
 os:Array Obj
instance:Nonempty GrD:=⟨⟨0, #[]⟩⟩
def grD(w:World)(n:Nat)(os:Array Obj):World:={w with heap:=w.heap++os,drawn:=n}
def LY(w:World)(n:Nat)(os:Array Obj):Below w.heap.size w (grD w n os):=
 ⟨rfl,rfl,rfl,by simp[grD],λk hk=>by simp[grD,Array.getElem?_append_left hk]⟩
def JL{w w':World}(h:Below w.heap.size w w'):∃p:GrD,w'=grD w p.n p.os:=by
 refine⟨⟨w'.drawn,w'.heap.extract w.heap.size w'.heap.size⟩,?_⟩;obtain⟨h1,h2,h3,h4,h5⟩:=h;have hh:w'.heap=w.heap++w'.heap.extract w.heap.size w'.heap.size:=by
  apply Array.ext_getElem?;intro i;by_cases hi:i<w.heap.size
  .grind
  .grind
 unfold grD;cases w';grind
def Calls.qb{P:Program}{f:FuncId}{args:Array Value}{w:World}{n:Nat}{os:Array Obj}{v:Value}
  (h:Calls P f args (grD w n os) λe w'=>e= .returned v/\Below (grD w n os).heap.size (grD w n os) w'):Calls P f args (grD w n os) λe w''=>e= .returned v/\∃p:GrD,w''=grD w p.n p.os:=
 h.mono λ_ _ ⟨he,hb⟩=>⟨he,JL ((LY w n os).trans (hb.mono (LY w n os).size))⟩
def Below.then_{W w1 w2:World}(h1:Below W.heap.size W w1)(h2:Below w1.heap.size w1 w2):Below W.heap.size W w2:=h1.trans (h2.mono h1.size)
def Blk(w:World)(g:Nat)(t:TypeId)(cs:Array Value):Prop:=w.heap[g]? =some (.cells cs t (0,0))
section
variable {w w':World} {g:Nat} {t:TypeId} {cs:Array Value}
def Blk.lt(h:Blk w g t cs):g<w.heap.size:=by
 rcases nU g w.heap.size with hlt|hge
 .exact hlt
 .unfold Blk at h;grind
def Blk.cell(h:Blk w g t cs)(i:Nat):w.cell? ⟨g,i,none⟩=cs[i]? :=cell_of_row w g i cs t (0,0) h
def Blk.frozen(h:Blk w g t cs)(i:Nat):w.frozen? ⟨g,i,none⟩=false:=by unfold Blk at h;simp[Ie,h]
def Blk.new(w:World)(t:TypeId)(cs:Array Value):Blk (w.alloc (.cells cs t)) w.heap.size t cs:=heap_alloc_new w _
def Blk.drew(h:Blk w g t cs):Blk w.drew g t cs:=h
def Blk.alloc(h:Blk w g t cs)(o:Obj):Blk (w.alloc o) g t cs:=(Below.heap_alloc w o g h.lt).trans h
def Blk.ig(h:Blk w g t cs)(i:Nat)(u:Value):Blk (w.setCell ⟨g,i,none⟩ u) g t (cs.setIfInBounds i u):=by unfold Blk at h|-;simp[World.setCell,If,h]
def Blk.far(h:Blk w g t cs){p:Addr}(hp:g≠p.block)(u:Value):Blk (w.setCell p u) g t cs:=(Below.heap_setCell w p u g hp).trans h
def Blk.below{B:Nat}(h:Blk w g t cs)(hb:Below B w w')(hg:g<B):Blk w' g t cs:=(hb.block g hg).trans h
def Blk.then_(h:Blk w g t cs)(hb:Below w.heap.size w w'):Blk w' g t cs:=h.below hb h.lt
end
end
def Ke{P:Program}{ops:Array Oper}{Q:Exit->Act->World->Prop}
  (hac:∀(i:Nat) (o:Oper),ops[i]? =some o->∀e∈o.after.toList,gv .any e=true->e.on<i)
  (Inv:(Nat->Bool)->Act->World->Prop)
  (hstep:∀(i:Nat) (o:Oper) (D:Nat->Bool) (a:Act) (w:World),ops[i]? =some o->Inv D a w->D i=false->(∀e∈o.after.toList,gv .any e=true->D e.on=true)->
    wpOp P ops Q i (λa' w'=>Inv (λj=>if j=i then true else D j) a' w') a w)
  (hend:∀(D:Nat->Bool) (a:Act) (w:World),Inv D a w->(∀i,i<ops.size->D i=true)->Q .normal a w):
  ∀(fuel:Nat) (L:Array Bool) (a:Act) (w:World),L.size=ops.size->L.toList.count false<=fuel->Inv (λj=>L.getD j false) a w->wpAny P .any ops Q fuel L a w:=by
 have key:∀(L:Array Bool),L.size=ops.size->Ck .any ops L=[]->∀i,i<ops.size->L.getD i false=true:=by
  intro L hL hr i;induction i using Nat.strongRecOn with
  |ind i ih=>
   intro hi;rcases Sf (L.getD i false)with h|h
   .exact h
   .have hmem:i∈Ck .any ops L:=by
     unfold Ck;rw[fF];refine⟨cF.2 hi,?_⟩;have h1:L.getD i true=false:=by rw[gG,v6 (by omega)]at h|-;exact h
     obtain⟨o,ho⟩:∃o,ops[i]? =some o:=⟨_,v6 hi⟩;rw[h1,ho];simp only[Bool.not_false,Bool.true_and,eE,ku];rw[Array.all_eq_true'];intro e he;rcases Sf (gv .any e)with hb|hb
     .grind
     .rw[hb];rfl
    grind
 intro fuel;induction fuel with
 |zero=>
  intro L a w hL hc hI;have hall:∀i,i<ops.size->L.getD i false=true:=by
   intro i hi;rcases Sf (L.getD i false)with h|h
   .exact h
   .exfalso;have h0:L.toList.count false=0:=by omega
    rw[List.count_eq_zero]at h0;rw[gG,v6 (by omega)]at h;grind
  refine⟨?_,by grind⟩;unfold Ck;simp_all
 |succ fuel ih=>
  intro L a w hL hc hI;refine⟨by grind,?_⟩;intro i hi;unfold Ck at hi;rw[fF]at hi;obtain⟨hi1,hi2⟩:=hi;have hlt:=cF.1 hi1;obtain⟨o,ho⟩:∃o,ops[i]? =some o:=by grind
  rw[ho]at hi2;simp only[eE,ku,bn,Cc]at hi2;obtain⟨hf,hall⟩:=hi2;have hLi:L[i]? =some false:=by rw[gG,v6 (by omega)]at hf;rw[v6 (by omega)];simpa using hf
  have hD:L.getD i false=false:=by rw[gG,hLi];rfl
  have hpre:∀e∈o.after.toList,gv .any e=true->L.getD e.on false=true:=by intro e he hb;rw[Array.all_eq_true']at hall;have:=hall e (Array.mem_toList_iff.1 he);rw[hb]at this;simpa using this
  refine wpOp_mono ?_ (hstep i o _ a w ho hI hD hpre);intro a' w' hI';refine ih (L.setIfInBounds i true) a' w' (by grind) ?_ ?_
  .grind
  .have e:(λj=>(L.setIfInBounds i true).getD j false)=(λj=>if j=i then true else L.getD j false):=by
    funext j
    rw[gG,gG,v7];by_cases h:i=j
    .grind
    .grind
   grind
def TF{P:Program}{id:Nat}{ops:Array Oper}{Q:Exit->Act->World->Prop}{a0:Act}{w0:World}(hm:P.follows .mixedOrders=true)
  (hac:∀(i:Nat) (o:Oper),ops[i]? =some o->∀e∈o.after.toList,gv .any e=true->e.on<i)
  (Inv:(Nat->Bool)->Act->World->Prop) (h0:Inv (λ_=>false) a0 w0.drew)
  (hstep:∀(i:Nat) (o:Oper) (D:Nat->Bool) (a:Act) (w:World),ops[i]? =some o->Inv D a w->D i=false->(∀e∈o.after.toList,gv .any e=true->D e.on=true)->
    wpOp P ops Q i (λa' w'=>Inv (λj=>if j=i then true else D j) a' w') a w)
  (hend:∀(D:Nat->Bool) (a:Act) (w:World),Inv D a w->(∀i,i<ops.size->D i=true)->Q .normal a w):
  (yx id ops true).wp P Q a0 w0:=by
 refine wp_region_any hm (Ke hac Inv hstep hend _ _ _ _ (by simp) ?_ ?_)
 .simp
 .have e:(λj=>(Array.replicate ops.size false).getD j false)=(λ_=>false):=by
   funext j
   rw[gG,Array.getElem?_replicate];split<;>rfl
  simp_all
def bH(V:Nat->Value):Operand->Value
 | .tmp t=>V t
 | .const v=>v
 | .global g=> .pointer (some ⟨g,0,none⟩)
 | .func f=> .func (.func f) #[] #[]
def cJ(P:Program)(o:Oper)(V:Nat->Value)(w:World)(K:Value->World->Prop):Prop:=
 match(execOp (bH V) o).run P w with
 | .ok (.value v) w'=>K v w'
 | .ok .skip w'=>K undef w'
 | .ok (.enter f args) w'=>Calls P f args w' λe w''=>∃v,e= .returned v/\K v w''
 |_=>False
def iH(a0:Act)(dsts:List Nat)(V:Nat->Value):Act:=dsts.foldl (λa s=>a.put (some s) (V s)) a0
def zK(V:Nat->Value):∀(dsts:List Nat) (a0:Act),(∀s∈dsts,s<a0.tmps.size)->
  (iH a0 dsts V).defers=a0.defers/\(iH a0 dsts V).tmps.size=a0.tmps.size/\∀s,s<a0.tmps.size->(iH a0 dsts V).tmps.getD s undef=if s∈dsts then V s else a0.tmps.getD s undef
 |[],a0,_=>⟨rfl,rfl,λs _=>by simp[iH]⟩
 |d::dsts,a0,h=>by
  have hs:(a0.put (some d) (V d)).tmps.size=a0.tmps.size:=by simp[mZ]
  obtain⟨h1,h2,h3⟩:=zK V dsts (a0.put (some d) (V d)) (by grind);refine⟨h1,h2.trans hs,?_⟩;intro s hlt;have:=h3 s (by omega);show(iH (a0.put (some d) (V d)) dsts V).tmps.getD s undef=_;rw[this];by_cases hm:s∈dsts
  .grind
  .by_cases e:s=d
   .subst e;simp[mZ,hlt]
   .simp only[mZ,gG,v7];grind
def Act.eval_evalV(a:Act):a.eval=bH (λs=>a.tmps.getD s undef):=by
 funext x
 cases x<;>rfl
def gdV(ops:Array Oper)(V:Nat->Value)(j:Nat):Option Bool:=
 match(ops[j]?).bind (·.dst)with
 |some d=>(match V d with| .bool b=>some b|_=>none)
 |none=>none
def DL(ops:Array Oper)(t:Array Value):yielded ops t=gdV ops (λs=>t.getD s undef):=by
 funext j
 unfold yielded gdV;cases h:(ops[j]?).bind (·.dst)with
 |none=>rfl
 |some d=>
  simp only[qS,gG];cases ht:t[d]? with
  |none=>rfl
  |some v=>grind
def Tn{P:Program}{id:Nat}{ops:Array Oper}{Q:Exit->Act->World->Prop}{a0:Act}{w0:World}(hm:P.follows .mixedOrders=true)
  (dsts:List Nat)
  (hok:((bV ops.size).all λi=>((ops[i]?).map λo=>(o.after.toList.all λe=> !gv .any e||decide (e.on<i))&&(match o.dst with|some d=>dsts.contains d|none=>true)).getD true)=true)
  (hds:∀s∈dsts,s<a0.tmps.size)
  (F:(Nat->Bool)->(Nat->Value)->World->Prop) (h0:F (λ_=>false) (λs=>a0.tmps.getD s undef) w0.drew)
  (hstep:∀(i:Nat) (o:Oper) (D:Nat->Bool) (V:Nat->Value) (w:World),ops[i]? =some o->F D V w->D i=false->(∀e∈o.after.toList,gv .any e=true->D e.on=true)->
    (∀s,s∉dsts->V s=a0.tmps.getD s undef)->
    if iS o (gdV ops V)=true then
     cJ P o V w (λv w'=>F (λj=>if j=i then true else D j) (match o.dst with|some d=>λs=>if s=d then v else V s|none=>V) w')
    else F (λj=>if j=i then true else D j) (match o.dst with|some d=>λs=>if s=d then undef else V s|none=>V) w)
  (hend:∀(D:Nat->Bool) (V:Nat->Value) (w:World),F D V w->(∀i,i<ops.size->D i=true)->Q .normal (iH a0 dsts V) w):
  (yx id ops true).wp P Q a0 w0:=by
 have hops:∀(i:Nat) (o:Oper),ops[i]? =some o->(∀e∈o.after.toList,gv .any e=true->e.on<i)/\(∀d,o.dst=some d->d∈dsts):=by
  intro i o ho;have hi:i<ops.size:=by grind
  rw[bf]at hok;have:=hok i (cF.2 hi);rw[ho]at this;simp only[eE,ku,bn]at this;obtain⟨g2,g3⟩:=this;refine⟨?_,?_⟩
  .grind
  .grind
 refine TF hm (by grind) (λD a w=>a.defers=a0.defers/\a.tmps.size=a0.tmps.size/\(∀s,s∉dsts->a.tmps.getD s undef=a0.tmps.getD s undef)/\F D (λs=>a.tmps.getD s undef) w) (by grind) ?_ ?_
 .intro i o D a w ho ⟨i1,i2,i3,i4⟩ hD hpre;obtain⟨_,hdst⟩:=hops i o ho;have hrun:=hstep i o D (λs=>a.tmps.getD s undef) w ho i4 hD hpre i3;have hput:∀(v:Value) (w':World),F (λj=>if j=i then true else D j) (match o.dst with|some d=>λs=>if s=d then v else a.tmps.getD s undef|none=>λs=>a.tmps.getD s undef) w'->
    (a.put o.dst v).defers=a0.defers/\(a.put o.dst v).tmps.size=a0.tmps.size/\(∀s,s∉dsts->(a.put o.dst v).tmps.getD s undef=a0.tmps.getD s undef)/\F (λj=>if j=i then true else D j) (λs=>(a.put o.dst v).tmps.getD s undef) w':=by
   intro v w' hF;cases hd:o.dst with
   |none=>rw[hd]at hF;exact⟨i1,i2,i3,hF⟩
   |some d=>
    have hdm:=hdst d hd;have hget:∀s,(a.put (some d) v).tmps.getD s undef=if s=d then v else a.tmps.getD s undef:=by
     intro s;simp only[mZ,gG,v7];by_cases e:d=s
     .grind
     .grind
    refine⟨i1,by simpa[mZ]using i2,?_,?_⟩
    .intro s hs;rw[hget,if_neg (by grind)];exact i3 s hs
    .have e:(λs=>(a.put (some d) v).tmps.getD s undef)=(λs=>if s=d then v else a.tmps.getD s undef):=funext hget;grind
  unfold wpOp;rw[ho];simp only[];rw[DL];by_cases hw:iS o (gdV ops λs=>a.tmps.getD s undef)=true
  .rw[if_pos hw]at hrun|-;refine .inl ?_;unfold Oper.wp;rw[Act.eval_evalV];unfold cJ at hrun;cases hr:(execOp (bH λs=>a.tmps.getD s undef) o).run P w with
   |halt x w'=>grind
   |ok n w'=>
    rw[hr]at hrun;cases n<;>simp only[]at hrun<;>first|exact hrun.elim|skip
    .exact hput _ _ hrun
    .exact hput _ _ hrun
    .rename_i f args;refine hrun.mono ?_;rintro e w'' ⟨v,rfl,hK⟩;exact hput _ _ hK
  .rw[if_neg hw]at hrun|-;exact hput _ _ hrun
 .intro D a w ⟨i1,i2,i3,i4⟩ hall;obtain⟨p1,p2,p3⟩:=zK (λs=>a.tmps.getD s undef) dsts a0 hds;have e:iH a0 dsts (λs=>a.tmps.getD s undef)=a:=by
   obtain⟨t,df⟩:=a;have ht:(iH a0 dsts (λs=>t.getD s undef)).tmps=t:=by
    apply Array.ext
    .rw[p2];exact i2.symm
    .intro s h1 h2;have h3:=p3 s (by grind);rw[gG,v6 h1,ku]at h3;rw[h3];by_cases hm:s∈dsts
     .rw[if_pos hm];simp[gG,h2]
     .rw[if_neg hm,<-i3 s hm];simp[gG,h2]
   have hdf:(iH a0 dsts (λs=>t.getD s undef)).defers=df:=p1.trans i1.symm;show iH a0 dsts (λs=>t.getD s undef)={tmps:=t,defers:=df};cases hp:iH a0 dsts (λs=>t.getD s undef)with
   |mk t' df'=>
    grind
  grind
def ai(g:Nat->Option Ob)(W:List (Nat×Option Ob)):Nat->Option Ob:=λs=>match W.lookup s with|some x=>x|none=>g s
def kO:Value->AV
 | .int k n=> .p (.int k n)
 | .bool b=> .p (.bool b)
 | .string s=> .p (.str s)
 | .slice none 0 0=> .nil
 |_=> .any
def KZ{ρ:Ren}{C:bE}(v:Value):aR ρ C (kO v) v:=by unfold kO;split<;>(unfold aR;try unfold aU)<;>first|rfl|trivial
def tz{ρ:Ren}{C:bE}:∀(vs:List Value),ag ρ C (vs.map kO) vs
 |[] =>by rfl
 |v::vs=>by exact⟨v,vs,rfl,KZ v,tz vs⟩
def bK:List AV->Option (List PV)
 |[] =>some []
 | .p x::l=>(bK l).map (x:: ·)
 |_::_=>none
def eJ(l:List AV):AV:=match bK l with|some q=> .p (.agg q)|none=> .agg l
def qp{ρ:Ren}{C:bE}:∀{l:List AV} {q:List PV} {vs:List Value},bK l=some q->ag ρ C l vs->ae C q vs
 |[],q,vs,h,hr=>by simp[bK]at h;subst h;exact hr
 |x::l,q,vs,h,hr=>by
  unfold bK at h;split at h
  .grind
  .rename_i y l' e;cases e;simp only[ll]at h;obtain⟨r,h1,rfl⟩:=h;obtain⟨v,vs',rfl,h2,h3⟩:=hr;exact⟨v,vs',rfl,h2,qp h1 h3⟩
  .cases h
def z6{ρ:Ren}{C:bE}{l:List AV}{vs:List Value}(h:ag ρ C l vs)(h1:gg vs):aR ρ C (eJ l) (.agg vs.toArray):=by
 unfold eJ;split
 .rename_i q hq;exact⟨vs,rfl,qp hq h,h1⟩
 .unfold aR;grind
def ae.toA{ρ:Ren}{C:bE}:∀{l:List PV} {vs:List Value},ae C l vs->ag ρ C (l.map .p) vs
 |[],vs,h=>by exact h
 |x::l,vs,h=>by
  obtain⟨v,r,rfl,h2,h3⟩:=h;exact⟨v,r,rfl,by exact h2,ae.toA h3⟩
def sQ:Value->AV
 | .agg cs=>if cs.toList.all (·.oneCell')=true then eJ (cs.toList.map kO)else .any
 | .tuple vs=>if vs.toList=[]then .undef else .any
 |v=>kO v
def T7{ρ:Ren}{C:bE}(v:Value):aR ρ C (sQ v) v:=by
 unfold sQ;split
 .split
  .rename_i cs h;have:=z6 (tz (ρ:=ρ) (C:=C) cs.toList) (λu hu=>by grind);omega
  .trivial
 .split
  .unfold aR Go.undef;simp_all
  .trivial
 .exact KZ v
def j5(F:List AV):Operand->AV
 | .tmp t=>F.getD t .any
 | .const v=>sQ v
 | .func f=> .p (.fn (.func f) [] [])
 | .global _=> .any
def aZ(P:Program)(t:TypeId):Nat:=((P.info? t).map (·.size)).getD 0
def iQ(P:Program)(t:TypeId):Bool:=match P.underlying t with|some (.struct _)|some (.array _ _)=>true|_=>false
def tok(P:Program)(t:TypeId):Bool:=(P.info? t).isSome&&(P.underlying t).isSome
def pp(P:Program)(t:TypeId):Option (List AV):=(P.info? t).bind λi=>i.zero.map λz=>z.cells.toList.map kO
def po(P:Program)(t:TypeId):Bool:=((P.info? t).bind λi=>i.zero.map λz=>z.cells.toList.all (·.oneCell')&&z.cells.size==i.size).getD false
def dC(P:Program)(t:TypeId):Option TypeId:=match P.underlying t with|some (.slice e)=>some e|_=>none
def rI(P:Program)(t:TypeId):Option (Nat×TypeId):=match P.underlying t with|some (.array n e)=>some (n,e)|_=>none
def Hn(P:Program)(t:TypeId):Option IntKind:=match P.underlying t with|some (.int k)=>some k|_=>none
def tL(P:Program)(t:TypeId)(f:Nat):Option (Nat×TypeId):=match P.underlying t with
 |some (.struct fs)=>(fs[f]?).bind λx=>if aZ P x.type=0 then none else some (x.offset,x.type)
 |_=>none
def yg:Nat->Nat->Nat
 |0,_=>0
 |f+1,s=>if s % 2=0 then yg f (s/2)+1 else 0
def cls(s:Nat):Nat:=yg s s
def sit(n i:Nat):Nat:=2^n*(2*i+1)
def NG(i:Nat):∀(n f:Nat),n<f->yg f (sit n i)=n
 |0,f+1,_=>by unfold yg sit;grind
 |n+1,f+1,h=>by
  have e:sit (n+1) i=2*sit n i:=by unfold sit;rw[Nat.pow_succ,Nat.mul_comm (2^n) 2,Nat.mul_assoc]
  unfold yg;rw[e,if_pos (by omega),Nat.mul_div_cancel_left _ (by decide),NG i n f (by omega)]
def iE(n i:Nat):cls (sit n i)=n:=NG i n _ (by unfold sit;have h1:n<2^n:=Nat.lt_two_pow_self;grind)
abbrev Res:=AV->List Nat->List (Nat×Option Ob)->Prop
def bT(P:Program)(o:Oper)(E:Operand->AV)(σ:Nat->Option Ob)(n:Nat)(r:AV)(R:List Nat)(W:List (Nat×Option Ob)):Prop:=
 ∀(C0:bE) (ρ:Ren) (g:Nat->Option Ob) (V:Nat->Value) (w:World) (B:Nat),StR C0 ρ g w B->B<=w.heap.size->(∀s∈R,g s=σ s)->(∀s,cls s=n->ρ s=none)->(∀s,cls s=n->g s=none)->
  (∀x∈o.op.operands.toList,aR ρ (bC C0 B w ρ g) (E x) (bH V x))->
  cJ P o V w λv w'=>∃ρ':Ren,(∀s,cls s≠n->ρ' s=ρ s)/\(∀b o' x,bC C0 B w ρ g b o' x->bC C0 B w' ρ' (ai g W) b o' x)/\
   StR C0 ρ' (ai g W) w' B/\aR ρ' (bC C0 B w' ρ' (ai g W)) r v/\Below B w w'
def bT.pure{P:Program}{o:Oper}{E:Operand->AV}{σ:Nat->Option Ob}{n:Nat}{r:AV}{R:List Nat}
  (h:∀(C0:bE) (ρ:Ren) (g:Nat->Option Ob) (V:Nat->Value) (w:World) (B:Nat),StR C0 ρ g w B->(∀s∈R,g s=σ s)->(∀x∈o.op.operands.toList,aR ρ (bC C0 B w ρ g) (E x) (bH V x))->
    cJ P o V w λv w'=>w'=w/\aR ρ (bC C0 B w ρ g) r v):bT P o E σ n r R [] :=by
 intro C0 ρ g V w B hs hB hR hn hg hE;have:=h C0 ρ g V w B hs hR hE;have hmono':∀(K K':Value->World->Prop),(∀v w,K v w->K' v w)->cJ P o V w K->cJ P o V w K':=by
  intro K K' hk h;unfold cJ at h|-;split at h
  .grind
  .grind
  .exact h.mono (by grind)
  .exact h.elim
 refine hmono' _ _ ?_ this;rintro v w' ⟨rfl,hr⟩;exact⟨ρ,λ_ _=>rfl,λ_ _ _ h=>h,hs,hr,Below.refl _ _⟩
def Hb(P:Program)(t:TypeId)(cs:List PV)(off:Nat)(K:PV->Prop):Prop:=
 tok P t=true/\if iQ P t=true then∃l,(cs.drop off).take (aZ P t)=l/\l.length=aZ P t/\K (.agg l)else∃x,cs[off]? =some x/\K x
def rB(P:Program)(t:TypeId)(cs:List AV)(off:Nat)(K:AV->Prop):Prop:=
 tok P t=true/\if iQ P t=true then∃l,(cs.drop off).take (aZ P t)=l/\l.length=aZ P t/\K (eJ l)else∃x,cs[off]? =some x/\K x
def I9{P:Program}(w:World)(b o:Nat)(t:TypeId)(ht:tok P t=true)(vs:List Value)(v:Value)
  (h:if iQ P t=true then vs.length=aZ P t/\w.rangeAt b o vs/\v= .agg vs.toArray else w.cell? ⟨b,o,none⟩=some v):
  (Cm t (.pointer (some ⟨b,o,none⟩))).run P w= .ok v w:=by
 unfold tok at ht;simp only[bn,pB]at ht;obtain⟨⟨i,hi⟩,d,hd⟩:=ht;cases hg:iQ P t with
 |true=>
  rw[hg,if_pos rfl]at h;obtain⟨h1,h2,rfl⟩:=h;refine run_loadAt_mid w b o t vs d h2 hd ?_ ?_
  .unfold iQ at hg;grind
  .rw[h1];unfold aZ;rw[hi];rfl
 |false=>
  rw[hg]at h;simp only[lc,if_false]at h;have:(isAgg t).run P w= .ok false w:=by unfold isAgg;rw[cg,run_underlying hd w];unfold iQ at hg;rw[hd]at hg;cases d<;>simp_all
  simp[Cm,Cn,loadVar,this,h,load,Sem.run]
def WO{P:Program}{o:Oper}{E:Operand->AV}{σ:Nat->Option Ob}{n:Nat}{t:TypeId}{x:Operand}(ho:o.op= .load t x){cs:List PV}{off:Nat}(hx:E x= .p (.pro cs off)){K:PV->Prop}
  (h:Hb P t cs off K):∃r,bT P o E σ n (.p r) [] []/\K r:=by
 obtain⟨ht,h⟩:=h;have key:∀(r:PV),(∀(C:bE) (w:World) (b oo:Nat),(∀b o v,C b o v->w.cell? ⟨b,o,none⟩=some v)->cL C cs b oo->∃v vs,(if iQ P t=true then vs.length=aZ P t/\w.rangeAt b (oo+off) vs/\v= .agg vs.toArray else w.cell? ⟨b,oo+off,none⟩=some v)/\aU C r v)->
   bT P o E σ n (.p r) [] [] :=by
  intro r hr;refine bT.pure ?_;intro C0 ρ g V w B hs _ hE;have h1:=hE x (by rw[ho];simp[cX]);rw[hx]at h1;unfold aR aU at h1;obtain⟨b,oo,he,hc⟩:=h1;obtain⟨v,vs,h2,h3⟩:=hr _ w b oo (λb o v hh=>hh.1) hc;have:=I9 (P:=P) w b (oo+off) t ht vs v h2;unfold cJ execOp;simp only[ho,he,cg,this,cl,dc];exact⟨trivial,by exact h3⟩
 split at h
 .rename_i hg;obtain⟨l,hl,hlen,hK⟩:=h;refine⟨_,key _ ?_,hK⟩;intro C w b oo hC hc;have hc2:=(hc.drop off).take (aZ P t);rw[hl]at hc2;have:∀m,∀l':List PV,l'.length=m->∀o',cL C l' b o'->∃vs:List Value,vs.length=m/\w.rangeAt b o' vs/\ae C l' vs/\gg vs:=by
   intro m;induction m with
   |zero=>intro l' h0 o' _;refine⟨[],rfl,(λj v hj=>by simp at hj),?_⟩;rw[mc.1 h0];exact⟨by rfl,λu hu=>by cases hu⟩
   |succ m ih=>
    intro l' h1 o' h2;cases l' with
    |nil=>simp at h1
    |cons y l'=>
     obtain⟨⟨v,h3,h6,h4⟩,h5⟩:=h2;obtain⟨vs,g1,g2,g3,g4⟩:=ih l' (by grind) (o'+1) h5;refine⟨v::vs,by simp[g1],?_,?_,λu hu=>by rcases aj.1 hu with rfl|hu;exact h6;exact g4 u hu⟩
     .intro j u hj;cases j with
      |zero=>grind
      |succ j=>have:=g2 j u (by grind);grind
     .unfold ae;grind
  obtain⟨vs,g1,g2,g3,g4⟩:=this _ l rfl _ hc2;refine⟨_,vs,?_,by exact⟨vs,rfl,g3,g4⟩⟩;grind
 .obtain⟨y,hy,hK⟩:=h;refine⟨y,key _ ?_,hK⟩;intro C w b oo hC hc;obtain⟨v,h1,_,h2⟩:=cL.get cs b oo hc off y hy;refine⟨v,[],?_,h2⟩;grind
def LF{P:Program}{t:TypeId}{ob:Ob}{off:Nat}{K:AV->Prop}(h:rB P t ob.cells off K):∃r,K r/\∀(ρ:Ren) (C:bE) (w:World) (b c:Nat) (arr:Array Value),ObRep ρ C w b c ob arr->
  ∃v,(Cm t (.pointer (some ⟨b,off,none⟩))).run P w= .ok v w/\aR ρ C r v:=by
 obtain⟨ht,h⟩:=h;have key:∀(r:AV),(∀(ρ:Ren) (C:bE) (w:World) (b c:Nat) (arr:Array Value),ObRep ρ C w b c ob arr->∃v vs,(if iQ P t=true then vs.length=aZ P t/\w.rangeAt b off vs/\v= .agg vs.toArray else w.cell? ⟨b,off,none⟩=some v)/\aR ρ C r v)->
   ∀(ρ:Ren) (C:bE) (w:World) (b c:Nat) (arr:Array Value),ObRep ρ C w b c ob arr->∃v,(Cm t (.pointer (some ⟨b,off,none⟩))).run P w= .ok v w/\aR ρ C r v:=by
  intro r hr ρ C w b c arr h3;obtain⟨v,vs,h4,h5⟩:=hr _ _ w b c arr h3;exact⟨v,I9 (P:=P) w b off t ht vs v h4,h5⟩
 split at h
 .rename_i hg;obtain⟨l,hl,hlen,hK⟩:=h;refine⟨_,hK,key _ ?_⟩;intro ρ C w b c arr hc;have:∀m,∀l':List AV,l'.length=m->∀o',(∀(i:Nat) x,l'[i]? =some x->∃v,arr[o'+i]? =some v/\v.oneCell'=true/\aR ρ C x v)->∃vs:List Value,vs.length=m/\w.rangeAt b o' vs/\ag ρ C l' vs/\gg vs:=by
   intro m;induction m with
   |zero=>intro l' h0 o' _;refine⟨[],rfl,(λj v hj=>by simp at hj),?_⟩;rw[mc.1 h0];exact⟨by rfl,λu hu=>by cases hu⟩
   |succ m ih=>
    intro l' h1 o' h2;cases l' with
    |nil=>simp at h1
    |cons y l'=>
     obtain⟨v,h3,h6,h4⟩:=h2 0 y rfl;obtain⟨vs,g1,g2,g3,g4⟩:=ih l' (by grind) (o'+1) (λi x hi=>by have:=h2 (i+1) x (by grind);grind)
     refine⟨v::vs,by simp[g1],?_,?_,λu hu=>by rcases aj.1 hu with rfl|hu;exact h6;exact g4 u hu⟩
     .intro j u hj;cases j with
      |zero=>simp at hj;subst hj;rw[hc.cell];exact h3
      |succ j=>have:=g2 j u (by grind);grind
     .unfold ag;grind
  obtain⟨vs,g1,g2,g3,g4⟩:=this _ l rfl off (λi x hi=>hc.cells _ x (by grind))
  refine⟨_,vs,?_,z6 g3 g4⟩;grind
 .rename_i hg;obtain⟨y,hy,hK⟩:=h;refine⟨y,hK,key _ ?_⟩;intro ρ C w b c arr hc;obtain⟨v,h1,_,h2⟩:=hc.cells off y hy;refine⟨v,[],?_,h2⟩;rw[if_neg hg,hc.cell];exact h1
def WP{P:Program}{o:Oper}{E:Operand->AV}{σ:Nat->Option Ob}{n:Nat}{t:TypeId}{x:Operand}(ho:o.op= .load t x){s off:Nat}(hx:E x= .ptr s off){ob:Ob}(hob:σ s=some ob){K:AV->Prop}
  (h:rB P t ob.cells off K):∃r,bT P o E σ n r [s] []/\K r:=by
 obtain⟨r,hK,hr⟩:=LF h;refine⟨r,bT.pure ?_,hK⟩;intro C0 ρ g V w B hs hR hE;have h1:=hE x (by rw[ho];simp[cX]);rw[hx]at h1;obtain⟨b,c,he,hv⟩:=h1;obtain⟨_,arr,h3⟩:=hs.at ((hR s (by simp)).trans hob) he;obtain⟨v,h4,h5⟩:=hr _ _ w b c arr h3;unfold cJ execOp;simp_all
section
section
variable {P:Program} {o:Oper} {E:Operand->AV} {σ:Nat->Option Ob} {n:Nat}
def bT.val{r:AV}(h:∀(ρ:Ren) (C:bE) (V:Nat->Value) (w:World),(∀x∈o.op.operands.toList,aR ρ C (E x) (bH V x))->
  ∃v,(execOp (bH V) o).run P w= .ok (.value v) w/\aR ρ C r v):bT P o E σ n r [] [] :=by
 refine bT.pure ?_;intro C0 ρ g V w B _ _ hE;obtain⟨v,h1,h2⟩:=h ρ _ V w hE;unfold cJ;grind
def Mi{x:Operand}(ho:o.op= .move x\/o.op= .assign x):bT P o E σ n (E x) [] [] :=by refine bT.val ?_;intro ρ C V w hE;have h1:=hE x (by rcases ho with ho|ho<;>rw[ho] <;>simp[cX]);refine⟨bH V x,?_,h1⟩;rcases ho with ho|ho<;>(unfold execOp;rw[ho];rfl)
def We{x:Operand}(ho:o.op= .move x\/o.op= .assign x)(hx:E x= .nil):bT P o E σ n (.p (.sl 0 [])) [] [] :=by
 refine bT.val ?_;intro ρ C V w hE;have h1:=hE x (by rcases ho with ho|ho<;>rw[ho] <;>simp[cX]);rw[hx]at h1;refine⟨bH V x,?_,?_⟩
 .rcases ho with ho|ho<;>(unfold execOp;rw[ho];rfl)
 .rw[h1];unfold aR aU;grind
def vB(c a b:AV)(K:AV->Prop):Prop:=match c with
 | .p (.bool t)=>K (if t=true then a else b)
 |_=>False
def Xu{c a b:Operand}(ho:o.op= .pick c a b){K:AV->Prop}(h:vB (E c) (E a) (E b) K):∃r,bT P o E σ n r [] []/\K r:=by
 unfold vB at h;have key:∀t:Bool,E c= .p (.bool t)->bT P o E σ n (if t=true then E a else E b) [] [] :=by
  intro t ht;refine bT.val ?_;intro ρ C V w hE;have h1:=hE c (by rw[ho];simp[cX]);have h2:=hE a (by rw[ho];simp[cX]);have h3:=hE b (by rw[ho];simp[cX]);rw[ht]at h1;unfold aR aU at h1;refine⟨if t then bH V a else bH V b,?_,?_⟩
  .unfold execOp;rw[ho];simp[h1,asBool]
  .grind
 grind
def CL(x:AV):Bool:=match x with
 | .ptr .. =>true
 | .p (.pro ..)=>true
 | .fn (.func _) .. =>true
 | .p (.fn (.func _) ..)=>true
 |_=>false
def ZV{x:Operand}(ho:o.op= .nilCheck x)(h:CL (E x)=true):bT P o E σ n (E x) [] [] :=by
 refine bT.val ?_;intro ρ C V w hE;have h1:=hE x (by rw[ho];simp[cX]);refine⟨bH V x,?_,h1⟩;unfold execOp;rw[ho];unfold CL at h;split at h
 .rename_i e;rw[e]at h1;obtain⟨b,c,_,h1⟩:=h1;simp[h1]
 .rename_i e;rw[e]at h1;obtain⟨b,c,h1,_⟩:=h1;simp[h1]
 .rename_i e;rw[e]at h1;obtain⟨b,c,h1,_⟩:=h1;simp[h1]
 .rename_i e;rw[e]at h1;obtain⟨b,c,h1,_⟩:=h1;simp[h1]
 .cases h
def kn(l:List Int):List PV:=l.map (.int .i64)
def yM(P:Program)(t:TypeId)(m:Nat):Prop:=∀(xs ys:List Int) (x y:Operand) (w:World),xs.length=m->ys.length=m->
 (do eqGuard .eql t x y (.agg (xs.map (cY .i64)).toArray) (.agg (ys.map (cY .i64)).toArray);binOp .eql t (.agg (xs.map (cY .i64)).toArray) (.agg (ys.map (cY .i64)).toArray):Sem Value).run P w= .ok (.bool (xs==ys)) w/\
 (do eqGuard .neq t x y (.agg (xs.map (cY .i64)).toArray) (.agg (ys.map (cY .i64)).toArray);binOp .neq t (.agg (xs.map (cY .i64)).toArray) (.agg (ys.map (cY .i64)).toArray):Sem Value).run P w= .ok (.bool (xs !=ys)) w
def G4(P:Program)(t:TypeId):Bool:=match P.underlying t with|some .bool=>true|_=>false
def oL:List PV->Option (List Int)
 |[] =>some []
 | .int .i64 k::l=>(oL l).map (k:: ·)
 |_=>none
def Dk{C:bE}:∀{l:List PV} {xs:List Int} {vs:List Value},oL l=some xs->ae C l vs->vs=xs.map (cY .i64)
 |[],xs,vs,h,hr=>by simp[oL]at h;subst h;subst hr;rfl
 |x::l,xs,vs,h,hr=>by
  unfold oL at h;split at h
  .grind
  .rename_i k l' e;cases e;simp only[ll]at h;obtain⟨r,h1,rfl⟩:=h;obtain⟨v,vs',rfl,h2,h3⟩:=hr;rw[h2,Dk h1 h3];rfl
  .cases h
def JA{t:TypeId}(hu:P.underlying t=some .bool)(a b:Bool)(w:World):(Op.equal t (.bool a) (.bool b)).run P w= .ok (a==b) w:=by unfold Op.equal;rw[show Op.maxDepth=9999+1 from rfl];unfold tZ;simp[run_underlying hu]
def u5(op:BinOp)(k:IntKind)(a b:Int)(K:AV->Prop):Prop:=match op with
 | .add=>K (.p (.int k (k.wrap (a+b))))
 | .sub=>K (.p (.int k (k.wrap (a-b))))
 | .mul=>K (.p (.int k (k.wrap (a*b))))
 | .quo=>b≠0/\K (.p (.int k (k.wrap (a.tdiv b))))
 | .rem=>b≠0/\K (.p (.int k (a.tmod b)))
 | .eql=>K (.p (.bool (a==b)))
 | .neq=>K (.p (.bool (a !=b)))
 | .lss=>K (.p (.bool (decide (a<b))))
 | .leq=>K (.p (.bool (decide (a<=b))))
 | .gtr=>K (.p (.bool (decide (b<a))))
 | .geq=>K (.p (.bool (decide (b<=a))))
 |_=>False
def vX(P:Program)(op:BinOp)(t:TypeId)(x y:AV)(K:AV->Prop):Prop:=match x,y with
 | .p (.int k a),.p (.int k' b)=>k'=k/\u5 op k a b K
 | .p (.bool a),.p (.bool b)=>G4 P t=true/\(match op with| .eql=>K (.p (.bool (a==b)))| .neq=>K (.p (.bool (a !=b)))|_=>False)
 | .p (.agg l),.p (.agg m)=>∃xs ys,oL l=some xs/\oL m=some ys/\xs.length=ys.length/\yM P t xs.length/\(match op with| .eql=>K (.p (.bool (xs==ys)))| .neq=>K (.p (.bool (xs !=ys)))|_=>False)
 | .p (.sl _ cs),.nil=>(dC P t).isSome=true/\cs≠[]/\op= .eql/\K (.p (.bool false))
 |_,_=>False
def aAa{op:BinOp}{t t':TypeId}{x y:Operand}(ho:o.op= .binOp op t x y t'){K:AV->Prop}(h:vX P op t (E x) (E y) K):∃r,bT P o E σ n r [] []/\K r:=by
 have hx:x∈o.op.operands.toList:=by rw[ho];simp[cX]
 have hy:y∈o.op.operands.toList:=by rw[ho];simp[cX]
 unfold vX at h;split at h
 .rename_i k a k' b ea eb;obtain⟨rfl,h⟩:=h;have key:∀r:AV,(∀ρ C,∃v,(∀w:World,(do eqGuard op t x y (.int k' a) (.int k' b);binOp op t (.int k' a) (.int k' b):Sem Value).run P w= .ok v w)/\aR ρ C r v)->bT P o E σ n r [] [] :=by intro r hr;refine bT.val ?_;intro ρ C V w hE;have h1:=hE x hx;have h2:=hE y hy;rw[ea]at h1;rw[eb]at h2;unfold aR aU at h1 h2;obtain⟨v,h3,h4⟩:=hr ρ C;refine⟨v,?_,h4⟩;unfold execOp;rw[ho];simp only[h1,h2,cg (x:=(do eqGuard op t x y (.int k' a) (.int k' b);binOp op t (.int k' a) (.int k' b):Sem Value)),h3,cl,dc]
  unfold u5 at h;split at h
  .exact⟨_,key _ λρ C=>⟨.int k' _,λw=>by simp[eqGuard,binOp,Ig];rfl,by rfl⟩,h⟩
  .exact⟨_,key _ λρ C=>⟨.int k' _,λw=>by simp[eqGuard,binOp,Ig];rfl,by rfl⟩,h⟩
  .exact⟨_,key _ λρ C=>⟨.int k' _,λw=>by simp[eqGuard,binOp,Ig];rfl,by rfl⟩,h⟩
  .exact⟨_,key _ λρ C=>⟨.int k' _,λw=>by simp[eqGuard,binOp,Op.intDiv,h.1];rfl,by rfl⟩,h.2⟩
  .exact⟨_,key _ λρ C=>⟨.int k' _,λw=>by simp[eqGuard,binOp,Op.intDiv,h.1];rfl,by rfl⟩,h.2⟩
  .exact⟨_,key _ λρ C=>⟨.bool _,λw=>by simp[eqGuard,binOp,yy];rfl,by rfl⟩,h⟩
  .exact⟨_,key _ λρ C=>⟨.bool _,λw=>by simp[eqGuard,binOp,yy];rfl,by rfl⟩,h⟩
  .exact⟨_,key _ λρ C=>⟨.bool _,λw=>by simp[eqGuard,binOp,yy];rfl,by rfl⟩,h⟩
  .exact⟨_,key _ λρ C=>⟨.bool _,λw=>by simp[eqGuard,binOp,yy];rfl,by rfl⟩,h⟩
  .exact⟨_,key _ λρ C=>⟨.bool _,λw=>by simp[eqGuard,binOp,yy];rfl,by rfl⟩,h⟩
  .exact⟨_,key _ λρ C=>⟨.bool _,λw=>by simp[eqGuard,binOp,yy];rfl,by rfl⟩,h⟩
  grind
 .rename_i a b ea eb;obtain⟨ht,h⟩:=h;unfold G4 at ht;have hu:P.underlying t=some .bool:=by
   split at ht
   .assumption
   .cases ht
  have key:∀r:AV,(∀ρ C,∃v,(∀w:World,(do eqGuard op t x y (.bool a) (.bool b);binOp op t (.bool a) (.bool b):Sem Value).run P w= .ok v w)/\aR ρ C r v)->bT P o E σ n r [] [] :=by intro r hr;refine bT.val ?_;intro ρ C V w hE;have h1:=hE x hx;have h2:=hE y hy;rw[ea]at h1;rw[eb]at h2;unfold aR aU at h1 h2;obtain⟨v,h3,h4⟩:=hr ρ C;refine⟨v,?_,h4⟩;unfold execOp;rw[ho];simp only[h1,h2,cg (x:=(do eqGuard op t x y (.bool a) (.bool b);binOp op t (.bool a) (.bool b):Sem Value)),h3,cl,dc]
  split at h
  .exact⟨_,key _ λρ C=>⟨.bool _,λw=>by simp only[eqGuard,binOp,JA hu,cg,cl,dc];rfl,by rfl⟩,h⟩
  .exact⟨_,key _ λρ C=>⟨.bool _,λw=>by simp only[eqGuard,binOp,JA hu,cg,cl,dc];rfl,by rfl⟩,h⟩
  grind
 .rename_i l m ea eb;obtain⟨xs,ys,hxs,hys,hlen,hEq,h⟩:=h;have key:∀r:AV,(∀ρ C,∃v,(∀w:World,(do eqGuard op t x y (.agg (xs.map (cY .i64)).toArray) (.agg (ys.map (cY .i64)).toArray);binOp op t (.agg (xs.map (cY .i64)).toArray) (.agg (ys.map (cY .i64)).toArray):Sem Value).run P w= .ok v w)/\aR ρ C r v)->bT P o E σ n r [] [] :=by intro r hr;refine bT.val ?_;intro ρ C V w hE;have h1:=hE x hx;have h2:=hE y hy;rw[ea]at h1;rw[eb]at h2;unfold aR aU at h1 h2;obtain⟨vs1,h1,r1,_⟩:=h1;obtain⟨vs2,h2,r2,_⟩:=h2;rw[Dk hxs r1]at h1;rw[Dk hys r2]at h2;obtain⟨v,h3,h4⟩:=hr ρ C;refine⟨v,?_,h4⟩;unfold execOp;rw[ho];simp only[h1,h2,cg (x:=(do eqGuard op t x y (.agg (xs.map (cY .i64)).toArray) (.agg (ys.map (cY .i64)).toArray);binOp op t (.agg (xs.map (cY .i64)).toArray) (.agg (ys.map (cY .i64)).toArray):Sem Value)),h3,cl,dc]
  split at h
  .exact⟨_,key _ λρ C=>⟨.bool _,λw=>(hEq xs ys x y w rfl hlen.symm).1,by rfl⟩,h⟩
  .exact⟨_,key _ λρ C=>⟨.bool _,λw=>(hEq xs ys x y w rfl hlen.symm).2,by rfl⟩,h⟩
  grind
 .rename_i m cs ea eb;obtain⟨ht,hcs,rfl,h⟩:=h;obtain⟨e,hu⟩:∃e,P.underlying t=some (.slice e):=by unfold dC at ht;grind
  refine⟨_,bT.val ?_,h⟩;intro ρ C V w hE;have h1:=hE x hx;have h2:=hE y hy;rw[ea]at h1;rw[eb]at h2;unfold aR at h1 h2;obtain⟨a,c,h1,_,h3,_⟩:=h1;obtain⟨ad,rfl⟩:∃ad,a=some ad:=by
   cases a with
   |none=>grind
   |some ad=>grind
  refine⟨.bool false,?_,by rfl⟩;unfold execOp;rw[ho];have h4:∀w:World,(tZ (9999+1) t (.slice (some ad) m c) (.slice none 0 0)).run P w= .ok false w:=λw=>by generalize 9999=D;simp only[tZ,cg,run_underlying hu,cl,dc]
  have h5:∀w:World,(binOp .eql t (.slice (some ad) m c) (.slice none 0 0)).run P w= .ok (.bool false) w:=λw=>by have:=h4 w;simp only[binOp,Op.equal,Op.maxDepth,cg,this,cl];rfl
  simp only[h1,h2,eqGuard,cg,h5,cl,dc];try rfl
 grind
def unA(op:UnOp)(x:AV)(K:AV->Prop):Prop:=match op,x with
 | .not,.p (.bool b)=>K (.p (.bool !b))
 | .neg,.p (.int k a)=>K (.p (.int k (k.wrap (0-a))))
 |_,_=>False
def aAi{op:UnOp}{t:TypeId}{x:Operand}(ho:o.op= .unOp op t x){K:AV->Prop}(h:unA op (E x) K):∃r,bT P o E σ n r [] []/\K r:=by
 have hx:x∈o.op.operands.toList:=by rw[ho];simp[cX]
 unfold unA at h;split at h
 .rename_i b e;refine⟨_,bT.val ?_,h⟩;intro ρ C V w hE;have h1:=hE x hx;rw[e]at h1;unfold aR aU at h1;exact⟨.bool !b,by unfold execOp;rw[ho];simp[h1,Op.unary],by rfl⟩
 .rename_i k a e;refine⟨_,bT.val ?_,h⟩;intro ρ C V w hE;have h1:=hE x hx;rw[e]at h1;unfold aR aU at h1;exact⟨_,by unfold execOp;rw[ho];simp only[h1,Op.unary,Ig];rfl,by rfl⟩
 grind
def Bz(P:Program)(src dst:TypeId)(x:AV)(K:AV->Prop):Prop:=match x with
 | .p (.int _ a)=>(P.underlying src).isSome=true/\∃k,Hn P dst=some k/\K (.p (.int k (k.wrap a)))
 |_=>False
def Yd{src dst:TypeId}{x:Operand}(ho:o.op= .convert src dst x){K:AV->Prop}(h:Bz P src dst (E x) K):∃r,bT P o E σ n r [] []/\K r:=by
 have hx:x∈o.op.operands.toList:=by rw[ho];simp[cX]
 unfold Bz at h;split at h
 .rename_i k0 a e;obtain⟨hs,k,hk,h⟩:=h;obtain⟨d,hs⟩:=pB.1 hs;have hd:P.underlying dst=some (.int k):=by
   unfold Hn at hk;split at hk
   .grind
   .cases hk
  refine⟨_,bT.val ?_,h⟩;intro ρ C V w hE;have h1:=hE x hx;rw[e]at h1;unfold aR aU at h1;refine⟨_,?_,by rfl⟩;unfold execOp;rw[ho];simp only[h1,convert,cg,run_underlying hs,run_underlying hd,cl,Conv.intToInt,dc]
 grind
def X7{f:Fn}{first caps:Array Operand}(ho:o.op= .makeFunc f first caps):bT P o E σ n (.fn f (first.toList.map E) (caps.toList.map E)) [] [] :=by
 refine bT.val ?_;intro ρ C V w hE;refine⟨.func f (first.map (bH V)) (caps.map (bH V)),?_,?_⟩
 .unfold execOp;rw[ho];rfl
 .have key:∀l:List Operand,(∀x∈l,aR ρ C (E x) (bH V x))->ag ρ C (l.map E) (l.map (bH V)):=by
   intro l;induction l with
   |nil=>intro _;rfl
   |cons x l ih=>
    unfold ag;grind
  refine⟨first.toList.map (bH V),caps.toList.map (bH V),?_,key _ λx hx=>hE x ?_,key _ λx hx=>hE x ?_⟩
  .congr 1<;>(apply pC.1;simp)
  .rw[ho];simp only[cX,Array.toList_append,bi];exact .inl hx
  .rw[ho];simp only[cX,Array.toList_append,bi];exact .inr hx
def Gt(P:Program)(t:TypeId)(f:Nat)(x:AV)(K:AV->Prop):Prop:=∃q,tL P t f=some q/\match x with
 | .ptr s off=>K (.ptr s (off+q.1))
 | .p (.pro cs off)=>K (.p (.pro cs (off+q.1)))
 |_=>False
def My{t:TypeId}{f:Nat}{q:Nat×TypeId}(h:tL P t f=some q)(w:World)(b off:Nat):
  (Instr.fieldAt t (.pointer (some ⟨b,off,none⟩)) f).run P w= .ok (.pointer (some ⟨b,off+q.1,none⟩)) w:=by
 unfold tL at h;split at h
 .rename_i fs hu;simp only[qT]at h;obtain⟨x,hx,h⟩:=h;split at h
  .cases h
  .rename_i hz;cases h;cases hi:P.info? x.type with
   |none=>simp[aZ,hi]at hz
   |some i=>
    have hne:i.size≠0:=by simpa[aZ,hi]using hz
    simp[Instr.fieldAt,run_underlying hu,hx,Cn,fieldPlace,sizeOf,typeInfo,hi,hne,v8]
 .cases h
def Wa{t:TypeId}{f:Nat}{x:Operand}(ho:o.op= .fieldAddr t x f){K:AV->Prop}(h:Gt P t f (E x) K):∃r,bT P o E σ n r [] []/\K r:=by
 have hx:x∈o.op.operands.toList:=by rw[ho];simp[cX]
 obtain⟨q,hq,h⟩:=h;split at h
 .rename_i s off e;refine⟨_,bT.val ?_,h⟩;intro ρ C V w hE;have h1:=hE x hx;rw[e]at h1;obtain⟨b,c,h1,h2⟩:=h1;refine⟨.pointer (some ⟨b,off+q.1,none⟩),?_,by unfold aR;grind⟩;unfold execOp;rw[ho];simp only[h2,cg,My hq,cl,dc]
 .rename_i cs off e;refine⟨_,bT.val ?_,h⟩;intro ρ C V w hE;have h1:=hE x hx;rw[e]at h1;obtain⟨b,oo,h1,h2⟩:=h1;refine⟨.pointer (some ⟨b,oo+off+q.1,none⟩),?_,by unfold aR aU;grind⟩;unfold execOp;rw[ho];simp only[h1,cg,My hq,cl,dc]
 grind
def ss(P:Program)(t:TypeId)(l:List AV)(off:Nat)(K:AV->Prop):Prop:=
 tok P t=true/\if iQ P t=true then∃m,(l.drop off).take (aZ P t)=m/\K (eJ m)else∃x,l[off]? =some x/\K x
def Gr(P:Program)(t:TypeId)(f:Nat)(x:AV)(K:AV->Prop):Prop:=∃q,tL P t f=some q/\match x with
 | .agg l=>ss P q.2 l q.1 K
 | .p (.agg l)=>ss P q.2 (l.map .p) q.1 K
 |_=>False
def ag.take{ρ:Ren}{C:bE}{l:List AV}{vs:List Value}(h:ag ρ C l vs)(k:Nat):ag ρ C (l.take k) (vs.take k):=
 ag.of _ _ (by simp[h.length]) λi x hi=>by
  rw[o5]at hi|-;split at hi
  .rw[if_pos ‹_›];exact h.get _ _ i x hi
  .cases hi
def ag.drop{ρ:Ren}{C:bE}{l:List AV}{vs:List Value}(h:ag ρ C l vs)(k:Nat):ag ρ C (l.drop k) (vs.drop k):=
 ag.of _ _ (by simp[h.length]) λi x hi=>by rw[vo]at hi|-;exact h.get _ _ _ x hi
def Xv{t:TypeId}{l:List AV}{off:Nat}{K:AV->Prop}(h:ss P t l off K):∃r,K r/\∀(ρ:Ren) (C:bE) (vs:List Value) (w:World),ag ρ C l vs->gg vs->∃v,(part t vs.toArray off).run P w= .ok v w/\aR ρ C r v:=by
 obtain⟨ht,h⟩:=h;unfold tok at ht;simp only[bn,pB]at ht;obtain⟨⟨i,hi⟩,d,hd⟩:=ht;have hag:∀w:World,(isAgg t).run P w= .ok (iQ P t) w:=by intro w;unfold isAgg iQ;rw[cg,run_underlying hd w,hd];cases d<;>rfl
 split at h
 .rename_i hg;obtain⟨m,hm,hK⟩:=h;refine⟨_,hK,?_⟩;intro ρ C vs w hr h1s;have h2:=(hr.drop off).take (aZ P t);rw[hm]at h2;refine⟨_,?_,z6 h2 λu hu=>h1s u (by grind)⟩;have hsz:aZ P t=i.size:=by simp[aZ,hi]
  simp only[part,cg,hag,hg,cl,if_true,sizeOf,typeInfo,run_program,hi,dc];grind
 .rename_i hg;obtain⟨x,hx,hK⟩:=h;refine⟨x,hK,?_⟩;intro ρ C vs w hr _;obtain⟨v,h1,h2⟩:=hr.get _ _ off x hx;refine⟨v,?_,h2⟩;have hg':iQ P t=false:=by simpa using hg
  simp[part,hag,hg',h1]
def WZ{t:TypeId}{f:Nat}{x:Operand}(ho:o.op= .field t x f){K:AV->Prop}(h:Gr P t f (E x) K):∃r,bT P o E σ n r [] []/\K r:=by
 have hx:x∈o.op.operands.toList:=by rw[ho];simp[cX]
 obtain⟨q,hq,h⟩:=h;have key:∀l,ss P q.2 l q.1 K->(∀ρ C v,aR ρ C (E x) v->∃vs:List Value,v= .agg vs.toArray/\ag ρ C l vs/\gg vs)->∃r,bT P o E σ n r [] []/\K r:=by
  intro l hl hv;obtain⟨r,hK,hr⟩:=Xv hl;refine⟨r,bT.val ?_,hK⟩;intro ρ C V w hE;obtain⟨vs,h1,h2,h2s⟩:=hv ρ C _ (hE x hx);obtain⟨v,h3,h4⟩:=hr ρ C vs w h2 h2s;refine⟨v,?_,h4⟩;unfold tL at hq;split at hq
  .rename_i fs hu;simp only[qT]at hq;obtain⟨y,hy,hq⟩:=hq;split at hq
   .cases hq
   .cases hq;unfold execOp;rw[ho];simp[h1,Instr.field,run_underlying hu,hy,asAgg,h3]
  .cases hq
 split at h
 .rename_i l e;refine key l h λρ C v hv=> ?_;rw[e]at hv;exact hv
 .rename_i l e;refine key _ h λρ C v hv=> ?_;rw[e]at hv;obtain⟨vs,h1,h2,h3⟩:=hv;exact⟨vs,h1,h2.toA,h3⟩
 grind
def BY(P:Program)(t:TypeId)(x i:AV)(K:AV->Prop):Prop:=match x,i with
 | .p (.sl n cs),.p (.int _ a)=>∃e,dC P t=some e/\(P.info? e).isSome=true/\0<=a/\a<n/\K (.p (.pro cs (a.toNat*aZ P e)))
 | .own s o n,.p (.int _ a)=>∃e,dC P t=some e/\(P.info? e).isSome=true/\0<=a/\a<n/\K (.ptr s (o+a.toNat*aZ P e))
 | .ptr s off,.p (.int _ a)=>∃q,rI P t=some q/\(P.info? q.2).isSome=true/\0<=a/\a<q.1/\K (.ptr s (off+a.toNat*aZ P q.2))
 | .p (.pro cs off),.p (.int _ a)=>∃q,rI P t=some q/\(P.info? q.2).isSome=true/\0<=a/\a<q.1/\K (.p (.pro cs (off+a.toNat*aZ P q.2)))
 |_,_=>False
def LO{t e:TypeId}(ht:P.underlying t=some (.slice e))(he:(P.info? e).isSome=true){k:IntKind}{a:Int}{n c b off:Nat}(h0:0<=a)(h1:a<n)(w:World):
  (Ih t (.slice (some ⟨b,off,none⟩) n c) (.int k a)).run P w= .ok (.pointer (some ⟨b,off+a.toNat*aZ P e,none⟩)) w:=by
 obtain⟨i,hi⟩:=pB.1 he;simp[Ih,asIntOf,run_underlying ht,h0,h1,sizeOf,typeInfo,hi,aZ,v8]
def KN{t e:TypeId}{m:Nat}(ht:P.underlying t=some (.array m e))(he:(P.info? e).isSome=true){k:IntKind}{a:Int}{b off:Nat}(h0:0<=a)(h1:a<m)(w:World):
  (Ih t (.pointer (some ⟨b,off,none⟩)) (.int k a)).run P w= .ok (.pointer (some ⟨b,off+a.toNat*aZ P e,none⟩)) w:=by
 obtain⟨i,hi⟩:=pB.1 he;simp[Ih,Cn,asIntOf,run_underlying ht,h0,h1,sizeOf,typeInfo,hi,aZ,v8]
def lC{t e:TypeId}(h:dC P t=some e):P.underlying t=some (.slice e):=by unfold dC at h;grind
def PB{t:TypeId}{q:Nat×TypeId}(h:rI P t=some q):P.underlying t=some (.array q.1 q.2):=by unfold rI at h;grind
def WU{t:TypeId}{x i:Operand}(ho:o.op= .indexAddr t x i){K:AV->Prop}(h:BY P t (E x) (E i) K):∃r,bT P o E σ n r [] []/\K r:=by
 have hx:x∈o.op.operands.toList:=by rw[ho];simp[cX]
 have hi:i∈o.op.operands.toList:=by rw[ho];simp[cX]
 unfold BY at h;split at h
 .rename_i m cs k a ex ei;obtain⟨e,he,he2,h0,h1,hK⟩:=h;refine⟨_,bT.val ?_,hK⟩;intro ρ C V w hE;have g1:=hE x hx;have g2:=hE i hi;rw[ex]at g1;rw[ei]at g2;unfold aR aU at g1 g2;obtain⟨ad,c,g1,g3,g4,g5⟩:=g1;cases ad with
  |none=>grind
  |some ad=>
   obtain⟨b,off,sp⟩:=ad;obtain⟨g5,g6⟩:=g5 _ rfl;have g5:sp=none:=g5 (by omega);subst g5;refine⟨.pointer (some ⟨b,off+a.toNat*aZ P e,none⟩),?_,by unfold aR aU;grind⟩;unfold execOp;rw[ho];simp only[g1,g2,cg,LO (lC he) he2 h0 h1,cl,dc]
 .rename_i s oo m k a ex ei;obtain⟨e,he,he2,h0,h1,hK⟩:=h;refine⟨_,bT.val ?_,hK⟩;intro ρ C V w hE;have g1:=hE x hx;have g2:=hE i hi;rw[ex]at g1;rw[ei]at g2;unfold aR at g1 g2;unfold aU at g2;obtain⟨q,c,g1,g3|⟨b,o',c',rfl,g4,g5,g6,g7⟩⟩:=g1
  .omega
  .have:=g6 (by omega);refine⟨.pointer (some ⟨b,o'+a.toNat*aZ P e,none⟩),?_,by unfold aR;grind⟩;unfold execOp;rw[ho];simp only[g4,g2,cg,LO (lC he) he2 h0 h1,cl,dc]
 .rename_i s off k a ex ei;obtain⟨q,he,he2,h0,h1,hK⟩:=h;refine⟨_,bT.val ?_,hK⟩;intro ρ C V w hE;have g1:=hE x hx;have g2:=hE i hi;rw[ex]at g1;rw[ei]at g2;unfold aR at g1 g2;unfold aU at g2;obtain⟨b,c,g1,g3⟩:=g1;refine⟨.pointer (some ⟨b,off+a.toNat*aZ P q.2,none⟩),?_,by unfold aR;grind⟩;unfold execOp;rw[ho];simp only[g3,g2,cg,KN (PB he) he2 h0 h1,cl,dc]
 .rename_i cs off k a ex ei;obtain⟨q,he,he2,h0,h1,hK⟩:=h;refine⟨_,bT.val ?_,hK⟩;intro ρ C V w hE;have g1:=hE x hx;have g2:=hE i hi;rw[ex]at g1;rw[ei]at g2;unfold aR aU at g1 g2;obtain⟨b,oo,g1,g3⟩:=g1;refine⟨.pointer (some ⟨b,oo+off+a.toNat*aZ P q.2,none⟩),?_,by unfold aR aU;grind⟩;unfold execOp;rw[ho];simp only[g1,g2,cg,KN (PB he) he2 h0 h1,cl,dc]
 grind
def yV(x:AV)(i:Nat)(K:AV->Prop):Prop:=match x with
 | .tup l=>∃y,l[i]? =some y/\K y
 | .p (.tup l)=>∃y,l[i]? =some y/\K (.p y)
 |_=>False
def YV{x:Operand}{i:Nat}(ho:o.op= .extract x i){K:AV->Prop}(h:yV (E x) i K):∃r,bT P o E σ n r [] []/\K r:=by
 have hx:x∈o.op.operands.toList:=by rw[ho];simp[cX]
 unfold yV at h;split at h
 .rename_i l e;obtain⟨y,hy,h⟩:=h;refine⟨_,bT.val ?_,h⟩;intro ρ C V w hE;have h1:=hE x hx;rw[e]at h1;obtain⟨vs,h1,h2⟩:=h1;obtain⟨v,h3,h4⟩:=h2.get _ _ i y hy;refine⟨v,?_,h4⟩;unfold execOp;rw[ho];simp[h1,Instr.extract,h3]
 .rename_i l e;obtain⟨y,hy,h⟩:=h;refine⟨_,bT.val ?_,h⟩;intro ρ C V w hE;have h1:=hE x hx;rw[e]at h1;obtain⟨vs,h1,h2⟩:=h1;obtain⟨v,h3,h4⟩:=h2.get _ _ i y hy;refine⟨v,?_,by exact h4⟩;unfold execOp;rw[ho];simp[h1,Instr.extract,h3]
 grind
end
end
section
def dg(l:List Oper)(j:Nat):Nat:=((l[j]?).bind (·.dst)).getD 1000000
def fy(anc:List (List Nat))(i:Nat):List Nat:=anc.getD i []
def lN(l:List Oper)(V:Nat->Value)(j:Nat):Value:=if dg l j=1000000 then undef else V (dg l j)
def PU(l:List Oper)(anc:List (List Nat))(i s:Nat):Bool:=(bV l.length).all λj=>dg l j !=s||(fy anc j).contains i||j==i
def okF(l:List Oper)(anc:List (List Nat)):Bool:=
 (bV l.length).all λi=>
  (((l[i]?).map λo=>(o.after.toList.all λe=> !gv .any e||(decide (e.on<i)&&(fy anc i).contains e.on))&&o.guard.isNone&&o.dst !=some 1000000).getD false)&&
  ((fy anc i).all λj=>decide (j<i)&&(((l[i]?).map λo=>o.after.toList.any λe=>gv .any e&&(e.on==j||(fy anc e.on).contains j)).getD false))&&
  ((bV l.length).all λj=>j==i||dg l j !=dg l i||dg l i==1000000)
def An(S:Nat->Oper->Prop):List Oper->Nat->Prop
 |[],_=>True
 |o::r,k=>S k o/\An S r (k+1)
def JR{S:Nat->Oper->Prop}:∀(l:List Oper) (k:Nat),An S l k->∀i o,l[i]? =some o->S (k+i) o
 |[],_,_,i,o,h=>by simp at h
 |o'::r,k,h,0,o,ho=>by simp at ho;subst ho;exact h.1
 |o'::r,k,h,i+1,o,ho=>by
  have:=JR r (k+1) h.2 i o (by grind);grind
def gQ(D:Nat->Bool)(i:Nat):Nat->Bool:=λj=>if j=i then true else D j
def P2(P:Program)(l:List Oper)(anc:List (List Nat))(a0:Act)(WR:(Nat->Bool)->World->Prop)(fact:Nat->Value->World->Prop)(i:Nat)(o:Oper):Prop:=
 ∀(D:Nat->Bool) (V:Nat->Value) (w:World),D i=false->(∀j,(fy anc i).contains j=true->D j=true/\fact j (lN l V j) w)->(∀j,(fy anc j).contains i=true->D j=false)->
  (∀s,PU l anc i s=true->V s=a0.tmps.getD s undef)->WR D w->
  cJ P o V w λv w'=>fact i (if dg l i=1000000 then undef else v) w'/\WR (gQ D i) w'/\(w'=w\/Below w.heap.size w w'\/∀j,D j=true->fact j (lN l V j) w->fact j (lN l V j) w')
def opK{P:Program}{o:Oper}{V:Nat->Value}{w:World}{K:Value->World->Prop}(h:∀K':Value->World->Prop,(∀v w',K v w'->K' v w')->cJ P o V w K'):cJ P o V w K:=by grind
def Rd(w:World)(a:Option Addr)(cs:List Value):Prop:=∀i u,cs[i]? =some u->∃b off,a=some ⟨b,off,none⟩/\b<w.heap.size/\w.cell? ⟨b,off+i,none⟩=some u
def Rd.below{w w':World}{a:Option Addr}{cs:List Value}(h:Rd w a cs)(hb:Below w.heap.size w w'):Rd w' a cs:=by intro i u hi;obtain⟨b,off,ha,hlt,h1⟩:=h i u hi;exact⟨b,off,ha,Nat.lt_of_lt_of_le hlt hb.size,(hb.cell (p:=⟨b,_,none⟩) hlt).trans h1⟩
def jJ(base:Nat)(a:Option Addr):Prop:=∀b,a=some b->base<=b.block
def jJ.mono{m n:Nat}{a:Option Addr}(h:jJ n a)(hm:m<=n):jJ m a:=λb hb=>cO hm (h b hb)
def Rd.Gk{w:World}{base:Nat}{e:TypeId}{size:Nat}{v:Value}{n:Nat}{cs:List Value}(h:w.ownsRow base e size v n cs):∃a c,v= .slice a n c/\Rd w a cs/\jJ base a/\(a=none->c=0):=by
 rcases h.2 with⟨h1,h2⟩|⟨g,cap,cur,h1,h2,h3,h4,h5,h6,h7⟩
 .have:cs=[] :=mc.1 (by rw[h.1,h2];simp);exact⟨none,0,by rw[h1,h2],by rw[this];intro i u hi;simp at hi,(λb hb=>by cases hb),λ_=>rfl⟩
 .refine⟨some ⟨g,0,none⟩,cap,h1,?_,(λb hb=>by grind),(by grind)⟩;intro i u hi;refine⟨g,0,rfl,Blk.lt h3,?_⟩;rw[jo,cell_of_row w g i cur e (0,0) h3];grind
def tn{w w':World}{base:Nat}{e:TypeId}{size:Nat}{v:Value}{n:Nat}{xs:List Value}(h:w.ownsRow base e size v n xs)(hb:Below w.heap.size w w'):w'.ownsRow base e size v n xs:=by
 refine⟨h.1,?_⟩;rcases h.2 with h1|⟨g,cap,cur,h1,h2,h3,h4⟩
 .exact .inl h1
 .exact .inr ⟨g,cap,cur,h1,h2,Blk.then_ h3 hb,h4⟩
def qU{w:World}{base:Nat}{e:TypeId}{size:Nat}{v:Value}{n:Nat}{xs:List Value}(h:w.ownsRow base e size v n xs):∀k,v.ownBlock=some k->base<=k/\k<w.heap.size:=by
 intro k hk;rcases h.2 with⟨rfl,_⟩|⟨g,cap,cur,rfl,h2,h3,_⟩
 .simp[Co]at hk
 .simp[Co]at hk;grind
def ED{P:Program}{o:Oper}{V:Nat->Value}{w:World}{K:Value->World->Prop}(s x:Operand)(t:TypeId)
  (ho:o.op= .call {callee:= .builtin .append,args:= #[s,x],argTypes:= #[t,t]})
  (base:Nat) (e:TypeId) (z:Value) (size bytes:Nat) (ht:P.underlying t=some (.slice e)) (hi:(P.info? e).map (λi=>(i.zero,i.size,i.bytes))=some (some z,size,bytes)) (hzs:z.cells.size=size) (hsz:0<size)
  (v:Value) (n:Nat) (xs:List Value) (hs:bH V s=v) (hown:w.ownsRow base e size v n xs)
  (a:Option Addr) (m c:Nat) (cs:List Value) (hx:bH V x= .slice a m c) (hl:cs.length=m*size) (hg:Rd w a cs) (hn:a=none->c=0) (h1:∀u∈cs,u.oneCell'=true)
  (h63:n+m<=1000000) (hbytes:bytes<=1000000) (hbase:base<=w.heap.size)
  (h:∀v' w',w'.ownsRow base e size v' (n+m) (xs++cs)->Below base w w'->w.grownBy w' v.ownBlock->(∀k,v'.ownBlock=some k->v.ownBlock=some k\/w.heap.size<=k)->K v' w'):cJ P o V w K:=by
 obtain⟨i,hi1,hi2⟩:=ll.1 hi;simp only[Prod.mk.injEq]at hi2;obtain⟨i1,i2,i3⟩:=hi2;have hb:∀k,v.ownBlock=some k->base<=k:=λk hk=>(qU hown k hk).1;by_cases hm:m=0
 .subst hm;have hcs:cs=[] :=by grind
  subst hcs;by_cases ha:a=none
  .subst ha;have hc:=hn rfl;subst hc;have hr:=run_append_owned_none (P:=P) (w:=w) base t o.type e i size ht hi1 v n xs hown;unfold cJ execOp;simp only[ho,resolve,invoke,builtin,cg,dc,cl,Ii,cv,kZ,hs,hx,hr];exact h v w (by grind) (Below.refl _ _) ⟨rfl,rfl,rfl,bX _,λ_ _ _=>rfl⟩ (by grind)
  .obtain⟨a',rfl⟩:=Option.ne_none_iff_exists'.1 ha;obtain⟨v',w',hr,h2,h3,_,h5⟩:=run_append_own_at (P:=P) (w:=w) base t o.type e i z size bytes ht hi1 i1 i2 i3 hzs hsz v n xs hown a' 0 c [] (by simp) (by simp) (by simp) (by simp only[maxLen];omega) (cO (wC h63 hbytes) (by decide)) hbase;unfold cJ execOp;simp only[ho,resolve,invoke,builtin,cg,dc,cl,Ii,cv,kZ,hs,hx,hr];exact h v' w' h2 ((Below.refl base w).grown h3 hbase hb) h3 (by grind)
 .obtain⟨u0,hu0⟩:∃u,cs[0]? =some u:=by
   have:0<cs.length:=by rw[hl];exact Nat.mul_pos (by omega) hsz
   grind
  obtain⟨b,off,rfl,hbl,_⟩:=hg 0 u0 hu0;have hnews:∀j u,cs[j]? =some u->w.cell? ((⟨b,off,none⟩:Addr).add j)=some u:=by
   intro j u hj;obtain⟨b',off',he,_,hc⟩:=hg j u hj;simp only[fm,Addr.mk.injEq,and_true]at he;obtain⟨rfl,rfl⟩:=he;unfold Addr.add;by_cases hj0:j=0
   .grind
   .grind
  obtain⟨v',w',hr,h2,h3,_,h5⟩:=run_append_own_at (P:=P) (w:=w) base t o.type e i z size bytes ht hi1 i1 i2 i3 hzs hsz v n xs hown ⟨b,off,none⟩ m c cs hl hnews h1 (by simp only[maxLen];omega) (cO (wC h63 hbytes) (by decide)) hbase;unfold cJ execOp;simp only[ho,resolve,invoke,builtin,cg,dc,cl,Ii,cv,kZ,hs,hx,hr];exact h v' w' h2 ((Below.refl base w).grown h3 hbase hb) h3 (by grind)
def Rd.aAH{w:World}{g:Nat}{t:TypeId}{cs:Array Value}(h:Blk w g t cs):Rd w (some ⟨g,0,none⟩) cs.toList:=by intro i u hi;refine⟨g,0,rfl,h.lt,?_⟩;rw[jo,h.cell i];grind
def WR2(m:Nat)(A B:World->Prop)(D:Nat->Bool)(wx:World):Prop:=if D m=true then B wx else A wx
section
variable {m i:Nat} {A B:World->Prop} {D:Nat->Bool} {wx:World}
def WR2.start(h:A wx):WR2 m A B (λ_=>false) wx:=h
def WR2.lo(h:WR2 m A B D wx)(hD:D m=false):A wx:=by unfold WR2 at h;grind
def WR2.hi(h:WR2 m A B D wx)(hD:D m=true):B wx:=by unfold WR2 at h;grind
def WR2.mkLo(hD:D m=false)(hi:m≠i)(h:A wx):WR2 m A B (gQ D i) wx:=by unfold WR2 gQ;grind
def WR2.mkHi(h:B wx):WR2 m A B (gQ D m) wx:=by unfold WR2 gQ;grind
def WR2.keep(hi:m≠i)(h:WR2 m A B D wx):WR2 m A B (gQ D i) wx:=by unfold WR2 gQ at*;grind
end
def WR3(m n:Nat)(A B C:World->Prop)(D:Nat->Bool)(wx:World):Prop:=if D n=true then C wx else if D m=true then B wx else A wx
section
variable {m n i:Nat} {A B C:World->Prop} {D:Nat->Bool} {wx:World}
def WR3.start(h:A wx):WR3 m n A B C (λ_=>false) wx:=h
def WR3.lo(h:WR3 m n A B C D wx)(hD:D m=false)(hn:D n=false):A wx:=by unfold WR3 at h;grind
def WR3.mid(h:WR3 m n A B C D wx)(hD:D m=true)(hn:D n=false):B wx:=by unfold WR3 at h;grind
def WR3.hi(h:WR3 m n A B C D wx)(hn:D n=true):C wx:=by unfold WR3 at h;grind
def WR3.mkLo(hD:D m=false)(hn:D n=false)(hi:m≠i)(hi2:n≠i)(h:A wx):WR3 m n A B C (gQ D i) wx:=by unfold WR3 gQ;grind
def WR3.mkMid(hn:D n=false)(hmn:n≠m)(h:B wx):WR3 m n A B C (gQ D m) wx:=by unfold WR3 gQ;grind
def WR3.mkHi(h:C wx):WR3 m n A B C (gQ D n) wx:=by unfold WR3 gQ;grind
def WR3.keep(hi:m≠i)(hi2:n≠i)(h:WR3 m n A B C D wx):WR3 m n A B C (gQ D i) wx:=by unfold WR3 gQ at*;grind
end
def wi{w w':World}{row:Option Nat}{g:Nat}{t:TypeId}{cs:Array Value}(h:w.grownBy w' row)(hb:Blk w g t cs)(hne:row≠some g):Blk w' g t cs:=(h.block g hb.lt (by grind)).trans hb
def AP{w:World}{base:Nat}{e:TypeId}{size:Nat}{v:Value}{n:Nat}{xs:List Value}(h:w.ownsRow base e size v n xs){g:Nat}(hg:g<base):v.ownBlock≠some g:=λhx=>by have:=(qU h g hx).1;omega
end
section
section
variable {P:Program} {o:Oper} {E:Operand->AV} {σ:Nat->Option Ob} {n:Nat}
def CO:AV->Option Int
 | .p (.int _ a)=>some a
 |_=>none
def Ms{ρ:Ren}{C:bE}{x:AV}{a:Int}{v:Value}(h:CO x=some a)(hr:aR ρ C x v):∃k,v= .int k a:=by
 unfold CO at h;split at h
 .unfold aR aU at hr;grind
 .cases h
def loA(E:Operand->AV)(lo:Option Operand)(d:Int):Option Int:=match lo with|none=>some d|some x=>CO (E x)
def ul(P:Program)(t:TypeId)(x:AV)(lo hi:Option Int)(K:AV->Prop):Prop:=∃e l h,dC P t=some e/\(P.info? e).isSome=true/\aZ P e≠0/\lo=some l/\hi=some h/\0<=l/\l<=h/\match x with
 | .p (.sl m cs)=>h<=m/\K (.p (.sl (h.toNat-l.toNat) ((cs.take (h.toNat*aZ P e)).drop (l.toNat*aZ P e))))
 | .own s oo m=>h<=m/\K (.own s (oo+l.toNat*aZ P e) (h.toNat-l.toNat))
 |_=>False
def BV:AV->Int
 | .p (.sl m _)=>m
 | .own _ _ m=>m
 |_=>0
def D6{t e:TypeId}(ht:P.underlying t=some (.slice e))(he:(P.info? e).isSome=true)(a:Option Addr)(m c:Nat)(hmc:m<=c)(lo hi:Option Value)(l h:Int)(h0:0<=l)(h1:l<=h)(h2:h<=m)
  (hlo:(lo=none/\l=0)\/∃k,lo=some (.int k l)) (hhi:(hi=none/\h=m)\/∃k,hi=some (.int k h)) (w:World):
  (Instr.sliceAt t (.slice a m c) lo hi none).run P w= .ok (.slice (if c=l.toNat then a else a.map (·.add (l.toNat*aZ P e))) (h.toNat-l.toNat) (c-l.toNat)) w:=by
 obtain⟨i,hi'⟩:=pB.1 he;have hsz:aZ P e=i.size:=by simp[aZ,hi']
 have hb:(Cq true m c lo hi none).run P w= .ok (l.toNat,h.toNat,c) w:=by
  rcases hlo with⟨rfl,rfl⟩|⟨k,rfl⟩<;>rcases hhi with⟨rfl,rfl⟩|⟨k',rfl⟩
  .simp[Cq]
  .simp[Cq,Instr.sliceBound,asIntOf,show 0<=h by omega,show h<=(c:Int) by omega]
  .simp[Cq,Instr.sliceBound,asIntOf,h0,h1]
  .simp[Cq,Instr.sliceBound,asIntOf,h0,show 0<=h by omega,show h<=(c:Int) by omega,show l<=max h 0 by omega]
 simp only[Instr.sliceAt,cg,run_underlying ht,cl,Instr.slice,hb,sizeOf,typeInfo,run_program,hi',dc,hsz]
def Vm{t:TypeId}{x:Operand}{lo hi:Option Operand}(ho:o.op= .slice t x lo hi none){K:AV->Prop}(h:ul P t (E x) (loA E lo 0) (loA E hi (BV (E x))) K):∃r,bT P o E σ n r [] []/\K r:=by
 have hx:x∈o.op.operands.toList:=by rw[ho];simp[cX]
 have hl:∀y,lo=some y->y∈o.op.operands.toList:=by intro y hy;rw[ho];simp[cX,hy]
 have hh:∀y,hi=some y->y∈o.op.operands.toList:=by intro y hy;rw[ho];simp[cX,hy]
 obtain⟨e,l,hv,he,he2,hez,hlo,hhi,h0,h1,h⟩:=h;have klo:∀(ρ:Ren) (C:bE) (V:Nat->Value),(∀x∈o.op.operands.toList,aR ρ C (E x) (bH V x))->(lo.map (bH V)=none/\l=0)\/∃k,lo.map (bH V)=some (.int k l):=by
  intro ρ C V hE;unfold loA at hlo;cases lo with
  |none=>grind
  |some y=>obtain⟨k,hk⟩:=Ms hlo (hE y (hl y rfl));grind
 have khi:∀(m:Nat),BV (E x)=m->∀(ρ:Ren) (C:bE) (V:Nat->Value),(∀x∈o.op.operands.toList,aR ρ C (E x) (bH V x))->(hi.map (bH V)=none/\hv=m)\/∃k,hi.map (bH V)=some (.int k hv):=by
  intro m hm ρ C V hE;unfold loA at hhi;cases hi with
  |none=>grind
  |some y=>obtain⟨k,hk⟩:=Ms hhi (hE y (hh y rfl));grind
 split at h
 .rename_i m cs ex;obtain⟨h2,hK⟩:=h;refine⟨_,bT.val ?_,hK⟩;intro ρ C V w hE;have g1:=hE x hx;rw[ex]at g1;obtain⟨a,c,g1,g2,g3,g4⟩:=g1;have hrun:=D6 (lC he) he2 a m c g2 _ _ l hv h0 h1 h2 (klo ρ C V hE) (khi m (by rw[ex];rfl) ρ C V hE) w;refine⟨.slice (if c=l.toNat then a else a.map (·.add (l.toNat*aZ P e))) (hv.toNat-l.toNat) (c-l.toNat),?_,?_⟩
  .unfold execOp;simp_all
  .refine⟨_,_,rfl,by omega,?_,?_⟩
   .intro hn;have:a=none:=by
     split at hn
     .exact hn
     .simp_all
    grind
   .intro ad had;split at had
    .subst had;refine⟨by grind,?_⟩;have:((cs.take (hv.toNat*aZ P e)).drop (l.toNat*aZ P e))=[] :=by
      apply List.drop_eq_nil_of_le;rw[lm];have:hv.toNat=l.toNat:=by omega
      rw[this];omega
     rw[this];trivial
    .cases a with
     |none=>simp at had
     |some ad'=>
      simp at had;subst had;obtain⟨g5,g6⟩:=g4 ad' rfl;rcases qN m with hm0|hm0
      .have e0:hv.toNat=0:=by omega
       rw[e0];simp;trivial
      .have g5:=g5 hm0;obtain⟨b,off,sp⟩:=ad';subst g5;rw[v8];exact⟨λ_=>rfl,(g6.take _).drop _⟩
 .rename_i s oo m ex;obtain⟨h2,hK⟩:=h;refine⟨_,bT.val ?_,hK⟩;intro ρ C V w hE;have g1:=hE x hx;rw[ex]at g1;obtain⟨q,c,g1,⟨rfl,g2,g3,g4⟩|⟨b,o',c',rfl,g2,g3,g4,g5⟩⟩:=g1
  .have hrun:=D6 (lC he) he2 none m 0 (by omega) _ _ l hv h0 h1 h2 (klo ρ C V hE) (khi m (by rw[ex];rfl) ρ C V hE) w;have e1:l=0:=by omega
   have e2:hv=0:=by omega
   refine⟨.slice none 0 0,?_,?_⟩
   .unfold execOp;simp_all
   grind
  .have hrun:=D6 (lC he) he2 (some ⟨b,o',none⟩) m c' g3 _ _ l hv h0 h1 h2 (klo ρ C V hE) (khi m (by rw[ex];rfl) ρ C V hE) w;refine⟨.slice (if c'=l.toNat then some ⟨b,o',none⟩else(some (⟨b,o',none⟩:Addr)).map (·.add (l.toNat*aZ P e))) (hv.toNat-l.toNat) (c'-l.toNat),?_,?_⟩
   .unfold execOp;simp_all
   .refine⟨some b,c,g1,.inr ⟨b,if c'=l.toNat then o' else o'+l.toNat*aZ P e,c'-l.toNat,rfl,?_,by omega,?_,?_⟩⟩
    .split<;>simp[v8]
    .grind
    .intro hz;have h3:oo=0:=by omega
     have h4:l.toNat*aZ P e=0:=by omega
     rcases Ij.1 h4 with h5|h5
     .grind
     omega
 grind
def CN(P:Program)(t:TypeId)(x:AV)(K:AV->Prop):Prop:=match x with
 | .p (.sl m _)=>(dC P t).isSome=true/\K (.p (.int .i64 m))
 | .own _ _ m=>(dC P t).isSome=true/\K (.p (.int .i64 m))
 | .nil=>(dC P t).isSome=true/\K (.p (.int .i64 0))
 | .p (.str s)=>(match P.underlying t with|some .string=>true|_=>false)=true/\K (.p (.int .i64 s.size))
 |_=>False
def Zg{x:Operand}{t:TypeId}(ho:o.op= .call {callee:= .builtin .len,args:= #[x],argTypes:= #[t]}){K:AV->Prop}(h:CN P t (E x) K):∃r,bT P o E σ n r [] []/\K r:=by
 have hx:x∈o.op.operands.toList:=by rw[ho];simp[cX,jT]
 have key:∀(m:Nat),(dC P t).isSome=true->(∀ρ C v,aR ρ C (E x) v->∃a c,v= .slice a m c)->bT P o E σ n (.p (.int .i64 m)) [] [] :=by intro m ht hv;obtain⟨e,he⟩:=pB.1 ht;have hu:=lC he;refine bT.val ?_;intro ρ C V w hE;obtain⟨a,c,h1⟩:=hv ρ C _ (hE x hx);refine⟨.int .i64 m,?_,by rfl⟩;unfold execOp;rw[ho];simp[resolve,invoke,builtin,Builtin.len_,h1,run_underlying hu,goInt]
 unfold CN at h;split at h
 .rename_i m cs e;refine⟨_,key m h.1 λρ C v hv=> ?_,h.2⟩;unfold aR aU at hv;grind
 .rename_i s oo m e;refine⟨_,key m h.1 λρ C v hv=> ?_,h.2⟩;unfold aR at hv;grind
 .rename_i e;refine⟨_,key 0 h.1 λρ C v hv=> ?_,h.2⟩;unfold aR at hv;grind
 .rename_i s e;obtain⟨ht,hK⟩:=h;refine⟨_,bT.val ?_,hK⟩;intro ρ C V w hE;have h1:=hE x hx;rw[e]at h1;unfold aR aU at h1;have hu:P.underlying t=some .string:=by
   split at ht
   .assumption
   .cases ht
  refine⟨.int .i64 s.size,?_,by rfl⟩;unfold execOp;rw[ho];simp[resolve,invoke,builtin,Builtin.len_,h1,run_underlying hu,goInt]
 grind
def lM:AV->Option (List AV)
 | .agg l=>some l
 | .p (.agg l)=>some (l.map .p)
 | .p (.tup _)=>none
 | .p .junk=>none
 | .p x=>some [.p x]
 | .mp s=>some [.mp s]
 | .nil=>some [.nil]
 | .ptr s off=>some [.ptr s off]
 | .own s o n=>some [.own s o n]
 | .fn f a b=>some [.fn f a b]
 |_=>none
def Dt{ρ:Ren}{C:bE}{x:AV}{l:List AV}{v:Value}(h:lM x=some l)(hr:aR ρ C x v):ag ρ C l v.cells.toList/\gg v.cells.toList:=by
 have key:∀(y:AV),l=[y]->aR ρ C y v->v.oneCell'=true->ag ρ C l v.cells.toList/\gg v.cells.toList:=by
  intro y hl hy h1;have hc:v.cells.toList=[v] :=by cases v<;>first|rfl|(simp[Value.oneCell']at h1;done)
  rw[hc,hl];refine⟨?_,λu hu=>by grind⟩;unfold ag;exact⟨v,[],rfl,hy,by rfl⟩
 unfold lM at h;split at h
 .cases h;obtain⟨vs,rfl,h1,h2⟩:=hr;exact⟨by simpa[Ik]using h1,by simpa[Ik]using h2⟩
 .cases h;obtain⟨vs,rfl,h1,h2⟩:=hr;exact⟨by simpa[Ik]using h1.toA,by simpa[Ik]using h2⟩
 .cases h
 .cases h
 .rename_i y hn1 hn2 hn3;cases h;refine key _ rfl hr ?_;unfold aR at hr;cases y<;>unfold aU at hr
  .rw[hr];rfl
  .rw[hr];rfl
  .rw[hr];rfl
  .grind
  .grind
  .obtain⟨a,c,h1,_⟩:=hr;rw[h1];rfl
  .obtain⟨a,c,h1,_⟩:=hr;rw[h1];rfl
  .obtain⟨a,c,h1,_⟩:=hr;rw[h1];rfl
  grind
 .cases h;refine key _ rfl hr ?_;obtain⟨c,_,h2⟩:=hr;rw[h2];rfl
 .cases h;refine key _ rfl hr ?_;rw[hr];rfl
 .cases h;refine key _ rfl hr ?_;obtain⟨b,c,_,h2⟩:=hr;rw[h2];rfl
 .cases h;refine key _ rfl hr ?_;obtain⟨q,c,_,⟨_,h2,_⟩|⟨b,o',c',_,h2,_⟩⟩:=hr<;>(rw[h2];rfl)
 .cases h;refine key _ rfl hr ?_;obtain⟨a,b,h2,_⟩:=hr;rw[h2];rfl
 .cases h
def gX(cs:List AV)(off:Nat):List AV->List AV
 |[] =>cs
 |x::l=>gX (cs.set off x) (off+1) l
def zO:∀(l:List AV) (cs:List AV) (off:Nat),(gX cs off l).length=cs.length
 |[],cs,off=>rfl
 |x::l,cs,off=>by unfold gX;rw[zO l];simp
def nK(place:Nat->Option (Nat×Nat))(cells:List AV):List (Nat×AV)->Option (List AV)
 |[] =>some cells
 |(i,v)::rest=>match place i,lM v with
  |some (off,size),some l=>if l.length=size/\off+size<=cells.length then nK place (gX cells off l) rest else none
  |_,_=>none
def ag.set{ρ:Ren}{C:bE}{l:List AV}{vs:List Value}(h:ag ρ C l vs)(k:Nat){x:AV}{v:Value}(hx:aR ρ C x v):ag ρ C (l.set k x) (vs.set k v):=
 ag.of _ _ (by simp[h.length]) λi y hi=>by
  have hl:=h.length;rw[List.getElem?_set]at hi|-;split at hi
  .grind
  .rename_i e;rw[if_neg e];exact h.get _ _ i y hi
def MC{ρ:Ren}{C:bE}:∀(l:List AV) (vs:List Value) (cs:List AV) (us:List Value) (off:Nat) (j:Nat),ag ρ C l vs->ag ρ C cs us->gg vs->gg us->
  ag ρ C (gX cs (off+j) l) ((vs.zipIdx j).foldl (λ(a:Array Value) (c,j)=>a.setIfInBounds (off+j) c) us.toArray).toList/\gg ((vs.zipIdx j).foldl (λ(a:Array Value) (c,j)=>a.setIfInBounds (off+j) c) us.toArray).toList
 |[],vs,cs,us,off,j,h1,h2,h3,h4=>by subst h1;simpa[gX]using⟨h2,h4⟩
 |x::l,vs,cs,us,off,j,h1,h2,h3,h4=>by
  obtain⟨v,r,rfl,hv,hr⟩:=h1;have:=MC l r (cs.set (off+j) x) (us.set (off+j) v) off (j+1) hr (h2.set _ hv) (λu hu=>h3 u (by grind)) (λu hu=>by
   rcases List.mem_or_eq_of_mem_set hu with h|h
   .exact h4 u h
   .subst h;exact h3 _ (by grind))
  simpa[gX,List.zipIdx_cons,Nat.add_assoc]using this
def EW{ρ:Ren}{C:bE}{place:Nat->Option (Nat×Nat)}:∀(parts:List (Nat×AV)) (vparts:List (Nat×Value)) (cs res:List AV) (us:List Value),
  nK place cs parts=some res->vparts.length=parts.length->(∀(j:Nat) q,parts[j]? =some q->∃v,vparts[j]? =some (q.1,v)/\aR ρ C q.2 v)->ag ρ C cs us->gg us->
  ∃vs:List Value,Instr.fill place us.toArray vparts=some vs.toArray/\ag ρ C res vs/\gg vs
 |[],vparts,cs,res,us,h,hl,hp,hc,h1=>by
  simp[nK]at h;subst h;have:vparts=[] :=by grind
  subst this;exact⟨us,rfl,hc,h1⟩
 |(i,x)::rest,vparts,cs,res,us,h,hl,hp,hc,h1=>by
  obtain⟨v,hv0,hv⟩:=hp 0 (i,x) rfl;cases vparts with
  |nil=>simp at hl
  |cons q vparts=>
   simp at hv0;subst hv0;unfold nK at h;split at h
   .rename_i off size l hpl hcl;split at h
    .obtain⟨c1,c2⟩:=Dt hcl hv;have hlen:=c1.length;have hcs:=hc.length;obtain⟨s1,s2⟩:=MC l v.cells.toList cs us off 0 c1 hc c2 h1;obtain⟨vs,f1,f2,f3⟩:=EW rest vparts _ res _ h (by grind) (λj q hj=>hp (j+1) q (by grind)) s1 s2;refine⟨vs,?_,f2,f3⟩;unfold Instr.fill;rw[hpl];dsimp only;simp only[y4]at hlen;have e1:¬(v.cells.size≠size||decide (off+v.cells.size>us.toArray.size))=true:=by simp;omega
     rw[if_neg e1];rw[<-f1];have e2:∀(a:Array Value),a.zipIdx.foldl (λ(cs:Array Value) (x:Value×Nat)=>match x with|(c,j)=>cs.setIfInBounds (off+j) c) us.toArray=(a.toList.zipIdx 0).foldl (λ(cs:Array Value) (x:Value×Nat)=>match x with|(c,j)=>cs.setIfInBounds (off+j) c) us.toArray:=by intro a;rw[<-Array.foldl_toList,Array.toList_zipIdx]
     rw[e2]
    .cases h
   .cases h
def Gi(P:Program)(t:TypeId):Nat->Option (Nat×Nat):=match P.underlying t with
 |some (.struct fs)=>λi=>(fs[i]?).map λf=>(f.offset,aZ P f.type)
 |some (.array _ e)=>λi=>some (i*aZ P e,aZ P e)
 |_=>λ_=>none
def Fx(P:Program)(t:TypeId):Bool:=match P.underlying t with
 |some (.struct fs)=>fs.toList.all λf=>(P.info? f.type).isSome
 |some (.array _ e)=>(P.info? e).isSome
 |_=>false
def mmA(f:Int->Int->Int)(x y:AV)(K:AV->Prop):Prop:=match x,y with
 | .p (.int .i64 a),.p (.int .i64 b)=>K (.p (.int .i64 (f a b)))
 |_,_=>False
def P9{P:Program}(ts:Array TypeId)(t:TypeId)(x y:Int)(w:World):(Builtin.min_ ts t #[.int .i64 x,.int .i64 y]).run P w= .ok (.int .i64 (min x y)) w/\(Builtin.max_ ts t #[.int .i64 x,.int .i64 y]).run P w= .ok (.int .i64 (max x y)) w:=by have h:= @run_min_int2 P w ts t .i64 .i64 x y;have h2:= @run_max_int2 P w ts t .i64 .i64 x y;grind
def Zb{x y:Operand}{ts:Array TypeId}(ho:o.op= .call {callee:= .builtin .min,args:= #[x,y],argTypes:=ts}){K:AV->Prop}(h:mmA min (E x) (E y) K):∃r,bT P o E σ n r [] []/\K r:=by
 unfold mmA at h;split at h
 .rename_i a b ea eb;refine⟨_,bT.val ?_,h⟩;intro ρ C V w hE;have h1:=hE x (by rw[ho];simp[cX,jT]);have h2:=hE y (by rw[ho];simp[cX,jT]);rw[ea]at h1;rw[eb]at h2;unfold aR aU at h1 h2;refine⟨.int .i64 (min a b),?_,by rfl⟩;unfold execOp;rw[ho];simp[resolve,invoke,builtin,h1,h2,(P9 _ _ _ _ _).1]
 grind
def Zd{x y:Operand}{ts:Array TypeId}(ho:o.op= .call {callee:= .builtin .max,args:= #[x,y],argTypes:=ts}){K:AV->Prop}(h:mmA max (E x) (E y) K):∃r,bT P o E σ n r [] []/\K r:=by
 unfold mmA at h;split at h
 .rename_i a b ea eb;refine⟨_,bT.val ?_,h⟩;intro ρ C V w hE;have h1:=hE x (by rw[ho];simp[cX,jT]);have h2:=hE y (by rw[ho];simp[cX,jT]);rw[ea]at h1;rw[eb]at h2;unfold aR aU at h1 h2;refine⟨.int .i64 (max a b),?_,by rfl⟩;unfold execOp;rw[ho];simp[resolve,invoke,builtin,h1,h2,(P9 _ _ _ _ _).2]
 grind
end
end
section
section
variable {P:Program} {o:Oper} {E:Operand->AV} {σ:Nat->Option Ob} {n:Nat}
def Pe(P:Program)(t:TypeId)(parts:List (Nat×AV))(K:AV->Prop):Prop:=∃z,pp P t=some z/\po P t=true/\Fx P t=true/\∃l,nK (Gi P t) z parts=some l/\K (eJ l)
def LB:∀(fs:List Field),fs.all (λf=>(P.info? f.type).isSome)=true->fs.mapM (λf=>(P.info? f.type).map λi=>(f.offset,i.size))=some (fs.map λf=>(f.offset,aZ P f.type))
 |[],_=>rfl
 |f::fs,h=>by
  simp only[List.all_cons,bn]at h;obtain⟨i,hi⟩:=pB.1 h.1;simp[List.mapM_cons,hi,LB fs h.2,aZ]
def xE{t:TypeId}{z:List AV}(h:pp P t=some z)(h1:po P t=true):∃i zv,P.info? t=some i/\i.zero=some zv/\zv.cells.size=i.size/\gg zv.cells.toList/\z=zv.cells.toList.map kO:=by unfold pp at h;simp only[qT,ll]at h;obtain⟨i,hi,zv,hz,rfl⟩:=h;unfold po at h1;simp only[hi,qS,hz,eE,ku,bn,beq_iff_eq,bf]at h1;exact⟨i,zv,hi,hz,h1.2,h1.1,rfl⟩
def W4{t:TypeId}{parts:Array (Nat×Operand)}(ho:o.op= .build t parts){K:AV->Prop}(h:Pe P t (parts.toList.map λq=>(q.1,E q.2)) K):∃r,bT P o E σ n r [] []/\K r:=by
 obtain⟨z,hz,hz1,hpo,l,hl,hK⟩:=h;refine⟨_,bT.val ?_,hK⟩;intro ρ C V w hE;obtain⟨i,zv,hi,hiz,hsz,hone,rfl⟩:=xE hz hz1;have hp:∀(j:Nat) q,(parts.toList.map λq=>(q.1,E q.2))[j]? =some q->∃v,(parts.toList.map λq=>(q.1,bH V q.2))[j]? =some (q.1,v)/\aR ρ C q.2 v:=by
  intro j q hj;rw[gS]at hj|-;cases hq:parts.toList[j]? with
  |none=>grind
  |some q'=>
   rw[hq]at hj;simp only[eE,fm]at hj;subst hj;refine⟨bH V q'.2,rfl,hE q'.2 ?_⟩;simp only[cX];grind
 obtain⟨vs,f1,f2,f3⟩:=EW _ (parts.toList.map λq=>(q.1,bH V q.2)) _ l zv.cells.toList hl (by simp) hp (tz _) hone;have hb:P.built t (parts.map λq=>(q.1,bH V q.2)).toList=some vs.toArray:=by
  unfold Program.built;rw[hi];unfold Fx at hpo;unfold Gi at f1;cases hu:P.underlying t with
  |none=>grind
  |some d=>
   rw[hu]at hpo f1;cases d<;>first|(cases hpo;done)|skip
   case struct fs=>
    dsimp only at hpo f1|-;rw[hiz,LB _ hpo];simp_all
   case array m e=>
    dsimp only at hpo f1|-;obtain⟨ie,hie⟩:=pB.1 hpo;rw[hiz,hie];rw[<-f1];simp[aZ,hie]
 refine⟨.agg vs.toArray,?_,z6 f2 f3⟩;unfold execOp;rw[ho];simp only[cg,run_build w t _ _ hb,cl,dc]
def xw.mono{C0:bE}{B:Nat}{ρ ρ':Ren}{C C':bE}{w w':World}{c:Nat}{o:Ob}(h:xw C0 B ρ C w c o)(hext:∀s q,ρ s=some q->ρ' s=some q)(hC:∀b o x,C b o x->C' b o x)
  (hm:∀es clock,o.ty=1->w.heap[c]? =some (wD es clock)->w'.heap[c]? =w.heap[c]?):xw C0 B ρ' C' w' c o:=by
 rcases h with⟨h0,h1,h2⟩|⟨h0,hB,es,clock,h1,h2⟩
 .exact .inl ⟨h0,λi x hi v hv=>aR.mono hext hC x v (h1 i x hi v hv),h2⟩
 .exact .inr ⟨h0,hB,es,clock,by grind,ag.mono hext hC _ _ h2⟩
def StR.stepG{C0:bE}{ρ ρ':Ren}{g:Nat->Option Ob}{w w':World}{B:Nat}{W:List (Nat×Option Ob)}(hs:StR C0 ρ g w B)
  (hρ:∀s o,W.lookup s=none->g s=some o->ρ' s=ρ s) (hext:∀s q,ρ s=some q->ρ' s=some q)
  (hmono:∀b o x,bC C0 B w ρ g b o x->bC C0 B w' ρ' (ai g W) b o x)
  (hold:∀s o b c,W.lookup s=none->g s=some o->ρ s=some (some b,c)->w'.heap[b]? =w.heap[b]?)
  (hmap:∀(s:Nat) (o:Ob) (c:Nat) es clock,W.lookup s=none->g s=some o->o.esz=0->o.ty=1->ρ s=some (none,c)->w.heap[c]? =some (wD es clock)->w'.heap[c]? =w.heap[c]?)
  (hnew:∀s o,W.lookup s=some (some o)->∃q c,ρ' s=some (q,c)/\((q=none/\o.esz≠0/\o.cells=[]/\c=0)\/(q=none/\o.esz=0/\xw C0 B ρ' (bC C0 B w' ρ' (ai g W)) w' c o/\
     (∀s' o' c',s'≠s->ai g W s'=some o'->o'.esz=0->ρ' s'=some (none,c')->¬rN o c o' c'))\/∃b arr,q=some b/\B<=b/\ObRep ρ' (bC C0 B w' ρ' (ai g W)) w' b c o arr/\
    ∀s' o' c',s'≠s->ai g W s'=some o'->ρ' s'≠some (some b,c'))):StR C0 ρ' (ai g W) w' B:=by
 refine⟨?_,?_,?_⟩
 .intro s ob hob;unfold ai at hob;split at hob
  .grind
  .rename_i hx;obtain⟨q,c,h1,⟨h2,h3|⟨h3,h4⟩⟩|⟨b,arr,h2,h3,h4⟩⟩:=hs.ob s ob hob
   .grind
   .refine⟨q,c,by grind,.inl ⟨h2,.inr ⟨h3,h4.mono hext hmono ?_⟩⟩⟩;grind
   .refine⟨q,c,by grind,.inr ⟨b,arr,h2,h3,?_,h4.box,h4.row,?_⟩⟩
    .subst h2;rw[hold s ob b c hx hob h1];exact h4.blk
    .intro i x hi;obtain⟨v,g1,g2,g3⟩:=h4.cells i x hi;exact⟨v,g1,g2,aR.mono hext hmono x v g3⟩
 .intro s s' ob ob' b c c' h1 h2 h3 h4;by_cases hss:s=s'
  .exact hss
  have k1:=h1;have k2:=h2;unfold ai at h1 h2;split at h1
  .grind
  .rename_i hx;split at h2
   .grind
   .rename_i hx2;exact hs.inj s s' ob ob' b c c' h1 h2 (by grind) (by grind)
 .intro s s' ob ob' c c' h1 h2 m1 m2 h3 h4 hT;by_cases hss:s=s'
  .exact hss
  have k1:=h1;have k2:=h2;unfold ai at h1 h2;split at h1
  .grind
  .rename_i hx;split at h2
   .rename_i x hx2;subst h2;obtain⟨q,c2,e1,⟨_,e2,_⟩|⟨e2,_,_,e5⟩|⟨b2,arr,e2,_,_,_⟩⟩:=hnew s' ob' hx2
    .omega
    .rw[h4]at e1;cases e1;exact absurd hT.symm (by grind)
    grind
   .rename_i hx2;exact hs.mpi s s' ob ob' c c' h1 h2 m1 m2 (by grind) (by grind) hT
def StR.step{C0:bE}{ρ ρ':Ren}{g:Nat->Option Ob}{w w':World}{B:Nat}{W:List (Nat×Option Ob)}(hs:StR C0 ρ g w B)
  (hρ:∀s o,W.lookup s=none->g s=some o->ρ' s=ρ s) (hext:∀s q,ρ s=some q->ρ' s=some q)
  (hmono:∀b o x,bC C0 B w ρ g b o x->bC C0 B w' ρ' (ai g W) b o x)
  (hold:∀s o b c,W.lookup s=none->g s=some o->ρ s=some (some b,c)->w'.heap[b]? =w.heap[b]?)
  (hnew:∀s o,W.lookup s=some (some o)->∃q c,ρ' s=some (q,c)/\((q=none/\o.esz≠0/\o.cells=[]/\c=0)\/∃b arr,q=some b/\B<=b/\ObRep ρ' (bC C0 B w' ρ' (ai g W)) w' b c o arr/\
    ∀s' o' c',s'≠s->ai g W s'=some o'->ρ' s'≠some (some b,c')))
  (hmap:∀(c:Nat) es clock,w.heap[c]? =some (wD es clock)->w'.heap[c]? =w.heap[c]?):StR C0 ρ' (ai g W) w' B:=
 hs.stepG hρ hext hmono hold (by grind) (by grind)
def qz{w:World}{c:Nat}{es:Array MapEntry}{clock:Nat}(h:w.heap[c]? =some (wD es clock)):c<w.heap.size:=by grind
def uo{w:World}{b c:Nat}{es:Array MapEntry}{clock:Nat}{arr:Array Value}{t:TypeId}{q:Nat×Nat}(h:w.heap[c]? =some (wD es clock))(hb:w.heap[b]? =some (.cells arr t q)):c≠b:=by grind
def bT.alloc{r:AV}{ob:Ob}(h:∀(ρ:Ren) (C:bE) (V:Nat->Value) (w:World),(∀x∈o.op.operands.toList,aR ρ C (E x) (bH V x))->
  ∃v arr c,(execOp (bH V) o).run P w= .ok (.value v) (w.alloc (.cells arr ob.ty))/\(ob.esz=0->arr.size=ob.cells.length)/\(ob.esz≠0->arr.size=c*ob.esz/\ob.cells.length<=arr.size/\c<=maxLen)/\
   ag ρ C ob.cells (arr.toList.take ob.cells.length)/\gg arr.toList/\∀(ρ':Ren) (C':bE),ρ' (sit n 0)=some (some w.heap.size,c)->aR ρ' C' r v):bT P o E σ n r [] [(sit n 0,some ob)] :=by
 intro C0 ρ g V w B hs hB _ hn hgn hE;have hcl:∀s,cls s≠n->s≠sit n 0:=λs h e=>h (by rw[e];exact iE n 0);generalize sit n 0=m at*;obtain⟨v,arr,c,hrun,h1,h2,h3,h4,h5⟩:=h ρ _ V w hE;unfold cJ;rw[hrun];have hblk:(w.alloc (.cells arr ob.ty)).heap[w.heap.size]? =some (.cells arr ob.ty (0,0)):=heap_alloc_new w _
 let ρ':Ren:=λs=>if s=m then some (some w.heap.size,c)else ρ s
 have hext:∀s q,ρ s=some q->ρ' s=some q:=by intro s q hq;show(if s=m then _ else _)=_;rw[if_neg (by grind)];exact hq
 have hlt:∀s ob b c,g s=some ob->ρ s=some (some b,c)->b<w.heap.size:=by intro s ob b c e1 e2;obtain⟨_,arr,e3⟩:=hs.at e1 e2;exact e3.lt
 have hold:∀b,b<w.heap.size->(w.alloc (.cells arr ob.ty)).heap[b]? =w.heap[b]? :=λb hb=>Below.heap_alloc w _ b hb;have hlk:∀s,s≠m->[(m,some ob)].lookup s=none:=by intro s hs;simp[hZ,beq_eq_false_iff_ne.2 hs]
 have hup:∀s,s≠m->ai g [(m,some ob)] s=g s:=by intro s hs;unfold ai;rw[hlk s hs]
 have hmono:∀b o' x,bC C0 B w ρ g b o' x->bC C0 B (w.alloc (.cells arr ob.ty)) ρ' (ai g [(m,some ob)]) b o' x:=by
  intro b o' x ⟨e1,e2,e0⟩;have hb:b<w.heap.size:=jp w ⟨b,o',none⟩ e1;refine⟨(jA (hold b hb)).trans e1,?_,e0⟩;intro s c' e3;by_cases e:s=m
  .grind
  .grind
 refine⟨ρ',by grind,hmono,?_,by grind,(Below.refl B w).alloc hB _⟩;refine hs.step ?_ hext hmono ?_ ?_ (by grind)
 .grind
 .grind
 .intro s ob' e;have e1:s=m:=by
   rcases pD s m with h|h
   .grind
   .exact h
  subst e1;have e2:ob'=ob:=by simp[hZ]at e;exact e.symm
  subst e2;refine⟨some w.heap.size,c,by simp[ρ'],.inr ⟨w.heap.size,arr,rfl,hB,⟨hblk,h1,h2,?_⟩,?_⟩⟩
  .intro i x hi;obtain⟨u,g1,g2⟩:=h3.get _ _ i x hi;rw[o5]at g1;split at g1
   .refine⟨u,by grind,h4 u (by grind),aR.mono hext hmono x u g2⟩
   .cases g1
  grind
def Pn(P:Program)(n:Nat)(t:TypeId)(K:Res):Prop:=∃z,pp P t=some z/\po P t=true/\K (.ptr (sit n 0) 0) [] [(sit n 0,some ⟨t,0,z⟩)]
def XB{t:TypeId}(ho:o.op= .alloc t){K:Res}(h:Pn P n t K):∃r R W,bT P o E σ n r R W/\K r R W:=by
 obtain⟨z,hz,hz1,hK⟩:=h;refine⟨_,_,_,bT.alloc ?_,hK⟩;intro ρ C V w hE;obtain⟨i,zv,hi,hiz,hsz,hone,rfl⟩:=xE hz hz1;refine⟨.pointer (some ⟨w.heap.size,0,none⟩),zv.cells,0,?_,λ_=>by simp,by grind,?_,hone,λρ' C' h=> ?_⟩
 .unfold execOp;rw[ho];simp[Instr.alloc,zeroValue,typeInfo,hi,hiz,newVar,newRow]
 .rw[ip (by simp)];exact tz _
 .unfold aR;grind
def SN(n:Nat)(t:TypeId)(x:AV)(K:Res):Prop:=∃l,lM x=some l/\K (.ptr (sit n 0) 0) [] [(sit n 0,some ⟨t,0,l⟩)]
def Z9{t:TypeId}{x:Operand}(ho:o.op= .box t x){K:Res}(h:SN n t (E x) K):∃r R W,bT P o E σ n r R W/\K r R W:=by
 obtain⟨l,hl,hK⟩:=h;refine⟨_,_,_,bT.alloc ?_,hK⟩;intro ρ C V w hE;obtain⟨h1,h2⟩:=Dt hl (hE x (by rw[ho];simp[cX]));have h3:=h1.length;refine⟨.pointer (some ⟨w.heap.size,0,none⟩),(bH V x).cells,0,?_,λ_=>by omega,by grind,?_,h2,λρ' C' h=> ?_⟩
 .unfold execOp;rw[ho];simp[Instr.box,newVar,newRow]
 .grind
 .unfold aR;grind
def mO:Nat->List AV->List AV
 |0,_=>[]
 |m+1,z=>z++mO m z
def O2(P:Program)(n:Nat)(t:TypeId)(len:Nat)(parts:List (Nat×AV))(K:Res):Prop:=∃e z,dC P t=some e/\pp P e=some z/\po P e=true/\z≠[]/\len*aZ P e<=1000000/\
 ∃l,nK (λi=>some (i*aZ P e,aZ P e)) (mO len z) parts=some l/\K (.own (sit n 0) 0 len) [] [(sit n 0,some ⟨e,aZ P e,l⟩)]
def DP(z:List AV):∀m,(mO m z).length=m*z.length
 |0=>by simp[mO]
 |m+1=>by simp[mO,DP z m,y5];omega
def MQ(zv:Array Value)(_hz:0<zv.size)(m:Nat):((Il (m*zv.size)).map (λj=>zv[j % zv.size]!)).toList=(cS m zv.toList).flatten:=by
 apply List.ext_getElem?;induction m with
 |zero=>simp
 |succ m ih=>
  intro i;rw[wF,mX];by_cases hi:i<zv.size
  .rw[mW (by omega)];have h1:i<(m+1)*zv.size:=by rw[y5];omega
   simp[h1,dp hi,hi]
  .rw[kW (by simp;omega)];have e1:(i-zv.size) % zv.size=i % zv.size:=by
    conv=>rhs;rw[show i=(i-zv.size)+zv.size by omega,oj]
   grind
def D9{ρ:Ren}{C:bE}(zs:List Value):∀m,ag ρ C (mO m (zs.map kO)) (cS m zs).flatten
 |0=>by rfl
 |m+1=>by
  rw[wF,mX,mO];have ih:=D9 (ρ:=ρ) (C:=C) zs m;refine ag.of _ _ (by simp[ih.length]) λi x hi=> ?_;by_cases h:i<(zs.map kO).length
  .rw[mW h]at hi;rw[mW (by simpa using h)];exact(tz zs).get _ _ i x hi
  .rw[kW (by omega)]at hi;have:=ih.get _ _ _ x hi;grind
def VU{t:TypeId}{len:Nat}{parts:Array (Nat×Operand)}(ho:o.op= .buildSlice t len parts){K:Res}(h:O2 P n t len (parts.toList.map λq=>(q.1,E q.2)) K):∃r R W,bT P o E σ n r R W/\K r R W:=by
 obtain⟨e,z,he,hz,hz1,hne,hlen,l,hl,hK⟩:=h;refine⟨_,_,_,bT.alloc ?_,hK⟩;intro ρ C V w hE;obtain⟨i,zv,hi,hiz,hsz,hone,rfl⟩:=xE hz hz1;have hsize:aZ P e=zv.cells.size:=by simp[aZ,hi,hsz]
 have hpos:0<zv.cells.size:=by
  rcases qN zv.cells.size with h|h
  .grind
  .exact h
 have hp:∀(j:Nat) q,(parts.toList.map λq=>(q.1,E q.2))[j]? =some q->∃v,(parts.toList.map λq=>(q.1,bH V q.2))[j]? =some (q.1,v)/\aR ρ C q.2 v:=by
  intro j q hj;rw[gS]at hj|-;cases hq:parts.toList[j]? with
  |none=>grind
  |some q'=>
   rw[hq]at hj;simp only[eE,fm]at hj;subst hj;refine⟨bH V q'.2,rfl,hE q'.2 ?_⟩;simp only[cX];grind
 have hones:gg (cS len zv.cells.toList).flatten:=by intro u hu;simp only[kY,Si]at hu;obtain⟨l',⟨_,rfl⟩,hu⟩:=hu;exact hone u hu
 obtain⟨vs,f1,f2,f3⟩:=EW _ (parts.toList.map λq=>(q.1,bH V q.2)) _ l _ hl (by simp) hp (D9 _ len) hones;have hl2:=f2.length;have hl3:l.length=len*aZ P e:=by
  have:∀(parts:List (Nat×AV)) (cs res:List AV),nK (λi=>some (i*aZ P e,aZ P e)) cs parts=some res->res.length=cs.length:=by
   intro parts;induction parts with
   |nil=>intro cs res h;simp[nK]at h;rw[h]
   |cons q parts ih=>
    intro cs res h;unfold nK at h;split at h
    .split at h
     .rw[ih _ _ h,zO]
     .cases h
    .cases h
  rw[this _ _ _ hl,DP,db,y4,hsize]
 refine⟨.slice (some ⟨w.heap.size,0,none⟩) len len,vs.toArray,len,?_,λh=>by omega,λ_=> ?_,?_,by omega,λρ' C' h=> ?_⟩
 .unfold execOp;rw[ho];have e1:¬(len*aZ P e>2^24):=by omega
  have e2:((parts.map λq=>(q.1,bH V q.2)).toList)=(parts.toList.map λq=>(q.1,bH V q.2)):=by simp
  have e3:∀w:World,(sizeOf e).run P w= .ok (aZ P e) w:=λw=>by simp[sizeOf,typeInfo,hi,aZ]
  have e4:∀w:World,(zeroValue e).run P w= .ok zv w:=λw=>by simp[zeroValue,typeInfo,hi,hiz]
  by_cases h0:len*aZ P e=0
  .have hl0:len=0:=by
    rcases Ij.1 h0 with h|h
    .exact h
    .omega
   subst hl0;simp only[List.replicate_zero,List.flatten_nil]at f1;simp only[Instr.buildSlice,cg,run_underlying (lC he),cl,e3,Nat.zero_mul,if_neg (show¬(0:Nat)>2^24 by omega),if_true,dc];have e6:(Il 0).map (λx=>(#[] :Array Value)[x % (#[] :Array Value).size]!)= #[] :=by simp
   rw[e6,e2];rw[f1];simp[newRow]
  .have e5:(Il (len*aZ P e)).map (λj=>zv.cells[j % zv.cells.size]!)=(cS len zv.cells.toList).flatten.toArray:=by rw[hsize];apply pC.1;rw[MQ zv.cells hpos len]
   simp only[Instr.buildSlice,cg,run_underlying (lC he),cl,e3,if_neg e1,if_neg h0,e4,dc,e5,e2,f1];simp[newRow]
 .refine⟨?_,?_,?_⟩
  .simp;omega
  .simp;omega
  .have:len<=len*aZ P e:=Sj _ (by omega);unfold maxLen;omega
 .grind
 .unfold aR;grind
end
end
section
section
variable {P:Program} {o:Oper} {E:Operand->AV} {σ:Nat->Option Ob} {n:Nat}
def MD:∀(l cs:List AV) (off:Nat),off+l.length<=cs.length->∀(i:Nat) x,(gX cs off l)[i]? =some x->(off<=i/\l[i-off]? =some x)\/((i<off\/off+l.length<=i)/\cs[i]? =some x)
 |[],cs,off,_,i,x,h=>by
  simp only[gX]at h;grind
 |y::l,cs,off,hl,i,x,h=>by
  simp only[gu]at hl;rcases MD l (cs.set off y) (off+1) (by simp;omega) i x h with⟨h1,h2⟩|⟨h1,h2⟩
  .grind
  grind
def uk(P:Program)(t:TypeId)(σ:Nat->Option Ob)(a v:AV)(K:Res):Prop:=match a with
 | .ptr s off=>∃ob l,σ s=some ob/\lM v=some l/\l.length=aZ P t/\(P.info? t).isSome=true/\off+l.length<=ob.cells.length/\K .undef [s] [(s,some ⟨ob.ty,ob.esz,gX ob.cells off l⟩)]
 |_=>False
def Vg{t:TypeId}{a x:Operand}(ho:o.op= .store t a x){K:Res}(h:uk P t σ (E a) (E x) K):∃r R W,bT P o E σ n r R W/\K r R W:=by
 unfold uk at h;split at h
 case h_2=>exact h.elim
 rename_i s off ea;obtain⟨ob,l,hob,hl,hsz,ht,hoff,hK⟩:=h;refine⟨_,_,_,?_,hK⟩;intro C0 ρ g V w B hs hB hR hn hgn hE;have g1:=hE a (by rw[ho];simp[cX]);rw[ea]at g1;obtain⟨b,c,hρ,hv⟩:=g1;have hgs:g s=some ob:=by grind
 obtain⟨hBb,arr,hO⟩:=hs.at hgs hρ;obtain⟨r1,r2⟩:=Dt hl (hE x (by rw[ho];simp[cX]));have hlen:=r1.length;have hle:ob.cells.length<=arr.size:=by
  by_cases hz:ob.esz=0
  .rw[hO.box hz];omega
  .exact(hO.row hz).2.1
 have hst:=run_storeCells_at P b off ob.ty (bH V x).cells.toList 0 arr w hO.blk (by omega) r2;obtain⟨i,hi⟩:=pB.1 ht;have hsi:(bH V x).cells.size=i.size:=by
  have:aZ P t=i.size:=by simp[aZ,hi]
  rw[<-y4,hlen,hsz,this]
 unfold cJ execOp;simp only[ho,hv,Instr.storeAt,Cn,storeVar,sizeOf,typeInfo,cg,dc,cl,run_program,hi,if_neg (show¬(bH V x).cells.size≠i.size from λh=>h hsi),hst];simp only[Nat.add_zero];generalize hvs:(bH V x).cells.toList=vs at*;have hblk:(w.setRow b (arr.toList.take off++vs++arr.toList.drop (off+vs.length)).toArray).heap[b]? =some (.cells (arr.toList.take off++vs++arr.toList.drop (off+vs.length)).toArray ob.ty (0,0)):=setRow_heap w b arr _ ob.ty _ hO.blk;have hold:∀k,k≠b->(w.setRow b (arr.toList.take off++vs++arr.toList.drop (off+vs.length)).toArray).heap[k]? =w.heap[k]? :=by intro k hk;unfold World.setRow;simp only[If];rw[if_neg (by grind)]
 have hsize:(w.setRow b (arr.toList.take off++vs++arr.toList.drop (off+vs.length)).toArray).heap.size=w.heap.size:=by unfold World.setRow;simp
 have hlk:∀s',s'≠s->[(s,some (⟨ob.ty,ob.esz,gX ob.cells off l⟩:Ob))].lookup s'=none:=by intro s' hs';simp[hZ,beq_eq_false_iff_ne.2 hs']
 have hup:∀s',s'≠s->ai g [(s,some ⟨ob.ty,ob.esz,gX ob.cells off l⟩)] s'=g s':=by intro s' hs';unfold ai;rw[hlk s' hs']
 have hmono:∀b' o' x,bC C0 B w ρ g b' o' x->bC C0 B (w.setRow b (arr.toList.take off++vs++arr.toList.drop (off+vs.length)).toArray) ρ (ai g [(s,some ⟨ob.ty,ob.esz,gX ob.cells off l⟩)]) b' o' x:=by
  intro b' o' x ⟨e1,e2,e0⟩;have hne:b'≠b:=λe=>by grind
  refine⟨(jA (hold b' hne)).trans e1,?_,e0⟩;intro s' c' e3;by_cases e:s'=s
  .grind
  .grind
 refine⟨ρ,λ_ _=>rfl,hmono,?_,by rfl,⟨rfl,rfl,rfl,by omega,by grind⟩⟩;refine hs.step (by grind) (λ_ _ h=>h) hmono ?_ ?_ λk es clock hk=>hold k (uo hk hO.blk)
 .intro s' o' b' c' e1 e2 e3;refine hold b' λe=> ?_;subst e;have:=hs.inj s s' ob o' b' c c' hgs e2 hρ e3;grind
 .intro s' o' e;have e1:s'=s:=by
   rcases pD s' s with h|h
   .grind
   .exact h
  subst e1;have e2:o'=⟨ob.ty,ob.esz,gX ob.cells off l⟩:=by simp[hZ]at e;exact e.symm
  subst e2;have hasz:(arr.toList.take off++vs++arr.toList.drop (off+vs.length)).toArray.size=arr.size:=by simp[lm];omega
  refine⟨some b,c,hρ,.inr ⟨b,_,rfl,hBb,⟨hblk,?_,?_,?_⟩,?_⟩⟩
  .intro hz;rw[hasz,hO.box hz];exact(zO _ _ _).symm
  .intro hz;obtain⟨k1,k2,k3⟩:=hO.row hz;rw[hasz];exact⟨k1,by rw[zO];exact k2,k3⟩
  .intro j y hj;rcases MD l ob.cells off hoff j y hj with⟨h1,h2⟩|⟨h1,h2⟩
   .obtain⟨u,k1,k2⟩:=r1.get _ _ _ y h2;refine⟨u,?_,r2 u (by grind),aR.mono (λ_ _ h=>h) hmono y u k2⟩;grind
   .obtain⟨u,k1,k3,k2⟩:=hO.cells j y h2;refine⟨u,?_,k3,aR.mono (λ_ _ h=>h) hmono y u k2⟩;grind
  .intro s2 o' c' hne e3 e4;rw[hup s2 hne]at e3;exact hne (hs.inj s' s2 ob o' b c c' hgs e3 hρ e4).symm
def B9(P:Program)(e:TypeId):Bool:=((P.info? e).bind λi=>i.zero.map λz=>z.cells.size==i.size&&decide (0<i.size)&&decide (i.bytes<=1000000)).getD false
def Hf(σ:Nat->Option Ob)(e:TypeId)(esz:Nat)(x:AV)(K:Nat->List AV->List Nat->Prop):Prop:=match x with
 | .nil=>K 0 [] []
 | .own s 0 k=>∃ob,σ s=some ob/\ob.ty=e/\ob.esz=esz/\ob.cells.length=k*esz/\K k ob.cells [s]
 |_=>False
def Bm(σ:Nat->Option Ob)(esz:Nat)(y:AV)(K:Nat->List AV->List Nat->Prop):Prop:=match y with
 | .nil=>K 0 [] []
 | .p (.sl m cs)=>cs.length=m*esz/\K m (cs.map .p) []
 | .own s o m=>∃ob l,σ s=some ob/\(ob.cells.drop o).take (m*esz)=l/\l.length=m*esz/\K m l [s]
 |_=>False
def yk(P:Program)(n:Nat)(t:TypeId)(σ:Nat->Option Ob)(x y:AV)(K:Res):Prop:=∃e,dC P t=some e/\B9 P e=true/\
 Hf σ e (aZ P e) x λk cs R1=>Bm σ (aZ P e) y λm cs' R2=>k+m<=1000000/\
  K (.own (sit n 0) 0 (k+m)) (R1++R2) (R1.map (·,none)++[(sit n 0,some ⟨e,aZ P e,cs++cs'⟩)])
def cL.vals{C:bE}:∀(l:List PV) (b off:Nat),cL C l b off->∃vs:List Value,vs.length=l.length/\(∀(i:Nat) v,vs[i]? =some v->C b (off+i) v)/\ae C l vs/\gg vs
 |[],b,off,_=>⟨[],rfl,(by grind),by rfl,λu hu=>by cases hu⟩
 |x::l,b,off,h=>by
  obtain⟨⟨v,h1,h2,h3⟩,h4⟩:=h;obtain⟨vs,g1,g2,g3,g4⟩:=cL.vals l b (off+1) h4;refine⟨v::vs,by simp[g1],?_,?_,λu hu=>by rcases aj.1 hu with rfl|hu;exact h2;exact g4 u hu⟩
  .grind
  .unfold ae;grind
def ObRep.vals{ρ:Ren}{C:bE}{w:World}{b c:Nat}{ob:Ob}{arr:Array Value}(h:ObRep ρ C w b c ob arr):ag ρ C ob.cells (arr.toList.take ob.cells.length)/\gg (arr.toList.take ob.cells.length):=by
 have hle:ob.cells.length<=arr.size:=by
  by_cases hz:ob.esz=0
  .rw[h.box hz];omega
  .exact(h.row hz).2.1
 refine⟨ag.of _ _ (by simp;omega) λi x hi=> ?_,?_⟩
 .obtain⟨v,h1,_,h3⟩:=h.cells i x hi;grind
 .intro u hu;obtain⟨i,hi,he⟩:=List.getElem_of_mem hu;simp only[lm,y4]at hi;obtain⟨v,h1,h2,_⟩:=h.cells i ob.cells[i] (by grind);grind
def YN{C0:bE}{ρ:Ren}{g:Nat->Option Ob}{w:World}{B:Nat}(hs:StR C0 ρ g w B){e:TypeId}{esz:Nat}{x:AV}{v:Value}(hz:esz≠0)(hx:aR ρ (bC C0 B w ρ g) x v){k:Nat}{cs:List AV}{R:List Nat}
  (hd:(x= .nil/\k=0/\cs=[]/\R=[])\/∃s ob,x= .own s 0 k/\R=[s]/\g s=some ob/\ob.ty=e/\ob.esz=esz/\ob.cells.length=k*esz/\cs=ob.cells):
  ∃xs,w.ownsRow B e esz v k xs/\ag ρ (bC C0 B w ρ g) cs xs/\gg xs/\((v.ownBlock=none/\∀s∈R,∀b c,ρ s≠some (some b,c))\/∃s b c ob,R=[s]/\g s=some ob/\ρ s=some (some b,c)/\v.ownBlock=some b):=by
 rcases hd with⟨rfl,rfl,rfl,rfl⟩|⟨s,ob,rfl,rfl,h1,h2,h3,h4,rfl⟩
 .subst hx;exact⟨[],Im _ _ _ _,by rfl,(λu hu=>by cases hu),.inl ⟨rfl,by grind⟩⟩
 .obtain⟨q,c,hq,⟨rfl,hv,rfl,_⟩|⟨b,o',c',rfl,hv,h5,h6,h7⟩⟩:=hx
  .subst hv;have hc:ob.cells=[] :=by grind
   rw[hc];exact⟨[],Im _ _ _ _,by rfl,(λu hu=>by cases hu),.inl ⟨rfl,by grind⟩⟩
  .obtain⟨rfl,rfl⟩:=h7 rfl;obtain⟨hB,arr,hO⟩:=hs.at h1 hq;obtain⟨r1,r2⟩:=hO.vals;obtain⟨k1,k2,k3⟩:=hO.row (by omega);refine⟨_,⟨?_,.inr ⟨b,c',arr,hv,hB,?_,h5,k3,?_,?_⟩⟩,r1,r2,.inr ⟨s,b,c',ob,rfl,h1,hq,by rw[hv];rfl⟩⟩
   .grind
   .have:=hO.blk;grind
   .rw[k1,h3]
   .rw[h4]
def XR{C0:bE}{ρ:Ren}{g:Nat->Option Ob}{w:World}{B:Nat}(hs:StR C0 ρ g w B){esz:Nat}{y:AV}{v:Value}(hy:aR ρ (bC C0 B w ρ g) y v){m:Nat}{cs:List AV}
  (hd:(y= .nil/\m=0/\cs=[])\/(∃l,y= .p (.sl m l)/\l.length=m*esz/\cs=l.map .p)\/∃s o ob,y= .own s o m/\g s=some ob/\(ob.cells.drop o).take (m*esz)=cs/\cs.length=m*esz):
  ∃a c us,v= .slice a m c/\us.length=m*esz/\Rd w a us/\(a=none->c=0)/\ag ρ (bC C0 B w ρ g) cs us/\gg us:=by
 rcases hd with⟨rfl,rfl,rfl⟩|⟨l,rfl,hl,rfl⟩|⟨s,oo,ob,rfl,h1,h2,h3⟩
 .exact⟨none,0,[],hy,by simp,(λi u hi=>by simp at hi),λ_=>rfl,by rfl,λu hu=>by cases hu⟩
 .obtain⟨a,c,hv,h1,h2,h3⟩:=hy;cases a with
  |none=>
   obtain⟨rfl,rfl⟩:=h2 rfl;exact⟨none,0,[],hv,hl,(λi u hi=>by simp at hi),λ_=>rfl,by rfl,λu hu=>by cases hu⟩
  |some ad=>
   obtain⟨b,off,sp⟩:=ad;obtain⟨h4,h5⟩:=h3 _ rfl;rcases qN m with hm0|hm0
   .subst hm0;have hl0:_=[] :=mc.1 (by simpa using hl);subst hl0;exact⟨_,c,[],hv,by simp,(λi u hi=>by simp at hi),(by grind),by rfl,λu hu=>by cases hu⟩
   have h4:=h4 hm0;subst h4;obtain⟨vs,k1,k2,k3,k4⟩:=h5.vals;refine⟨_,c,vs,hv,by omega,?_,(by grind),k3.toA,k4⟩;intro i u hi;have:=k2 i u hi;exact⟨b,off,rfl,jp w ⟨b,_,none⟩ this.1,this.1⟩
 .obtain⟨q,c,hq,⟨rfl,hv,rfl,rfl⟩|⟨b,o',c',rfl,hv,h5,h6,h7⟩⟩:=hy
  .have:cs=[] :=by grind
   subst this;exact⟨none,0,[],hv,by simp,(λi u hi=>by simp at hi),λ_=>rfl,by rfl,λu hu=>by cases hu⟩
  .obtain⟨hB,arr,hO⟩:=hs.at h1 hq;obtain⟨r1,r2⟩:=hO.vals;refine⟨_,c',((arr.toList.take ob.cells.length).drop oo).take (m*esz),hv,?_,?_,(by grind),by rw[<-h2];exact(r1.drop _).take _,λu hu=>r2 u (by grind)⟩
   .have:=r1.length;grind
   .intro i u hi;rw[o5]at hi;split at hi
    .rename_i hlt;have hm:m≠0:=by intro h;subst h;simp at hlt
     have e:=h6 hm;rw[vo,o5]at hi;split at hi
     .refine⟨b,o',rfl,hO.lt,?_⟩;rw[hO.cell];grind
     .cases hi
    .cases hi
def Tl{t t' ty e e':TypeId}(ht:P.underlying t=some (.slice e))(ht':P.underlying t'=some (.slice e'))(s x:Value)(w:World):
  (Builtin.append_ #[t,t'] ty #[s,x]).run P w=(Builtin.append_ #[t,t] ty #[s,x]).run P w:=by
 cases s<;>simp[Builtin.append_,run_underlying ht,run_underlying ht']
def aAd{x y:Operand}{t t':TypeId}(ht':(dC P t').isSome=true)(ho:o.op= .call {callee:= .builtin .append,args:= #[x,y],argTypes:= #[t,t']}){K:Res}(h:yk P n t σ (E x) (E y) K):∃r R W,bT P o E σ n r R W/\K r R W:=by
 obtain⟨e,he,hta,h⟩:=h;unfold B9 at hta;have hx:x∈o.op.operands.toList:=by rw[ho];simp[cX,jT]
 have hy:y∈o.op.operands.toList:=by rw[ho];simp[cX,jT]
 cases hi:P.info? e with
 |none=>grind
 |some i=>
 rw[hi]at hta;simp only[qS]at hta;cases hz:i.zero with
 |none=>grind
 |some z=>
 rw[hz]at hta;simp only[eE,ku,bn,beq_iff_eq,decide_eq_true_eq]at hta;obtain⟨⟨t1,t2⟩,t3⟩:=hta;have hesz:aZ P e=i.size:=by simp[aZ,hi]
 have hh:∃k cs R1 m cs' R2,((E x= .nil/\k=0/\cs=[]/\R1=[])\/∃s ob,E x= .own s 0 k/\R1=[s]/\σ s=some ob/\ob.ty=e/\ob.esz=aZ P e/\ob.cells.length=k*aZ P e/\cs=ob.cells)/\
   ((E y= .nil/\m=0/\cs'=[]/\R2=[])\/(∃l,E y= .p (.sl m l)/\l.length=m*aZ P e/\cs'=l.map .p/\R2=[])\/∃s o ob,E y= .own s o m/\σ s=some ob/\(ob.cells.drop o).take (m*aZ P e)=cs'/\cs'.length=m*aZ P e/\R2=[s])/\
   k+m<=1000000/\K (.own (sit n 0) 0 (k+m)) (R1++R2) (R1.map (·,none)++[(sit n 0,some ⟨e,aZ P e,cs++cs'⟩)]):=by
  have tl:∀k cs R1,Bm σ (aZ P e) (E y) (λm cs' R2=>k+m<=1000000/\K (.own (sit n 0) 0 (k+m)) (R1++R2) (R1.map (·,none)++[(sit n 0,some ⟨e,aZ P e,cs++cs'⟩)]))->
    ∃m cs' R2,((E y= .nil/\m=0/\cs'=[]/\R2=[])\/(∃l,E y= .p (.sl m l)/\l.length=m*aZ P e/\cs'=l.map .p/\R2=[])\/∃s o ob,E y= .own s o m/\σ s=some ob/\(ob.cells.drop o).take (m*aZ P e)=cs'/\cs'.length=m*aZ P e/\R2=[s])/\
    k+m<=1000000/\K (.own (sit n 0) 0 (k+m)) (R1++R2) (R1.map (·,none)++[(sit n 0,some ⟨e,aZ P e,cs++cs'⟩)]):=by
   intro k cs R1 h;unfold Bm at h;split at h
   .rename_i ey;exact⟨0,[],[],by grind,h⟩
   .grind
   .grind
   .exact h.elim
  unfold Hf at h;split at h
  .rename_i ex;obtain⟨m,cs',R2,h1,h2⟩:=tl _ _ _ h;exact⟨0,[],[],m,cs',R2,by grind,h1,h2⟩
  .obtain⟨ob,g1,g2,g3,g4,g5⟩:=h;obtain⟨m,cs',R2,h1,h2⟩:=tl _ _ _ g5;grind
  .exact h.elim
 obtain⟨k,cs,R1,m,cs',R2,hd1,hd2,hkm,hK⟩:=hh;refine⟨_,_,_,?_,hK⟩;intro C0 ρ g V w B hs hB hR hn hgn hE;have hn:=hn _ (iE n 0);have hgn:=hgn _ (iE n 0);have hcl:∀s,cls s≠n->s≠sit n 0:=λs h e=>h (by rw[e];exact iE n 0);have hd1':(E x= .nil/\k=0/\cs=[]/\R1=[])\/∃s ob,E x= .own s 0 k/\R1=[s]/\g s=some ob/\ob.ty=e/\ob.esz=aZ P e/\ob.cells.length=k*aZ P e/\cs=ob.cells:=by
  rcases hd1 with h|⟨s,ob,h1,h2,h3,h4⟩
  .exact .inl h
  .grind
 have hd2':(E y= .nil/\m=0/\cs'=[])\/(∃l,E y= .p (.sl m l)/\l.length=m*aZ P e/\cs'=l.map .p)\/∃s o ob,E y= .own s o m/\g s=some ob/\(ob.cells.drop o).take (m*aZ P e)=cs'/\cs'.length=m*aZ P e:=by
  rcases hd2 with⟨h1,h2,h3,_⟩|⟨l,h1,h2,h3,_⟩|⟨s,oo,ob,h1,h2,h3,h4,h5⟩
  .grind
  .grind
  .grind
 obtain⟨xs,hown,q1,q2,hsep⟩:=YN hs (by omega) (hE x hx) hd1';obtain⟨a,c,us,hyv,p1,p2,p3,p4,p5⟩:=XR hs (hE y hy) hd2';have hlenx:xs.length=k*aZ P e:=hown.1;have hsuff:∀K0:Value->World->Prop,cJ P {o with op:= .call {callee:= .builtin .append,args:= #[x,y],argTypes:= #[t,t]}} V w K0->cJ P o V w K0:=by intro K0 h;obtain⟨e',he'⟩:=pB.1 ht';have hr:=Tl (ty:=o.type) (lC he) (lC he') (bH V x) (bH V y) w;unfold cJ execOp at*;simp only[ho,resolve,invoke,builtin,cg,dc,cl,Ii,cv,kZ]at*;rw[hr];exact h
 refine hsuff _ ?_;refine ED x y t rfl B e z (aZ P e) i.bytes (lC he) (by grind) (by rw[t1,hesz]) (by omega) _ k xs rfl hown a m c us hyv p1 p2 p3 p5 hkm t3 hB ?_;intro v' w' hown' hbel hgrow hblk;obtain⟨q',c',hq',hq2⟩:∃(q':Option Nat) (c':Nat),((q'=none/\v'= .slice none 0 0/\k+m=0/\c'=0/\xs++us=[])\/∃b' arr,q'=some b'/\v'= .slice (some ⟨b',0,none⟩) (k+m) c'/\B<=b'/\w'.heap[b']? =some (.cells arr e (0,0))/\k+m<=c'/\c'<=maxLen/\arr.size=c'*aZ P e/\arr.toList.take ((k+m)*aZ P e)=xs++us)/\True:=by
  obtain⟨o1,⟨h1,h2⟩|⟨b',c',arr,h1,h2,h3,h4,h5,h6,h7⟩⟩:=hown'
  .exact⟨none,0,.inl ⟨rfl,h1,h2,rfl,mc.1 (by grind)⟩,trivial⟩
  .exact⟨some b',c',by grind,trivial⟩
 clear hq2;generalize hnS:sit n 0=nS at*
 let ρ':Ren:=λs=>if s=nS then some (q',c')else ρ s
 let W:List (Nat×Option Ob):=R1.map (·,none)++[(nS,some ⟨e,aZ P e,cs++cs'⟩)]
 show∃ρ'':Ren,(∀s,cls s≠n->ρ'' s=ρ s)/\(∀b o' x,bC C0 B w ρ g b o' x->bC C0 B w' ρ'' (ai g W) b o' x)/\StR C0 ρ'' (ai g W) w' B/\aR ρ'' (bC C0 B w' ρ'' (ai g W)) (.own nS 0 (k+m)) v'/\Below B w w';have hext:∀s q,ρ s=some q->ρ' s=some q:=by intro s q hq;show(if s=nS then _ else _)=_;rw[if_neg (by grind)];exact hq
 have hR1:∀s∈R1,s≠nS:=by
  intro s hs' e;rcases hd1' with⟨_,_,_,h⟩|⟨s',ob,_,h1,h2,_⟩
  .grind
  .grind
 have hlkn:W.lookup nS=some (some ⟨e,aZ P e,cs++cs'⟩):=by
  rcases hd1' with⟨_,_,_,h⟩|⟨s',ob,_,h1,h2,_⟩
  .simp[W,h]
  .grind
 have hlkR:∀s,s∈R1->W.lookup s=some none:=by
  intro s hs';rcases hd1' with⟨_,_,_,h⟩|⟨s',ob,_,h1,h2,_⟩
  .grind
  .grind
 have hlk:∀s,s≠nS->s∉R1->W.lookup s=none:=by
  intro s h1 h2;rcases hd1' with⟨_,_,_,h⟩|⟨s',ob,_,h3,_⟩
  .grind
  .grind
 have hupR:∀s,s∈R1->ai g W s=none:=by intro s h;unfold ai;rw[hlkR s h]
 have hup:∀s,s≠nS->s∉R1->ai g W s=g s:=by intro s h1 h2;unfold ai;rw[hlk s h1 h2]
 have hrow:∀s ob b c,g s=some ob->ρ s=some (some b,c)->s∉R1->some b≠(bH V x).ownBlock:=by
  intro s ob b c e1 e2 e3 e4;rcases hsep with⟨h1,_⟩|⟨s',b',c2,ob',h1,h2,h3,h4⟩
  .grind
  .rw[h4]at e4;cases e4;have:=hs.inj s s' ob ob' b c c2 e1 h2 e2 h3;grind
 have hlt:∀s ob b c,g s=some ob->ρ s=some (some b,c)->b<w.heap.size:=by intro s ob b c e1 e2;obtain⟨_,arr,e3⟩:=hs.at e1 e2;exact e3.lt
 have hmono:∀b o' x,bC C0 B w ρ g b o' x->bC C0 B w' ρ' (ai g W) b o' x:=by
  intro b o' x' ⟨e1,e2,e0⟩;have hb:b<w.heap.size:=jp w ⟨b,o',none⟩ e1;have hnr:some b≠(bH V x).ownBlock:=by
   intro e4;rcases hsep with⟨h1,_⟩|⟨s',b',c2,ob',h1,h2,h3,h4⟩
   .grind
   .grind
  refine⟨(jA (hgrow.block b hb hnr)).trans e1,?_,e0⟩;intro s c2 e3;by_cases e:s=nS
  .subst e;simp only[ρ',if_true]at e3;cases e3;rcases hq' with⟨h1,_⟩|⟨b',arr,h1,h2,_⟩
   .cases h1
   .cases h1;rcases hblk b (by rw[h2];rfl)with h3|h3
    .grind
    .omega
  .grind
 refine⟨ρ',by grind,hmono,?_,?_,hbel⟩
 .refine hs.step ?_ hext hmono ?_ ?_ λk es clock hk=>hgrow.block k (qz hk) ?_
  rotate_left 3
  .intro e4;rcases hsep with⟨h1,_⟩|⟨s',b',c2,ob',h1,h2,h3,h4⟩
   .grind
   .rw[h4]at e4;cases e4;obtain⟨_,arr,e5⟩:=hs.at h2 h3;exact uo hk e5.blk rfl
  .grind
  .intro s ob' b c2 e1 e2 e3;have e4:s∉R1:=λh=>by grind
   exact hgrow.block b (by grind) (by grind)
  .intro s ob' e1;have e2:s=nS:=by
    by_cases h1:s=nS
    .exact h1
    .grind
   subst e2;rw[hlkn]at e1;simp only[fm]at e1;subst e1;refine⟨q',c',by simp[ρ'],?_⟩;rcases hq' with⟨h1,h2,h3,h4,h5⟩|⟨b',arr,h1,h2,h3,h4,h5,h6,h7,h8⟩
   .refine .inl ⟨h1,by grind,?_,h4⟩;have l1:=q1.length;have l2:=p4.length;have l3:=congrArg fh h5;simp only[gi,List.length_nil]at l3;rw[List.append_eq_nil_iff];exact⟨mc.1 (by omega),mc.1 (by omega)⟩
   .refine .inr ⟨b',arr,h1,h3,⟨h4,by grind,λ_=>⟨h7,?_,h6⟩,?_⟩,?_⟩
    .have l1:=q1.length;have l2:=p4.length;rw[h7,gi,<-l1,<-l2,hlenx,p1,<-y5];exact Nat.mul_le_mul_right _ h5
    .intro j u hj;have l1:=q1.length;have hjj:∃v,(xs++us)[j]? =some v/\v.oneCell'=true/\aR ρ (bC C0 B w ρ g) u v:=by
      by_cases hlt2:j<cs.length
      .rw[mW hlt2]at hj;obtain⟨v,g1,g2⟩:=q1.get _ _ j u hj;exact⟨v,by grind,q2 v (by grind),g2⟩
      .rw[kW (by omega)]at hj;obtain⟨v,g1,g2⟩:=p4.get _ _ _ u hj;exact⟨v,by grind,p5 v (by grind),g2⟩
     obtain⟨v,g1,g2,g3⟩:=hjj;refine⟨v,?_,g2,aR.mono hext hmono u v g3⟩;grind
    .intro s' o' c2 hne e3 e4;have e5:s'∉R1:=λh=>by grind
     rcases hblk b' (by rw[h2];rfl)with h9|h9
     .grind
     grind
 .unfold aR;grind
end
end
section
def aBp(C0:bE)(B:Nat)(w:World):bE:=λb o v=>w.cell? ⟨b,o,none⟩=some v/\(B<=b\/C0 b o v)
def dj{α β:Type}(f:α->Option β):List α->Option (List β)
 |[] =>some []
 |x::l=>match f x,dj f l with
  |some y,some m=>some (y::m)
  |_,_=>none
def bL{α β:Type}(f:α->List β):List α->List β
 |[] =>[]
 |x::l=>f x++bL f l
def dI:Nat->(Nat->Option Ob)->AV->Option PV
 |_,_,.p x=>some x
 |_,_,.nil=>some (.sl 0 [])
 |d+1,σ,.own s o m=>(σ s).bind λob=>(dj (dI d σ) ob.cells).map λl=> .sl m ((l.drop o).take (m*ob.esz))
 |d+1,σ,.ptr s off=>(σ s).bind λob=>(dj (dI d σ) ob.cells).map λl=> .pro l off
 |d+1,σ,.agg l=>(dj (dI d σ) l).map .agg
 |d+1,σ,.fn f a b=>(dj (dI d σ) a).bind λx=>(dj (dI d σ) b).map λy=> .fn f x y
 |_,_,_=>none
def cK:Nat->(Nat->Option Ob)->AV->List Nat
 |0,_,_=>[]
 |d+1,σ,.own s _ _=>s::(match σ s with|some ob=>bL (cK d σ) ob.cells|none=>[])
 |d+1,σ,.ptr s _=>s::(match σ s with|some ob=>bL (cK d σ) ob.cells|none=>[])
 |d+1,σ,.agg l=>bL (cK d σ) l
 |d+1,σ,.fn _ a b=>bL (cK d σ) a++bL (cK d σ) b
 |_,_,_=>[]
def Gc(d:Nat)(σ:Nat->Option Ob)(x:PV):dI d σ (.p x)=some x:=by cases d<;>rfl
def sX(d:Nat)(σ:Nat->Option Ob):∀(l:List PV),dj (dI d σ) (l.map .p)=some l
 |[] =>rfl
 |x::l=>by simp only[cv,dj,Gc,sX d σ l]
def aAA(d:Nat)(σ:Nat->Option Ob)(x:PV):cK d σ (.p x)=[] :=by cases d<;>rfl
def pX(d:Nat)(σ:Nat->Option Ob):∀(l:List PV),bL (cK d σ) (l.map .p)=[]
 |[] =>rfl
 |x::l=>by simp only[cv,bL,aAA,pX d σ l,Ci]
def ng{α β:Type}{f:α->List β}{x:α}{y:β}:∀{l:List α},x∈l->y∈f x->y∈bL f l
 |a::l,h,hy=>by
  rcases aj.1 h with rfl|h
  .exact fT _ hy
  .exact fB _ (ng h hy)
def n7{α β:Type}{f:α->Option β}:∀{l:List α} {m:List β},dj f l=some m->l.length=m.length/\∀(i:Nat) x,l[i]? =some x->∃y,m[i]? =some y/\f x=some y
 |[],m,h=>by simp[dj]at h;grind
 |a::l,m,h=>by
  unfold dj at h;split at h
  .rename_i y r h1 h2;obtain⟨g1,g2⟩:=n7 h2;grind
  .cases h
section
variable {P:Program}
def Ep{C0:bE}{ρ:Ren}{g σ:Nat->Option Ob}{w:World}{B:Nat}(hs:StR C0 ρ g w B)(T:bE)(S:Nat->Prop)(hfull:∀b o v,bC C0 B w ρ g b o v->T b o v)(hT:∀s ob b c,S s->g s=some ob->ρ s=some (some b,c)->B<=b->∀o v,w.cell? ⟨b,o,none⟩=some v->T b o v):∀(d:Nat) (x:AV) (y:PV) (v:Value),dI d σ x=some y->(∀s∈cK d σ x,S s/\g s=σ s)->aR ρ (bC C0 B w ρ g) x v->aU T y v:=by
 intro d;induction d with
 |zero=>
  intro x y v h hr hx;unfold dI at h;split at h<;>first|(cases h;done)|skip
  .cases h;exact aU.mono hfull _ v hx
  .cases h;unfold aR at hx;unfold aU;grind
  all_goals (rename_i e;cases e)
 |succ d ih=>
  have ihL:∀(l:List AV) (m:List PV) (vs:List Value),dj (dI d σ) l=some m->(∀s∈bL (cK d σ) l,S s/\g s=σ s)->ag ρ (bC C0 B w ρ g) l vs->ae T m vs:=by
   intro l m vs h hr hv;obtain⟨h1,h2⟩:=n7 h;refine ae.of _ _ (by rw[<-h1];exact hv.length) λi y hi=> ?_;have hlt:i<l.length:=by rw[h1];grind
   obtain⟨y',h3,h4⟩:=h2 i l[i] (by grind);rw[hi]at h3;cases h3;obtain⟨v,h5,h6⟩:=hv.get _ _ i l[i] (by grind);exact⟨v,h5,ih _ _ v h4 (λs hs'=>hr s (ng (by grind) hs')) h6⟩
  have ihC:∀(s b c:Nat) (ob:Ob) (m:List PV),S s->g s=some ob->ρ s=some (some b,c)->dj (dI d σ) ob.cells=some m->(∀s∈bL (cK d σ) ob.cells,S s/\g s=σ s)->cL T m b 0:=by
   intro s b c ob m hS h1 h2 h3 h4;obtain⟨hBb,arr,hO⟩:=hs.at h1 h2;obtain⟨g1,g2⟩:=n7 h3;refine cL.of _ _ _ λi y hi=> ?_;have hlt:i<ob.cells.length:=by rw[g1];grind
   obtain⟨y',h5,h6⟩:=g2 i ob.cells[i] (by grind);rw[hi]at h5;cases h5;obtain⟨v,k1,k2,k3⟩:=hO.cells i ob.cells[i] (by grind);refine⟨v,?_,k2,ih _ _ v h6 (λs hs'=>h4 s (ng (by grind) hs')) k3⟩;refine hT s ob b c hS h1 h2 hBb _ _ ?_;rw[jo,hO.cell];exact k1
  intro x y v h hr hx;unfold dI at h;split at h
  .cases h;exact aU.mono hfull _ v hx
  .cases h;unfold aR at hx;unfold aU;grind
  .rename_i σ _ _ _ d' s o m e;cases e;simp only[qT,ll]at h;obtain⟨ob,h1,l,h2,rfl⟩:=h;have hg:g s=some ob:=(hr s (by simp[cK])).2.trans h1;have hSs:=(hr s (by simp[cK])).1;have hr2:∀s'∈bL (cK d σ) ob.cells,S s'/\g s'=σ s':=λs' hs'=>hr s' (by simp only[cK,h1];grind);unfold aU;obtain⟨q,c,hq,⟨rfl,hv,rfl,rfl⟩|⟨b,o',c',rfl,hv,h5,h6,h7⟩⟩:=hx
   .grind
   .refine⟨_,c',hv,h5,(by grind),λad e=> ?_⟩;cases e;by_cases hm:m=0
    .subst hm;simp;trivial
    .have e:=h6 hm;have:=((ihC s b c ob l hSs hg hq h2 hr2).drop o').take (m*ob.esz);grind
  .rename_i σ _ _ _ d' s off e;simp only[qT,ll]at h;obtain⟨ob,h1,l,h2,rfl⟩:=h;have hg:g s=some ob:=(hr s (by simp[cK])).2.trans h1;have hSs:=(hr s (by simp[cK])).1;have hr2:∀s'∈bL (cK d σ) ob.cells,S s'/\g s'=σ s':=λs' hs'=>hr s' (by simp only[cK,h1];grind);unfold aR at hx;unfold aU;grind
  .rename_i d' l e;cases e;simp only[ll]at h;obtain⟨m,h2,rfl⟩:=h;obtain⟨vs,h3,h4,h5⟩:=hx;exact⟨vs,h3,ihL l m vs h2 (λs hs'=>hr s hs') h4,h5⟩
  .rename_i d' f a b e;cases e;simp only[qT,ll]at h;obtain⟨x1,h1,x2,h2,rfl⟩:=h;obtain⟨vs1,vs2,h3,h4,h5⟩:=hx;exact⟨vs1,vs2,h3,ihL a x1 vs1 h1 (λs hs'=>hr s (fT _ hs')) h4,ihL b x2 vs2 h2 (λs hs'=>hr s (fB _ hs')) h5⟩
  .cases h
def je(P:Program)(f:FuncId):Bool:=((P.funcs[f]?).map λfn=> !(fn.name== "runtime.NumGoroutine")&& !fn.body.isNone).getD false
def Sat(P:Program)(fr:Bool)(f:FuncId)(A:List PV)(r:PV):Prop:=je P f=true/\
 ∀(C:bE) (w:World) (vs:List Value),(∀b o v,C b o v->w.cell? ⟨b,o,none⟩=some v)->ae C A vs->
  Calls P f vs.toArray w λe w'=>∃v,e= .returned v/\aU (λb o x=>(fr=false/\C b o x)\/(w.heap.size<=b/\w'.cell? ⟨b,o,none⟩=some x)) r v/\Below w.heap.size w w'
def ky{f:FuncId}(h:je P f=true)(args:Array Value)(w:World):(callFunc f args).run P w= .ok (.enter f args) w:=by
 unfold je at h;cases hf:P.funcs[f]? with
 |none=>grind
 |some fn=>
  rw[hf]at h;simp only[eE,ku,bn,Cc]at h;simp only[callFunc,cg,run_program,cl,hf,h.1,h.2,lc,if_false,dc]
structure Lent(C:bE)(w:World)(b c:Nat)(ty:TypeId)(esz:Nat)(cells:List PV)(arr:Array Value):Prop where
 blk:w.heap[b]? =some (.cells arr ty (0,0))
 box:esz=0->arr.size=cells.length
 row:esz≠0->arr.size=c*esz/\cells.length<=arr.size/\c<=maxLen
 cells:∀(i:Nat) x,cells[i]? =some x->∃v,arr[i]? =some v/\v.oneCell'=true/\aU C x v
def QC(n:Option Nat)(b c:Nat):Value:=match n with
 |none=> .pointer (some ⟨b,0,none⟩)
 |some n=> .slice (some ⟨b,0,none⟩) n c
def mS(P:Program)(f:FuncId)(n:Option Nat)(A:List PV)(ty:TypeId)(esz:Nat)(cells cells':List PV):Prop:=je P f=true/\cells'.length=cells.length/\
 (∀(C:bE) (w:World) (b c:Nat) (arr:Array Value) (vs:List Value),(∀b' o v,C b' o v->w.cell? ⟨b',o,none⟩=some v/\b'≠b)->Lent C w b c ty esz cells arr->(∀m,n=some m->m<=c)->ae C A vs->
   Calls P f (QC n b c::vs).toArray w λe w'=>∃arr',e= .returned Go.undef/\Lent C w' b c ty esz cells' arr'/\w.grownBy w' (some b))/\
 (n=some 0->∀(C:bE) (w:World) (vs:List Value),(∀b' o v,C b' o v->w.cell? ⟨b',o,none⟩=some v)->ae C A vs->
   Calls P f (.slice none 0 0::vs).toArray w λe w'=>e= .returned Go.undef/\Below w.heap.size w w')
def GC(P:Program)(σ:Nat->Option Ob)(f:FuncId)(avs:List AV)(K:Res):Prop:=match avs with
 | .ptr s 0::rest=>∃ty cells,σ s=some ⟨ty,0,cells.map .p⟩/\∃A cells',bK rest=some A/\mS P f none A ty 0 cells cells'/\K .undef [s] [(s,some ⟨ty,0,cells'.map .p⟩)]
 | .own s 0 n::rest=>∃ty esz cells,σ s=some ⟨ty,esz,cells.map .p⟩/\esz≠0/\∃A cells',bK rest=some A/\mS P f (some n) A ty esz cells cells'/\K .undef [s] [(s,some ⟨ty,esz,cells'.map .p⟩)]
 |_=>False
def Zp(P:Program)(σ:Nat->Option Ob)(f:FuncId)(avs:List AV)(K:Res):Prop:=
 ∃A,dj (dI 3 σ) avs=some A/\∃fr r,Sat P fr f A r/\(((fr=true\/bK avs=some A)/\K (.p r) (bL (cK 3 σ) avs) [])\/K (.p r) (bL (cK 3 σ) avs) ((bL (cK 3 σ) avs).map (·,none)))
def ph(P:Program)(σ:Nat->Option Ob)(f:FuncId)(avs:List AV)(K:Res):Prop:=Zp P σ f avs K\/GC P σ f avs K
def B7(P:Program)(σ:Nat->Option Ob)(fv:AV)(args:List AV)(K:Res):Prop:=match fv with
 | .fn (.func f) first caps=>ph P σ f (first++args++caps) K
 | .p (.fn (.func f) first caps)=>ph P σ f (first.map .p++args++caps.map .p) K
 |_=>False
variable {o:Oper} {E:Operand->AV} {σ:Nat->Option Ob} {n:Nat}
def ag.append{ρ:Ren}{C:bE}{l m:List AV}{vs us:List Value}(h:ag ρ C l vs)(k:ag ρ C m us):ag ρ C (l++m) (vs++us):=
 ag.of _ _ (by simp[h.length,k.length]) λi x hi=>by
  have hl:=h.length;by_cases hlt:i<l.length
  .rw[mW hlt]at hi;rw[mW (by omega)];exact h.get _ _ i x hi
  .rw[kW (by omega)]at hi;rw[kW (by omega),hl];exact k.get _ _ _ x hi
def Ln{s n0:Nat}{nn:Option Nat}{f:FuncId}{A:List PV}{ty esz:Nat}{cells cells':List PV}(hob:σ s=some ⟨ty,esz,cells.map .p⟩)(hS:mS P f nn A ty esz cells cells')
  (hkind:(nn=none/\esz=0)\/(nn=some n0/\esz≠0))
  (hrun:∀(ρ:Ren) (C:bE) (V:Nat->Value) (w:World),(∀x∈o.op.operands.toList,aR ρ C (E x) (bH V x))->∃v us,(execOp (bH V) o).run P w= .ok (.enter f (v::us).toArray) w/\ae C A us/\
    aR ρ C (match nn with|none=> .ptr s 0|some n0=> .own s 0 n0) v):bT P o E σ n .undef [s] [(s,some ⟨ty,esz,cells'.map .p⟩)] :=by
 obtain⟨_,hlen,hcall,hnil⟩:=hS;intro C0 ρ g V w B hs hB hR hn hgn hE;obtain⟨v,us,hr,hA,hv⟩:=hrun ρ _ V w hE;have hgs:g s=some ⟨ty,esz,cells.map .p⟩:=by grind
 unfold cJ;rw[hr];dsimp only;have hlk:∀s',s'≠s->[(s,some (⟨ty,esz,cells'.map .p⟩:Ob))].lookup s'=none:=by intro s' hs';simp[hZ,beq_eq_false_iff_ne.2 hs']
 have hup:∀s',s'≠s->ai g [(s,some ⟨ty,esz,cells'.map .p⟩)] s'=g s':=by intro s' hs';unfold ai;rw[hlk s' hs']
 have hat:∀s' o',[(s,some (⟨ty,esz,cells'.map .p⟩:Ob))].lookup s'=some (some o')->s'=s/\o'=⟨ty,esz,cells'.map .p⟩:=by
  intro s' o' e;have e1:s'=s:=by
   rcases pD s' s with h|h
   .grind
   .exact h
  subst e1;simp[hZ]at e;exact⟨rfl,e.symm⟩
 have hlt:∀s ob b c,g s=some ob->ρ s=some (some b,c)->b<w.heap.size:=by intro s ob b c e1 e2;obtain⟨_,arr,e3⟩:=hs.at e1 e2;exact e3.lt
 have real:∀b c,ρ s=some (some b,c)->v=QC nn b c->(∀m,nn=some m->m<=c)->
   Calls P f (v::us).toArray w λe w''=>∃v,e= .returned v/\∃ρ':Ren,(∀s,cls s≠n->ρ' s=ρ s)/\(∀b o' x,bC C0 B w ρ g b o' x->bC C0 B w'' ρ' (ai g [(s,some ⟨ty,esz,cells'.map .p⟩)]) b o' x)/\
    StR C0 ρ' (ai g [(s,some ⟨ty,esz,cells'.map .p⟩)]) w'' B/\aR ρ' (bC C0 B w'' ρ' (ai g [(s,some ⟨ty,esz,cells'.map .p⟩)])) .undef v/\Below B w w'':=by
  intro b c hρ hv hnc;obtain⟨hBb,arr,hO⟩:=hs.at hgs hρ;subst hv;have hL:Lent (bC C0 B w ρ g) w b c ty esz cells arr:=by refine⟨hO.blk,λh=>by simpa using hO.box h,λh=>by simpa using hO.row h,λi x hi=> ?_⟩;obtain⟨u,h1,h2,h3⟩:=hO.cells i (.p x) (by grind);unfold aR at h3;grind
  refine(hcall _ w b c arr us (λb' o' x hx=>⟨hx.1,λe=>by subst e;have:=hx.2.1 s c hρ;grind⟩) hL hnc hA).mono ?_;rintro e w' ⟨arr',rfl,hL',hG⟩;have hold:∀k,k<w.heap.size->k≠b->w'.heap[k]? =w.heap[k]? :=λk h1 h2=>hG.block k h1 (by grind);have hmono:∀b' o' x,bC C0 B w ρ g b' o' x->bC C0 B w' ρ (ai g [(s,some ⟨ty,esz,cells'.map .p⟩)]) b' o' x:=by
   intro b' o' x ⟨e1,e2,e0⟩;have hne:b'≠b:=λe=>by grind
   refine⟨(jA (hold b' (jp w ⟨b',o',none⟩ e1) hne)).trans e1,?_,e0⟩;intro s' c' e3;by_cases e:s'=s
   .grind
   .grind
  refine⟨_,rfl,ρ,λ_ _=>rfl,hmono,?_,by rfl,⟨hG.os,hG.tape,hG.output,hG.size,by grind⟩⟩;refine hs.step (by grind) (λ_ _ h=>h) hmono ?_ ?_ λk es clock hk=>hold k (qz hk) (uo hk hO.blk)
  .intro s' o' b' c' e1 e2 e3;refine hold b' (by grind) λe=> ?_;subst e;have:=hs.inj s s' _ o' b' c c' hgs e2 hρ e3;grind
  .intro s' o' e;obtain⟨rfl,rfl⟩:=hat s' o' e;refine⟨some b,c,hρ,.inr ⟨b,arr',rfl,hBb,⟨hL'.blk,λh=>by simpa using hL'.box h,λh=>by simpa using hL'.row h,?_⟩,?_⟩⟩
   .intro i x hi;rw[gS]at hi;cases hc:cells'[i]? with
    |none=>grind
    |some y=>
     rw[hc]at hi;simp only[eE,fm]at hi;subst hi;obtain⟨u,h1,h2,h3⟩:=hL'.cells i y hc;exact⟨u,h1,h2,by exact aU.mono hmono y u h3⟩
   .intro s2 o' c' hne e3 e4;rw[hup s2 hne]at e3;exact hne (hs.inj s' s2 _ o' b c c' hgs e3 hρ e4).symm
 rcases hkind with⟨rfl,he⟩|⟨rfl,he⟩
 .obtain⟨b,c,hρ,hv⟩:=hv;exact real b c hρ hv (by grind)
 .obtain⟨q,c,hρ,⟨rfl,hv,rfl,_⟩|⟨b,o',c',rfl,hv,h5,h6,h7⟩⟩:=hv
  .subst hv;have hcn:cells'=[] :=by
    obtain⟨q,c2,h1,⟨_,h2|h2⟩|⟨b,arr,h2,_⟩⟩:=hs.ob s _ hgs
    rotate_left
    .grind
    rotate_left
    .have:(cells.map AV.p)=[] :=h2.2.1;have:cells.length=0:=by simpa using congrArg fh this
     grind
    .grind
   refine(hnil rfl _ w us (λb' o' x hx=>hx.1) hA).mono ?_;rintro e w' ⟨rfl,hb⟩;have hold:∀k,k<w.heap.size->w'.heap[k]? =w.heap[k]? :=λk hk=>hb.block k hk;have hmono:∀b' o' x,bC C0 B w ρ g b' o' x->bC C0 B w' ρ (ai g [(s,some ⟨ty,esz,cells'.map .p⟩)]) b' o' x:=by
    intro b' o' x ⟨e1,e2,e0⟩;refine⟨(jA (hold b' (jp w ⟨b',o',none⟩ e1))).trans e1,?_,e0⟩;intro s' c' e3;by_cases e:s'=s
    .grind
    .grind
   refine⟨_,rfl,ρ,λ_ _=>rfl,hmono,?_,by rfl,hb.mono hB⟩;refine hs.step (by grind) (λ_ _ h=>h) hmono (by grind) ?_ (by grind);intro s' o' e;obtain⟨rfl,rfl⟩:=hat s' o' e;obtain⟨q,c2,h1,⟨_,h2|h2⟩|⟨b,arr,h2,_⟩⟩:=hs.ob s' _ hgs
   .grind
   .grind
   grind
  .obtain⟨rfl,rfl⟩:=h7 rfl;exact real b c' hρ hv (by grind)
def Wz{c:Call}{f:Operand}{fid:FuncId}{first caps:List AV}(hfm:f∈o.op.operands.toList)(ham:∀x∈c.args.toList,x∈o.op.operands.toList)(ho:o.op= .call c)(hc:c.callee= .value f)
  (hfv:∀ρ C v,aR ρ C (E f) v->∃vs1 vs2:List Value,v= .func (.func fid) vs1.toArray vs2.toArray/\ag ρ C first vs1/\ag ρ C caps vs2) {K:Res}
  (h:GC P σ fid (first++c.args.toList.map E++caps) K):∃r R W,bT P o E σ n r R W/\K r R W:=by
 have hrun:je P fid=true->∀(ρ:Ren) (C:bE) (V:Nat->Value) (w:World),(∀x∈o.op.operands.toList,aR ρ C (E x) (bH V x))->∃us,(execOp (bH V) o).run P w= .ok (.enter fid us.toArray) w/\ag ρ C (first++c.args.toList.map E++caps) us:=by
  intro hok ρ C V w hE;obtain⟨vs1,vs2,hv,q1,q2⟩:=hfv _ _ _ (hE f hfm);have hargs:∀l:List Operand,(∀x∈l,x∈o.op.operands.toList)->ag ρ C (l.map E) (l.map (bH V)):=by
   intro l;induction l with
   |nil=>intro _;rfl
   |cons x l ih=>
    unfold ag;grind
  refine⟨vs1++c.args.toList.map (bH V)++vs2,?_,(q1.append (hargs _ ham)).append q2⟩;unfold execOp;rw[ho];have e2:vs1.toArray++td (bH V) c.args++vs2.toArray=(vs1++c.args.toList.map (bH V)++vs2).toArray:=by apply pC.1;simp
  simp only[resolve,hc,hv,te,cg,dc,cl,invoke,ky hok,e2]
 generalize first++c.args.toList.map E++caps=avs at h hrun
 unfold GC at h;split at h
 .obtain⟨ty,cells,hob,A,cells',hA,hS,hK⟩:=h;refine⟨_,_,_,Ln (n0:=0) hob hS (by grind) ?_,hK⟩;intro ρ C V w hE;obtain⟨us,h1,h2⟩:=hrun hS.1 ρ C V w hE;obtain⟨v,r,rfl,h3,h4⟩:=h2;exact⟨v,r,h1,qp hA h4,h3⟩
 .rename_i s k rest;obtain⟨ty,esz,cells,hob,he,A,cells',hA,hS,hK⟩:=h;refine⟨_,_,_,Ln (n0:=k) hob hS (by grind) ?_,hK⟩;intro ρ C V w hE;obtain⟨us,h1,h2⟩:=hrun hS.1 ρ C V w hE;obtain⟨v,r,rfl,h3,h4⟩:=h2;exact⟨v,r,h1,qp hA h4,h3⟩
 grind
def Yf{c:Call}{f:Operand}(ho:o.op= .call c)(hc:c.callee= .value f){K:Res}(h:B7 P σ (E f) (c.args.toList.map E) K):∃r R W,bT P o E σ n r R W/\K r R W:=by
 have hfm:f∈o.op.operands.toList:=by rw[ho];simp[cX,jT,hc]
 have ham:∀x∈c.args.toList,x∈o.op.operands.toList:=by intro x hx;rw[ho];simp[cX,jT];exact .inr (by grind)
 have key:∀(fid:FuncId) (first caps:List AV),(∀ρ C v,aR ρ C (E f) v->∃vs1 vs2:List Value,v= .func (.func fid) vs1.toArray vs2.toArray/\ag ρ C first vs1/\ag ρ C caps vs2)->
   ph P σ fid (first++c.args.toList.map E++caps) K->∃r R W,bT P o E σ n r R W/\K r R W:=by
  intro fid first caps hfv hgo
  refine Or.elim hgo ?_ (λhgo=>Wz hfm ham ho hc hfv hgo);rintro⟨A,hA,fr,r,hsat,hcase⟩;have sim:∀W:List (Nat×Option Ob),(W=[]/\(fr=true\/bK (first++c.args.toList.map E++caps)=some A))\/W=(bL (cK 3 σ) (first++c.args.toList.map E++caps)).map (·,none)->bT P o E σ n (.p r) (bL (cK 3 σ) (first++c.args.toList.map E++caps)) W:= ?_
  .grind
  intro W hW;intro C0 ρ g V w B hs hB hR hn hgn hE;obtain⟨vs1,vs2,hv,q1,q2⟩:=hfv _ _ _ (hE f hfm);have hargs:∀l:List Operand,(∀x∈l,x∈o.op.operands.toList)->ag ρ (bC C0 B w ρ g) (l.map E) (l.map (bH V)):=by
   intro l;induction l with
   |nil=>intro _;rfl
   |cons x l ih=>
    unfold ag;grind
  have hall:=(q1.append (hargs _ ham)).append q2;obtain⟨hok,hcalls⟩:=hsat;have hrun:(execOp (bH V) o).run P w= .ok (.enter fid (vs1++c.args.toList.map (bH V)++vs2).toArray) w:=by
   unfold execOp;rw[ho];have e2:vs1.toArray++td (bH V) c.args++vs2.toArray=(vs1++c.args.toList.map (bH V)++vs2).toArray:=by apply pC.1;simp
   simp only[resolve,hc,hv,te,cg,dc,cl,invoke,ky hok,e2]
  have hlive:∀s ob b c,g s=some ob->ρ s=some (some b,c)->b<w.heap.size:=by intro s ob b c e1 e2;obtain⟨_,arr,e3⟩:=hs.at e1 e2;exact e3.lt
  have hnone:∀s x,W.lookup s=some x->W.lookup s=some none:=by
   intro s x h;rcases hW with⟨rfl,_⟩|rfl
   .simp at h
   .have key:∀l:List Nat,(l.map (·,(none:Option Ob))).lookup s=some x->x=none:=by
     intro l;induction l with
     |nil=>grind
     |cons k l ih=>
      grind
    grind
  have hdrop:∀b o' x,bC C0 B w ρ g b o' x->bC C0 B w ρ (ai g W) b o' x:=by
   intro b o' x ⟨e1,e2,e0⟩;refine⟨e1,λs c' e3=> ?_,e0⟩;unfold ai;split
   .grind
   .grind
  unfold cJ;rw[hrun];dsimp only;have fin:∀(C:bE),(∀b o v,C b o v->w.cell? ⟨b,o,none⟩=some v)->ae C A (vs1++c.args.toList.map (bH V)++vs2)->(fr=false->∀b o v,C b o v->bC C0 B w ρ (ai g W) b o v)->
    Calls P fid (vs1++c.args.toList.map (bH V)++vs2).toArray w λe w''=>∃v,e= .returned v/\∃ρ':Ren,(∀s,cls s≠n->ρ' s=ρ s)/\(∀b o' x,bC C0 B w ρ g b o' x->bC C0 B w'' ρ' (ai g W) b o' x)/\StR C0 ρ' (ai g W) w'' B/\aR ρ' (bC C0 B w'' ρ' (ai g W)) (.p r) v/\Below B w w'':=by
   intro C hC hrep hCC;refine(hcalls C w _ hC hrep).mono ?_;rintro e w' ⟨v,rfl,hr,hbel⟩;have hold:∀b,b<w.heap.size->w'.heap[b]? =w.heap[b]? :=λb hb=>hbel.block b hb;have hmono:∀b o' x,bC C0 B w ρ (ai g W) b o' x->bC C0 B w' ρ (ai g W) b o' x:=by intro b o' x ⟨e1,e2,e0⟩;exact⟨(jA (hold b (jp w ⟨b,o',none⟩ e1))).trans e1,e2,e0⟩
   refine⟨v,rfl,ρ,λ_ _=>rfl,by grind,?_,?_,hbel.mono hB⟩
   .refine hs.step (by grind) (λ_ _ h=>h) (by grind) ?_ (by grind) (by grind);grind
   .refine aU.mono ?_ r v hr;rintro b o' x (⟨h1,h2⟩|⟨h1,h2⟩)
    .grind
    .refine⟨h2,?_,by grind⟩;intro s c' e3;unfold ai;split
     .grind
     .cases hgs:g s with
      |none=>rfl
      |some ob=>grind
  have hsnap:∀(T:bE),(∀b o v,bC C0 B w ρ g b o v->T b o v)->(∀s ob b c2,s∈bL (cK 3 σ) (first++c.args.toList.map E++caps)->g s=some ob->ρ s=some (some b,c2)->B<=b->∀o v,w.cell? ⟨b,o,none⟩=some v->T b o v)->
    ae T A (vs1++c.args.toList.map (bH V)++vs2):=by
   intro T hT1 hT2;obtain⟨g1,g2⟩:=n7 hA;refine ae.of _ _ (by rw[<-g1];exact hall.length) λi y hi=> ?_;have hlt:i<(first++c.args.toList.map E++caps).length:=by rw[g1];grind
   obtain⟨y',h5,h6⟩:=g2 i _ (fA hlt);rw[hi]at h5;cases h5;obtain⟨v,k1,k2⟩:=hall.get _ _ i _ (fA hlt);exact⟨v,k1,Ep hs T (λs=>s∈bL (cK 3 σ) (first++c.args.toList.map E++caps)) hT1 hT2 3 _ _ v h6 (λs hs'=>⟨ng (by grind) hs',hR s (ng (by grind) hs')⟩) k2⟩
  rcases hW with⟨rfl,h⟩|rfl
  .cases fr with
   |true=>exact fin (aBp C0 B w) (λb o v h=>h.1) (hsnap _ (λb o v h=>⟨h.1,h.2.2⟩) (λs ob b c _ _ _ hb o v h=>⟨h,.inl hb⟩)) (by grind)
   |false=>
    rcases h with h|h
    .cases h
    .exact fin (bC C0 B w ρ g) (λb o v h=>h.1) (qp h hall) (by grind)
  .refine fin (bC C0 B w ρ (ai g ((bL (cK 3 σ) (first++c.args.toList.map E++caps)).map (·,none)))) (λb o v h=>h.1) (hsnap _ hdrop ?_) (by grind);intro s ob b c' hsm e1 e2 hb o' v e3;have hmem:∀l:List Nat,s∈l->(l.map (·,(none:Option Ob))).lookup s=some none:=by
    intro l;induction l with
    |nil=>grind
    |cons k l ih=>
     grind
   refine⟨e3,λs' c2 e4=> ?_,.inl hb⟩;unfold ai;split
   .grind
   .cases hg':g s' with
    |none=>rfl
    |some ob'=>
     have:=hs.inj s s' ob ob' b c' c2 e1 hg' e2 e4;grind
 unfold B7 at h;split at h
 .rename_i fid first caps e
  refine key fid first caps (λρ C v hv=> ?_) h
  rw[e]at hv;exact hv
 .rename_i fid first caps e
  refine key fid _ _ (λρ C v hv=> ?_) h;rw[e]at hv;obtain⟨vs1,vs2,h1,h2,h3⟩:=hv;exact⟨vs1,vs2,h1,h2.toA,h3.toA⟩
 grind
end
def yb(v:Value)(us:List Value):Value:=match us with
 |[] =>v
 |us=> .tuple (v::us).toArray
def oQ(C:bE)(N:Nat)(q:Option Nat)(w':World):bE:=λb o x=>C b o x\/(N<=b/\q≠some b/\w'.cell? ⟨b,o,none⟩=some x)
def vh(P:Program)(f:FuncId)(A:List PV)(ty esz:Nat)(cells:List PV)(m:Nat)(ys:List PV):Prop:=je P f=true/\esz≠0/\
 ∀(C:bE) (w:World) (vs:List Value),(∀b o v,C b o v->w.cell? ⟨b,o,none⟩=some v)->ae C A vs->
  Calls P f vs.toArray w λe w'=>∃v us q c,e= .returned (yb v us)/\Below w.heap.size w w'/\ae (oQ C w.heap.size q w') ys us/\
   ((q=none/\v= .slice none 0 0/\m=0/\cells=[]/\c=0)\/∃b arr,q=some b/\v= .slice (some ⟨b,0,none⟩) m c/\m<=c/\w.heap.size<=b/\w'.heap[b]? =some (.cells arr ty (0,0))/\
     arr.size=c*esz/\cells.length<=arr.size/\c<=maxLen/\∀(i:Nat) x,cells[i]? =some x->∃u,arr[i]? =some u/\u.oneCell'=true/\aU (oQ C w.heap.size q w') x u)
def CG(n m:Nat)(ys:List PV):AV:=match ys with
 |[] => .own (sit n 0) 0 m
 |ys=> .tup (.own (sit n 0) 0 m::ys.map .p)
def II(P:Program)(f:FuncId)(A:List PV)(ty esz:Nat)(cells:List PV)(m:Nat)(ys:List PV):Prop:=je P f=true/\esz≠0/\
 ∀(C:bE) (w:World) (vs:List Value),(∀b o v,C b o v->w.cell? ⟨b,o,none⟩=some v)->ae C A vs->
  Calls P f (Value.slice none 0 0::vs).toArray w λe w'=>∃v us q c,e= .returned (yb v us)/\Below w.heap.size w w'/\ae (oQ C w.heap.size q w') ys us/\
   ((q=none/\v= .slice none 0 0/\m=0/\cells=[]/\c=0)\/∃b arr,q=some b/\v= .slice (some ⟨b,0,none⟩) m c/\m<=c/\w.heap.size<=b/\w'.heap[b]? =some (.cells arr ty (0,0))/\
     arr.size=c*esz/\cells.length<=arr.size/\c<=maxLen/\∀(i:Nat) x,cells[i]? =some x->∃u,arr[i]? =some u/\u.oneCell'=true/\aU (oQ C w.heap.size q w') x u)
def At(P:Program)(n:Nat)(f:FuncId)(avs:List AV)(K:Res):Prop:=
 ∃A ty esz cells m ys,((bK avs=some A/\vh P f A ty esz cells m ys)\/∃r,avs= .nil::r/\bK r=some A/\II P f A ty esz cells m ys)/\K (CG n m ys) [] [(sit n 0,some ⟨ty,esz,cells.map .p⟩)]
def B6(P:Program)(n:Nat)(fv:AV)(args:List AV)(K:Res):Prop:=match fv with
 | .fn (.func f) first caps=>At P n f (first++args++caps) K
 | .p (.fn (.func f) first caps)=>At P n f (first.map .p++args++caps.map .p) K
 |_=>False
section
variable {P:Program} {o:Oper} {E:Operand->AV} {σ:Nat->Option Ob} {n:Nat}
def ae.QA{ρ:Ren}{C:bE}:∀{l:List PV} {vs:List Value},ae C l vs->ag ρ C (l.map .p) vs
 |[],vs,h=>by exact h
 |x::l,vs,h=>by
  obtain⟨v,r,rfl,h2,h3⟩:=h;exact⟨v,r,rfl,by exact h2,ae.QA h3⟩
def Wy{c:Call}{f:Operand}(ho:o.op= .call c)(hc:c.callee= .value f){K:Res}(h:B6 P n (E f) (c.args.toList.map E) K):∃r R W,bT P o E σ n r R W/\K r R W:=by
 have hfm:f∈o.op.operands.toList:=by rw[ho];simp[cX,jT,hc]
 have ham:∀x∈c.args.toList,x∈o.op.operands.toList:=by intro x hx;rw[ho];simp[cX,jT];exact .inr (by grind)
 have key:∀(fid:FuncId) (first caps:List AV),(∀ρ C v,aR ρ C (E f) v->∃vs1 vs2:List Value,v= .func (.func fid) vs1.toArray vs2.toArray/\ag ρ C first vs1/\ag ρ C caps vs2)->
   At P n fid (first++c.args.toList.map E++caps) K->∃r R W,bT P o E σ n r R W/\K r R W:=by
  intro fid first caps hfv ⟨A,ty,esz,cells,m,ys,hA,hK⟩
  obtain⟨hok,he,hcalls⟩:je P fid=true/\esz≠0/\∀(ρ:Ren) (C:bE) (w:World) (vs:List Value),(∀b o v,C b o v->w.cell? ⟨b,o,none⟩=some v)->ag ρ C (first++c.args.toList.map E++caps) vs->
   Calls P fid vs.toArray w λe w'=>∃v us q c,e= .returned (yb v us)/\Below w.heap.size w w'/\ae (oQ C w.heap.size q w') ys us/\
    ((q=none/\v= .slice none 0 0/\m=0/\cells=[]/\c=0)\/∃b arr,q=some b/\v= .slice (some ⟨b,0,none⟩) m c/\m<=c/\w.heap.size<=b/\w'.heap[b]? =some (.cells arr ty (0,0))/\
      arr.size=c*esz/\cells.length<=arr.size/\c<=maxLen/\∀(i:Nat) x,cells[i]? =some x->∃u,arr[i]? =some u/\u.oneCell'=true/\aU (oQ C w.heap.size q w') x u):=by
   rcases hA with⟨hA,h1,h2,h3⟩|⟨r,hr,hA,h1,h2,h3⟩
   .exact⟨h1,h2,λρ C w vs hC h=>h3 C w vs hC (qp hA h)⟩
   .refine⟨h1,h2,λρ C w vs hC h=> ?_⟩;rw[hr]at h;obtain⟨v,vs',rfl,h4,h5⟩:=h;subst h4;exact h3 C w vs' hC (qp hA h5)
  refine⟨_,_,_,?_,hK⟩;intro C0 ρ g V w B hs hB hR hn hgn hE;have hn:=hn _ (iE n 0);have hgn:=hgn _ (iE n 0);have hcl:∀s,cls s≠n->s≠sit n 0:=λs h e=>h (by rw[e];exact iE n 0);obtain⟨vs1,vs2,hv,q1,q2⟩:=hfv _ _ _ (hE f hfm);have hargs:∀l:List Operand,(∀x∈l,x∈o.op.operands.toList)->ag ρ (bC C0 B w ρ g) (l.map E) (l.map (bH V)):=by
   intro l;induction l with
   |nil=>intro _;rfl
   |cons x l ih=>
    unfold ag;grind
  have hall:=(q1.append (hargs _ ham)).append q2;have hrun:(execOp (bH V) o).run P w= .ok (.enter fid (vs1++c.args.toList.map (bH V)++vs2).toArray) w:=by
   unfold execOp;rw[ho];have e2:vs1.toArray++td (bH V) c.args++vs2.toArray=(vs1++c.args.toList.map (bH V)++vs2).toArray:=by apply pC.1;simp
   simp only[resolve,hc,hv,te,cg,dc,cl,invoke,ky hok,e2]
  have hlive:∀s ob b c,g s=some ob->ρ s=some (some b,c)->b<w.heap.size:=by intro s ob b c e1 e2;obtain⟨_,arr,e3⟩:=hs.at e1 e2;exact e3.lt
  unfold cJ;rw[hrun];dsimp only;refine(hcalls ρ (bC C0 B w ρ g) w _ (λb o v h=>h.1) hall).mono ?_;rintro e w' ⟨v,us,q,c,rfl,hbel,hys,hrow⟩;have hqb:∀b,q=some b->w.heap.size<=b:=by
   intro b hb;rcases hrow with⟨h1,_⟩|⟨b',arr,h1,_,_,h4,_⟩
   .grind
   .grind
  have hold:∀b,b<w.heap.size->w'.heap[b]? =w.heap[b]? :=λb hb=>hbel.block b hb;unfold CG;generalize hnS:sit n 0=nS at*
  let ρ':Ren:=λs=>if s=nS then some (q,c)else ρ s
  have hρn:ρ' nS=some (q,c):=if_pos rfl;have hρs:∀s,s≠nS->ρ' s=ρ s:=by grind
  have hup:∀s,s≠nS->ai g [(nS,some ⟨ty,esz,cells.map .p⟩)] s=g s:=by intro s h;unfold ai;simp[hZ,beq_eq_false_iff_ne.2 h]
  have hmono:∀b o' x,bC C0 B w ρ g b o' x->bC C0 B w' ρ' (ai g [(nS,some ⟨ty,esz,cells.map .p⟩)]) b o' x:=by
   intro b o' x ⟨e1,e2,e0⟩;have hlt:=jp w ⟨b,o',none⟩ e1;refine⟨(jA (hold b hlt)).trans e1,λs c' e3=> ?_,e0⟩;by_cases hsn:s=nS
   .grind
   .grind
  have hkeep:∀b o' x,oQ (bC C0 B w ρ g) w.heap.size q w' b o' x->bC C0 B w' ρ' (ai g [(nS,some ⟨ty,esz,cells.map .p⟩)]) b o' x:=by
   rintro b o' x (h1|⟨h1,h2,h3⟩)
   .grind
   .refine⟨h3,λs c' e3=> ?_,by grind⟩;by_cases hsn:s=nS
    .grind
    .rw[hup s hsn];cases hgs:g s with
     |none=>rfl
     |some ob=>grind
  refine⟨_,rfl,ρ',by grind,hmono,?_,?_,hbel.mono hB⟩
  .refine hs.step (by grind) (by grind) hmono ?_ ?_ (by grind)
   .grind
   .intro s o' hso;have hsn:s=nS:=by
     rcases pD s nS with h|h
     .grind
     .exact h
    subst hsn;simp[hZ]at hso;subst hso;refine⟨q,c,hρn,?_⟩;rcases hrow with⟨h1,h2,h3,h4,h5⟩|⟨b,arr,h1,h2,h3,h4,h5,h6,h7,h8,h9⟩
    .grind
    .refine .inr ⟨b,arr,h1,by grind,⟨h5,by grind,by grind,λi x hi=> ?_⟩,λs' o2 c' hne hg' hr'=> ?_⟩
     .rw[gS]at hi;cases hci:cells[i]? with
      |none=>grind
      |some y=>
       rw[hci]at hi;simp only[eE,fm]at hi;subst hi;obtain⟨u,k1,k2,k3⟩:=h9 i y hci;exact⟨u,k1,k2,by exact aU.mono hkeep y u k3⟩
     grind
  .have hown:aR ρ' (bC C0 B w' ρ' (ai g [(nS,some ⟨ty,esz,cells.map .p⟩)])) (.own nS 0 m) v:=by
    unfold aR;refine⟨q,c,hρn,?_⟩;rcases hrow with⟨h1,h2,h3,_⟩|⟨b,arr,h1,h2,h3,_⟩
    .grind
    .grind
   have hys2:ag ρ' (bC C0 B w' ρ' (ai g [(nS,some ⟨ty,esz,cells.map .p⟩)])) (ys.map .p) us:=(ae.mono hkeep ys us hys).QA;cases ys with
   |nil=>
    have:us=[] :=by have:=hys.length;simpa using this
    subst this;exact hown
   |cons y ys=>
    have hne:us≠[] :=λh=>by have:=hys.length;grind
    cases us with
    |nil=>grind
    |cons u us=>
     refine⟨v::u::us,rfl,?_⟩;unfold ag;grind
 unfold B6 at h;split at h
 .rename_i fid first caps e
  refine key fid first caps (λρ C v hv=> ?_) h
  rw[e]at hv;exact hv
 .rename_i fid first caps e
  refine key fid _ _ (λρ C v hv=> ?_) h;rw[e]at hv;obtain⟨vs1,vs2,h1,h2,h3⟩:=hv;exact⟨vs1,vs2,h1,h2.toA,h3.toA⟩
 grind
end
end
section
section
variable {P:Program} {o:Oper} {E:Operand->AV} {σ:Nat->Option Ob} {n:Nat}
def QB(P:Program)(n:Nat)(t:TypeId)(x y:AV)(K:Res):Prop:=∃(k1 k2:IntKind) (m:Nat) (e:TypeId) (z:List AV) (i:TypeInfo),x= .p (.int k1 m)/\y= .p (.int k2 m)/\dC P t=some e/\P.info? e=some i/\
 pp P e=some z/\po P e=true/\z≠[]/\m*aZ P e<=1000000/\m*i.bytes<=1000000000/\K (.own (sit n 0) 0 m) [] [(sit n 0,some ⟨e,aZ P e,mO m z⟩)]
def MK{t e:TypeId}{i:TypeInfo}{zv:Value}{m:Nat}{k1 k2:IntKind}(he:dC P t=some e)(hi:P.info? e=some i)(hiz:i.zero=some zv)(hsz:aZ P e=zv.cells.size)(hpos:0<zv.cells.size)(h1:m*aZ P e<=1000000)(h2:m*i.bytes<=1000000000)(w:World):
  (Instr.makeSlice t (.int k1 m) (.int k2 m)).run P w= .ok (.slice (some ⟨w.heap.size,0,none⟩) m m) (w.alloc (.cells (cS m zv.cells.toList).flatten.toArray e)):=by
 have hm:m<=1000000:=by have:m<=m*aZ P e:=Sj _ (by omega);omega
 have wl:iq.wrap (m:Int)=m:=by rw[IntKind.wrap_i64];omega
 have n1:¬(m:Int)<0:=by omega
 have n2:¬(281474976710656<(i.bytes:Int)*m):=by have h3:((m*i.bytes:Nat):Int)<=((1000000000:Nat):Int):=Int.ofNat_le.2 h2;rw[Nat.mul_comm,Int.natCast_mul]at h3;omega
 have n4:¬(m:Int)<m:=by omega
 have e3:∀w:World,(sizeOf e).run P w= .ok (aZ P e) w:=λw=>by simp[sizeOf,typeInfo,hi,aZ]
 have e4:∀w:World,(zeroValue e).run P w= .ok zv w:=λw=>by simp[zeroValue,typeInfo,hi,hiz]
 have e5:(if m*aZ P e=0 then #[]else(Il (m*aZ P e)).map (λj=>zv.cells[j % zv.cells.size]!))=(cS m zv.cells.toList).flatten.toArray:=by
  split
  .rename_i h0;have:m=0:=by
    rcases Ij.1 h0 with h|h
    .exact h
    .omega
   grind
  .rw[hsz];apply pC.1;rw[MQ zv.cells hpos m]
 rw[<-e5];by_cases h0:m*aZ P e=0
 .have:m=0:=by
   rcases Ij.1 h0 with h|h
   .exact h
   .omega
  subst this;have w0:iq.wrap 0=0:=by simpa using wl
  simp[w0,Instr.makeSlice,asInt,asIntOf,run_underlying (lC he),typeInfo,hi,askRoom,newRow,sizeOf];grind
 .simp[Instr.makeSlice,asInt,asIntOf,run_underlying (lC he),typeInfo,hi,wl,n1,n2,n4,askRoom,e3,e4,h0,newRow]
def YA{t:TypeId}{a b:Operand}(ho:o.op= .makeSlice t a b){K:Res}(h:QB P n t (E a) (E b) K):∃r R W,bT P o E σ n r R W/\K r R W:=by
 obtain⟨k1,k2,m,e,z,i0,ha,hb,he,hi0,hz,hz1,hne,h1,h2,hK⟩:=h;refine⟨_,_,_,bT.alloc ?_,hK⟩;intro ρ C V w hE;obtain⟨i,zv,hi,hiz,hsz,hone,rfl⟩:=xE hz hz1;rw[hi0]at hi;cases hi;have hsize:aZ P e=zv.cells.size:=by simp[aZ,hi0,hsz]
 have hpos:0<zv.cells.size:=by
  rcases qN zv.cells.size with h|h
  .grind
  .exact h
 have hones:gg (cS m zv.cells.toList).flatten:=by intro u hu;simp only[kY,Si]at hu;obtain⟨l',⟨_,rfl⟩,hu⟩:=hu;exact hone u hu
 have va:bH V a= .int k1 m:=by have:=hE a (by rw[ho];simp[cX]);rw[ha]at this;unfold aR at this;unfold aU at this;exact this
 have vb:bH V b= .int k2 m:=by have:=hE b (by rw[ho];simp[cX]);rw[hb]at this;unfold aR at this;unfold aU at this;exact this
 have hlen:(cS m zv.cells.toList).flatten.length=m*aZ P e:=by rw[hsize];simp
 have hl2:(mO m (zv.cells.toList.map kO)).length=m*aZ P e:=by rw[DP,db,y4,hsize]
 refine⟨.slice (some ⟨w.heap.size,0,none⟩) m m,(cS m zv.cells.toList).flatten.toArray,m,?_,λh=>by grind,λ_=> ?_,?_,hones,λρ' C' h=> ?_⟩
 .unfold execOp;rw[ho];dsimp only;rw[va,vb];have:=MK (k1:=k1) (k2:=k2) he hi0 hiz hsize hpos h1 h2 w;simp[this]
 .refine⟨?_,?_,?_⟩
  .omega
  .grind
  .have:m<=m*aZ P e:=Sj _ (by omega);unfold maxLen;omega
 .rw[ip (by grind)];exact D9 _ m
 .unfold aR;grind
def DI{α:Type}(g0:Nat->Nat)(x:α)(s:Nat):∀l:List Nat,(l.map λi=>(g0 i,x)).lookup s=if s∈l.map g0 then some x else none
 |[] =>rfl
 |i::l=>by
  rw[cv,dV,DI g0 x s l,cv];grind
def bT.fam{r:AV}{ob iob:Ob}{g0:Nat->Nat}{m0:Nat}(hi1:iob.esz≠0)(hi2:iob.cells=[])(hg0:∀i,cls (g0 i)=n)(hg1:∀i,g0 i≠sit n 0)
  (h:∀(ρ:Ren) (C:bE) (V:Nat->Value) (w:World),(∀x∈o.op.operands.toList,aR ρ C (E x) (bH V x))->
  ∃v arr c,(execOp (bH V) o).run P w= .ok (.value v) (w.alloc (.cells arr ob.ty))/\(ob.esz=0->arr.size=ob.cells.length)/\(ob.esz≠0->arr.size=c*ob.esz/\ob.cells.length<=arr.size/\c<=maxLen)/\
   gg arr.toList/\∀(ρ':Ren) (C':bE),ρ' (sit n 0)=some (some w.heap.size,c)->(∀i,i<m0->ρ' (g0 i)=some (none,0))->ag ρ' C' ob.cells (arr.toList.take ob.cells.length)/\aR ρ' C' r v):
  bT P o E σ n r [] ((sit n 0,some ob)::(bV m0).map λi=>(g0 i,some iob)):=by
 intro C0 ρ g V w B hs hB _ hn hgn hE;have hcl:∀s,cls s≠n->s≠sit n 0:=λs h e=>h (by rw[e];exact iE n 0);have hcl2:∀s,s∈(bV m0).map g0->cls s=n:=λs hs=>by grind
 have hmem:∀i,i<m0->g0 i∈(bV m0).map g0:=λi hi=>List.mem_map_of_mem (cF.2 hi);have hm:cls (sit n 0)=n:=iE n 0;generalize sit n 0=m at*;obtain⟨v,arr,c,hrun,h1,h2,h4,h5⟩:=h ρ _ V w hE;unfold cJ;rw[hrun];dsimp only;have hblk:(w.alloc (.cells arr ob.ty)).heap[w.heap.size]? =some (.cells arr ob.ty (0,0)):=heap_alloc_new w _;generalize hM:(bV m0).map g0=M at*
 let ρ':Ren:=λs=>if s=m then some (some w.heap.size,c)else if s∈M then some (none,0)else ρ s
 have hext:∀s q,ρ s=some q->ρ' s=some q:=by intro s q hq;show(if s=m then _ else _)=_;rw[if_neg (λe=>by grind),if_neg (λe=>by grind)];exact hq
 have hlt:∀s ob b c,g s=some ob->ρ s=some (some b,c)->b<w.heap.size:=by intro s ob b c e1 e2;obtain⟨_,arr,e3⟩:=hs.at e1 e2;exact e3.lt
 have hold:∀b,b<w.heap.size->(w.alloc (.cells arr ob.ty)).heap[b]? =w.heap[b]? :=λb hb=>Below.heap_alloc w _ b hb;generalize hW:((m,some ob)::(bV m0).map λi=>(g0 i,some iob))=W;have hlk:∀s,W.lookup s=if s=m then some (some ob)else if s∈M then some (some iob)else none:=by
  intro s;rw[<-hW,dV,DI,hM];by_cases e:s=m
  .grind
  .grind
 have hup:∀s,s≠m->s∉M->ai g W s=g s:=by intro s h1 h2;unfold ai;rw[hlk,if_neg h1,if_neg h2]
 have hmono:∀b o' x,bC C0 B w ρ g b o' x->bC C0 B (w.alloc (.cells arr ob.ty)) ρ' (ai g W) b o' x:=by
  intro b o' x ⟨e1,e2,e0⟩;have hb:b<w.heap.size:=jp w ⟨b,o',none⟩ e1;refine⟨(jA (hold b hb)).trans e1,?_,e0⟩;intro s c' e3;by_cases e:s=m
  .grind
  .grind
 have k5:=λC'=>h5 ρ' C' (by simp[ρ']) (λi hi=>by grind)
 refine⟨ρ',λs hs=> ?_,hmono,?_,(k5 _).2,(Below.refl B w).alloc hB _⟩
 .grind
 refine hs.step ?_ hext hmono ?_ ?_ λc es clock hc=>hold c (qz hc)
 .grind
 .grind
 .intro s ob' e;rw[hlk]at e;by_cases e1:s=m
  .rw[if_pos e1]at e;subst e1;have e2:ob'=ob:=by cases e;rfl
   subst e2;refine⟨some w.heap.size,c,by simp[ρ'],.inr ⟨w.heap.size,arr,rfl,hB,⟨hblk,h1,h2,?_⟩,?_⟩⟩
   .intro i x hi;obtain⟨u,g1,g2⟩:=(k5 _).1.get _ _ i x hi;rw[o5]at g1;split at g1
    .exact⟨u,by grind,h4 u (List.mem_of_getElem? g1),g2⟩
    .cases g1
   grind
  .rw[if_neg e1]at e;by_cases e':s∈M
   .rw[if_pos e']at e;cases e;exact⟨none,0,by grind,.inl ⟨rfl,hi1,hi2,rfl⟩⟩
   grind
def PP(P:Program)(n:Nat)(t:TypeId)(x y:AV)(K:Res):Prop:=∃(g0:Nat->Nat) (ity:TypeId) (wd:Nat) (k1 k2:IntKind) (m:Nat) (e:TypeId) (i:TypeInfo),x= .p (.int k1 m)/\y= .p (.int k2 m)/\dC P t=some e/\P.info? e=some i/\
 pp P e=some [.nil]/\po P e=true/\wd≠0/\(∀i,cls (g0 i)=n)/\(∀i,g0 i≠sit n 0)/\m<=1000000/\m*i.bytes<=1000000000/\
 K (.own (sit n 0) 0 m) [] ((sit n 0,some ⟨e,1,(bV m).map λj=> .own (g0 j) 0 0⟩)::(bV m).map λj=>(g0 j,some ⟨ity,wd,[]⟩))
def UJ{α:Type}(v:α):∀m,(cS m [v]).flatten=cS m v
 |0=>rfl
 |m+1=>by simp_all
def WN{t:TypeId}{a b:Operand}(ho:o.op= .makeSlice t a b){K:Res}(h:PP P n t (E a) (E b) K):∃r R W,bT P o E σ n r R W/\K r R W:=by
 obtain⟨g0,ity,wd,k1,k2,m,e,i0,ha,hb,he,hi0,hz,hz1,hwd,hg0,hg1,h1,h2,hK⟩:=h;refine⟨_,_,_,bT.fam (iob:=⟨ity,wd,[]⟩) hwd rfl hg0 hg1 ?_,hK⟩;intro ρ C V w hE;obtain⟨i,zv,hi,hiz,hsz,hone,hzv⟩:=xE hz hz1;rw[hi0]at hi;cases hi;have hnil:zv.cells.toList=[.slice none 0 0] :=by have h3:ag ρ C (zv.cells.toList.map kO) zv.cells.toList:=tz _;rw[show zv.cells.toList.map kO=[.nil]from hzv.symm]at h3;unfold ag at h3;obtain⟨v,r,h4,h5,h6⟩:=h3;unfold ag at h6;unfold aR at h5;rw[h4,h5,h6]
 have hsize:aZ P e=zv.cells.size:=by simp[aZ,hi0,hsz]
 have hs1:zv.cells.size=1:=by rw[<-y4,hnil];rfl
 have va:bH V a= .int k1 m:=by have:=hE a (by rw[ho];simp[cX]);rw[ha]at this;unfold aR at this;unfold aU at this;exact this
 have vb:bH V b= .int k2 m:=by have:=hE b (by rw[ho];simp[cX]);rw[hb]at this;unfold aR at this;unfold aU at this;exact this
 have hlist:(cS m zv.cells.toList).flatten=cS m (.slice none 0 0):=by rw[hnil,UJ]
 refine⟨.slice (some ⟨w.heap.size,0,none⟩) m m,(cS m zv.cells.toList).flatten.toArray,m,?_,(λh=>absurd h Nat.one_ne_zero),λ_=> ?_,?_,λρ' C' h h'=>⟨?_,?_⟩⟩
 .unfold execOp;rw[ho];dsimp only;rw[va,vb];have:=MK (k1:=k1) (k2:=k2) he hi0 hiz hsize (by omega) (by grind) h2 w;simp[this]
 .rw[hlist];refine⟨by simp,by simp,?_⟩;unfold maxLen;omega
 .intro u hu;simp only[kY,Si]at hu;obtain⟨l',⟨_,rfl⟩,hu⟩:=hu;exact hone u hu
 .rw[hlist];rw[ip (by simp)];refine ag.of _ _ (by simp) λj x hj=> ?_;rw[gS]at hj;by_cases hjm:j<m
  .rw[List.getElem?_range hjm]at hj;cases hj;refine⟨.slice none 0 0,by simp[hjm],?_⟩;unfold aR;grind
  grind
 .unfold aR;grind
end
end
end Go.Proofs.YtdaeofhdgabhjaaGreat
