/- What the statement stands on: contracts of functions, plain laws. Part 2 of 6, no condition of its own. (I20 I21 I22 I23 I24 I25 I26 I27 I28 I29 I30 I31 I32 I33 I34 I35 I36 I37 I38 I39 N1 E0 E5 N2 N3 E12 N4 N5 N6 N7 N19 N8 N9 N10 N20) -/
import Derived.Test.YtdaeofhdgabhjaaGreatCP1
import Derived.WalkKit
import Derived.Below
import Derived.Deep.MidRow
import Derived.Test.YtdaeofhdgabhjaaGreatProg
import Derived.WalkSpells
import Derived.WalkLawsBesides
import Derived.Lib.Hide
import Derived.Deep.QuietTactic
import Derived.BigQuiet
import Derived.WalkSmall
import Derived.Deep.RegionHeld3
import Derived.LoopTactic
import Derived.Orders
import Derived.Laws.OwnMore
import Derived.Maps.AppendAt
import Derived.Laws.Small
import Derived.Scope
set_option linter.all false
set_option maxRecDepth 100000
set_option maxHeartbeats 8000000
open Int renaming le_refl->jH,mul_zero->eL,mul_nonneg->cV,mul_eq_zero->dt,mul_neg->mf,mul_neg_of_pos_of_neg->gm,mul_neg_of_neg_of_pos->ma
open List renaming mem_cons_of_mem->cE,mem_cons->bT,not_mem_nil->cn,mem_filter->iX,nodup_cons->lF,mem_cons_self->cI,Pairwise.imp->Cb,pairwise_iff_getElem->nU,mem_iff_getElem->iZ,mem_map->bZ,append_assoc->jw,singleton_append->Cc,perm_append_comm->vV,cons_append->kM,mem_append->bg,map_cons->dB,append_of_mem->IE,flatMap_cons->fM,mem_flatMap->cZ,perm_cons_erase->SP,eq_nil_or_concat->SQ,mem_append_right->fb,nodup_append->nV,length_append->eW,length_cons->gk,append_nil->yg,flatMap_append->pH,getD_eq_getElem?_getD->du,getElem?_append_right->kZ,filter_append->pI,getElem?_drop->vX,getElem?_take->pD,mem_range->cG,range->bQ,all_eq_true->bk,length_eq_zero_iff->ni,map_toArray->IJ,map_nil->lC,length_take->l6,getElem?_set->yl,getElem?_map->gW,lookup->iE,take_of_length_le->fT,replicate->cS,replicate_succ->vn,flatten_cons->mc,getElem?_append_left->mb,mem_flatten->k9,mem_replicate->SX,length_map->da,length->dA,mem_append_left->iC,getElem?_eq_getElem->dp,lookup_cons->dV,any_eq_true->l0,getElem?_set_ne->SZ,mem_filterMap->IR,getElem?_eq_none->l7,range'->Cn,getElem?_replicate->yo
open Nat renaming mod_eq_of_lt->dZ,add_mod_right->pB,mod_lt->bq,le_refl->bI,lt_or_ge->nY,strongRecOn->H5,le_trans->cF,zero_add->jy,mul_le_mul->tX,eq_zero_or_pos->qN,mul_eq_zero->IK,decEq->pO,add_mul->yn,le_mul_of_pos_right->SY,zero_le->iY
open Ne renaming symm->pF
open Go.World renaming frozen?->IF,block_lt_of_cell?->jz,cell?_of_block->jI,ownsRow_nil->IN
open Array renaming getElem?_append_left->Cd,getElem?_modify->IG,getD_eq_getD_getElem?->fy,getElem?_eq_getElem->vf,getElem?_setIfInBounds->vh,replicate->ng,getElem?_replicate->Cf,toList_inj->pN,length_toList->ym,range->IM,map->tZ,getElem?_append_right->Sa,mapM_eq_mapM_toList->Sb
open Go.Region renaming binds->iD,ready->Ce,wanted->ia
open Bool renaming eq_false_or_eq_true->SS,and_eq_true->bw,not_eq_true'->CY,false_eq_true->qM,or_eq_true->jv
open Option renaming map_some->eO,getD_some->lH,bind_some->qP,map_eq_some_iff->l5,isSome_iff_exists->pJ,bind_eq_some_iff->qQ,some.injEq->fc
open Go.Code renaming region->yh,rounds->Co
open Go.Act renaming put->mh
open Go.Instr renaming loadAt->Cg,sureAddr->Ch,indexAt->II,sliceBounds->Ck
open Go.Sem renaming run_bind->cp,run_pure->db
open Go.Op renaming operands->ce,equalIn->tV,intArith->IH,intCmp->yk
open Go.Result renaming andThen_ok->ct
open Go.Value renaming int->cg,ownBlock->Ci,cells->IL
open Go.Addr renaming add_mid->vj
open Go.Call renaming operands->jY
open Go.Obj renaming map->vm
open Go.Deferred renaming ofValue->tc
open Go.IntKind renaming i64->i7
open Go.RowKit
open Go.Proofs.YtdaeofhdgabhjaaGreat.Geo
namespace Go.Proofs.YtdaeofhdgabhjaaGreat
section
namespace Geo
def On(o:Bool)(v x:V):Prop:=if o=true then Up (sub x v)else Dn (sub x v)
def yC{v x:V}(h:x≠v)(o:Bool):On o v x\/On (!o) v x:=by
 have:Up (sub x v)\/Dn (sub x v):=by
  rcases PS (sub x v)with g|g|g
  .exact .inl g
  .exact .inr g
  .exact absurd g (GL h.symm)
 unfold On;grind
def On.not{o:Bool}{v x:V}(h:On o v x):¬On (!o) v x:=by
 unfold On at*;cases o<;>simp at h|-
 .exact λg=>g.not h
 .exact h.not
def tv(o:Bool)(v x:V):V:=if o=true then sub x v else neg (sub x v)
def qC(o:Bool)(v x:V):On o v x↔Up (tv o v x):=by
 unfold On tv;cases o
 .simp[xf]
 .simp
def Ad(o:Bool)(v x y:V):cross (tv o v x) (tv o v y)=ev (lin v x) (pt y):=by
 rw[fP];unfold tv;cases o
 .simp[Kz]
 .simp
def Pv{o:Bool}{v x:V}(h:On (!o) v x):Dn (tv o v x):=by
 unfold On at h;unfold tv;cases o
 .simp at h;simp[q8,h]
 grind
def Al{y z:V}{α β:Int}(hy:Up y)(hz:Up z)(ha:0<=α)(hb:0<β):Up ⟨α*y.x+β*z.x,α*y.y+β*z.y⟩:=by rw[<-q8];have:=Az ((q8 y).2 hy) ((q8 z).2 hz) ha hb;unfold neg at this|-;grind
def BF{x:V}{k:Int}(hx:Up x)(h:Up ⟨k*x.x,k*x.y⟩):0<k:=by
 refine Int.not_le.1 λg=> ?_;rcases Int.lt_or_le k 0 with g'|g'
 .refine h.not ?_;have:=Az ((q8 x).2 hx) ((q8 x).2 hx) (jH 0) (show 0< -k by omega);unfold neg at this;grind
 .have:k=0:=by omega
  subst this;unfold Up at h;simp at h
def Ve{x y z:V}(_hx:Up x)(hy:Up y)(hz:Up z)(h1:0<cross x y)(h2:0<cross y z):0<cross x z:=by refine BF hy ?_;have:=Al hz _hx (show 0<=cross x y by omega) h2;rw[show cross x z*y.x=cross x y*z.x+cross y z*x.x by unfold cross;grind,show cross x z*y.y=cross x y*z.y+cross y z*x.y by unfold cross;grind];exact this
def aAm{t u z:V}(ht:Dn t)(hu:Up u)(hz:Up z)(h1:0<cross t z)(h2:0<cross u z):0<cross t u:=by refine BF hz ?_;have:=Al hu ((xf t).2 ht) (show 0<=cross t z by omega) h2;unfold neg at this;rw[show cross t u*z.x=cross t z*u.x+cross u z* -t.x by unfold cross;grind,show cross t u*z.y=cross t z*u.y+cross u z* -t.y by unfold cross;grind];exact this
def Y0{x u y:V}(hx:Up x)(hu:Up u)(hy:Dn y)(h1:0<cross x y)(h2:0<cross x u):0<cross u y:=by refine BF hx ?_;have:=Al hu ((xf y).2 hy) (show 0<=cross x y by omega) h2;unfold neg at this;rw[show cross u y*x.x=cross x y*u.x+cross x u* -y.x by unfold cross;grind,show cross u y*x.y=cross x y*u.y+cross x u* -y.y by unfold cross;grind];exact this
def Y3{x y:V}(hx:Up x)(hy:Up y)(h:cross x y=0):0<x.x*y.x+x.y*y.y:=by
 have e1:(x.x*y.x+x.y*y.y)*x.x=(x.x*x.x+x.y*x.y)*y.x:=by unfold cross at h;grind
 have e2:(x.x*y.x+x.y*y.y)*x.y=(x.x*x.x+x.y*x.y)*y.y:=by unfold cross at h;grind
 refine BF hx ?_;have k:0<x.x*x.x+x.y*x.y:=by
  have:=zd x.x;have:=zd x.y;unfold Up at hx;rcases hx with g|⟨_,g⟩
  .have:=BK (show x.y≠0 by omega);omega
  .have:=BK (show x.x≠0 by omega);omega
 have:=Al hy hy (jH 0) k;grind
def GH{α:Type}{R:α->α->Prop}:∀{l:List α},l≠[]->(∀x∈l,∀y∈l,x=y\/R x y\/R y x)->(∀x∈l,∀y∈l,∀z∈l,R x y->R y z->R x z)->∃m∈l,∀y∈l,y=m\/R y m
 |[],h,_,_=>absurd rfl h
 |[x],_,_,_=>⟨x,by grind,by grind⟩
 |x::y::l,_,ht,hr=>by
  obtain⟨m,hm,h⟩:=GH (l:=y::l) (by simp) (by grind) (λa ha b hb c hc=>hr a (cE _ ha) b (cE _ hb) c (cE _ hc));grind
section
variable {W:List V} {side:V->V->Prop} {ins:P3->Bool}
def Ccw(v x y:V):Prop:=0<ev (lin v x) (pt y)
def uS{v x y:V}(h:Ccw v x y):¬Ccw v y x:=by unfold Ccw at*;rw[show ev (lin v y) (pt x)= -ev (lin v x) (pt y) by unfold ev lin pt;grind];omega
def BA(N:Net W side){o:Bool}{v x y:V}(hx:side v x)(hy:side v y)(ox:On o v x)(oy:On o v y):x=y\/Ccw v x y\/Ccw v y x:=by
 unfold Ccw;rw[show ev (lin v y) (pt x)= -ev (lin v x) (pt y) by unfold ev lin pt;grind];by_cases h:ev (lin v x) (pt y)=0
 .left;refine(N.ray hx hy h ?_).symm;have d:=Y3 ((qC o v x).1 ox) ((qC o v y).1 oy) (by rw[Ad];exact h);have:(tv o v x).x*(tv o v y).x+(tv o v x).y*(tv o v y).y=ev (ae v x) (pt y):=by unfold tv ev ae pt sub neg;cases o<;>simp<;>grind
  omega
 .omega
def K4{o:Bool}{v x y z:V}(ox:On o v x)(oy:On o v y)(oz:On o v z)(h1:Ccw v x y)(h2:Ccw v y z):Ccw v x z:=by unfold Ccw at*;rw[<-Ad o]at*;exact Ve ((qC o v x).1 ox) ((qC o v y).1 oy) ((qC o v z).1 oz) h1 h2
def Tri.sector(N:Net W side){a b c:V}(h:Tri W side ins a b c){x:V}(hx:side a x):¬(Ccw a b x/\Ccw a x c):=by
 unfold Ccw;rintro⟨h1,h2⟩;have h2':0<ev (lin c a) (pt x):=by rw[<-iG c a x];exact h2
 obtain⟨f,hf,hle⟩:=h.free N a x hx (1+(ev (lin b c) (pt x)).natAbs) 1 (by omega) (by omega) (by omega);dsimp only at hle;simp only[bT,cn,or_false]at hf;rcases hf with rfl|rfl|rfl
 .rw[cK,eL]at hle;omega
 .rw[iG a b c]at hle;have:=Int.mul_le_mul_of_nonneg_left (show 1<=ev (lin a b) (pt c) by have:=h.left;omega) (show 0<=1+((ev (lin b c) (pt x)).natAbs:Int) by omega);omega
 .rw[ci,eL]at hle;omega
def Mid(W:List V)(side:V->V->Prop)(ins:P3->Bool)(o:Bool)(v x:V):Prop:=On o v x/\∃y,Tri W side ins v x y/\On (!o) v y
def Mid.top(N:Net W side){o:Bool}{v x z:V}(h:Mid W side ins o v x)(hz:side v z)(oz:On o v z):z=x\/Ccw v z x:=by
 obtain⟨ox,y,T,oy⟩:=h;rcases BA N hz T.ab oz ox with e|e|e
 .exact .inl e
 .exact .inr e
 .refine absurd ⟨e,?_⟩ (T.sector N hz);unfold Ccw at*;have hl:=T.left;rw[<-Ad o]at*;exact Y0 ((qC o v x).1 ox) ((qC o v z).1 oz) (Pv oy) hl e
open Classical in
def Ju(N:Net W side){o:Bool}{v x:V}{P:V->Prop}(hx:side v x)(ox:On o v x)(px:P x):∃z,side v z/\On o v z/\P z/\∀y,side v y->On o v y->P y->y=z\/Ccw v y z:=by
 have mm:∀{y},y∈W.filter (λz=>decide (side v z/\On o v z/\P z))↔side v y/\On o v y/\P y:=λ{y}=>
  ⟨by grind,λh=>iX.2 ⟨N.mem (N.symm h.1),decide_eq_true h⟩⟩
 obtain⟨z,hz,h⟩:=GH (R:=Ccw v) (by grind) (λa ha b hb=>BA N (mm.1 ha).1 (mm.1 hb).1 (mm.1 ha).2.1 (mm.1 hb).2.1)
  (λa ha b hb c hc=>K4 (mm.1 ha).2.1 (mm.1 hb).2.1 (mm.1 hc).2.1)
 grind
open Classical in
def Jv(N:Net W side){o:Bool}{v x:V}{P:V->Prop}(hx:side v x)(ox:On o v x)(px:P x):∃z,side v z/\On o v z/\P z/\∀y,side v y->On o v y->P y->y=z\/Ccw v z y:=by
 have mm:∀{y},y∈W.filter (λz=>decide (side v z/\On o v z/\P z))↔side v y/\On o v y/\P y:=λ{y}=>
  ⟨by grind,λh=>iX.2 ⟨N.mem (N.symm h.1),decide_eq_true h⟩⟩
 obtain⟨z,hz,h⟩:=GH (R:=λa b=>Ccw v b a) (by grind) (λa ha b hb=>by
   rcases BA N (mm.1 ha).1 (mm.1 hb).1 (mm.1 ha).2.1 (mm.1 hb).2.1 with e|e|e
   .exact .inl e
   .grind
   grind)
  (λa ha b hb c hc h1 h2=>K4 (mm.1 hc).2.1 (mm.1 hb).2.1 (mm.1 ha).2.1 h2 h1)
 grind
structure Vtx(W:List V)(side:V->V->Prop)(ins:P3->Bool)(v u w:V):Prop where
 fill:Filled W side ins
 su:side v u
 sw:side v w
 lw:Lft ins v w
 lu:¬Lft ins v u
 out:∀x,side v x->x≠u->Lft ins v x
 inn:∀x,side v x->x≠w->Lft ins x v
variable {v u w:V}
def M5(X:Vtx W side ins v u w){o:Bool}{x:V}(hx:side v x)(ox:On o v x)(hu:x≠u)(ht:∀y,side v y->On o v y->y=x\/Ccw v y x):Mid W side ins o v x:=by
 have N:=X.fill.net;obtain⟨y,T⟩:=AN X.fill hx (X.out x hx hu);refine⟨ox,y,T,?_⟩;have hy:=N.symm T.ca;rcases yC (N.ne T.ca) o with g|g
 .rcases ht y hy g with e|e
  .exact absurd e.symm (N.ne T.bc)
  .exact absurd e (uS T.left)
 .exact g
def Nu(X:Vtx W side ins v u w){o:Bool}(hu:¬On o v u){x:V}(hx:side v x)(ox:On o v x):∃x,Mid W side ins o v x:=by obtain⟨z,z1,z2,_,z3⟩:=Ju X.fill.net (P:=λ_=>True) hx ox trivial;exact⟨z,M5 X z1 z2 (by grind) (by grind)⟩
def KY(X:Vtx W side ins v u w){o:Bool}(hu:On o v u){x:V}(hx:side v x)(ox:On o v x)(h:Ccw v u x):∃x,Mid W side ins o v x:=by
 obtain⟨z,z1,z2,_,z3⟩:=Ju X.fill.net (P:=λ_=>True) hx ox trivial;refine⟨z,M5 X z1 z2 (λe=> ?_) (by grind)⟩;subst e;rcases z3 x hx ox trivial with e|e
 .subst e;exact uS h h
 .exact uS h e
def Ey(X:Vtx W side ins v u w){o:Bool}(hu:On o v u)(hw:On o v w->Ccw v w u):¬∃x,Mid W side ins o v x:=by
 rintro⟨x,M⟩;have N:=X.fill.net;obtain⟨ox,y,T,oy⟩:=id M;have hxu:x≠u:=λe=>X.lu (by rw[<-e];exact T.lft X.fill);have hux:Ccw v u x:=(M.top N X.su hu).resolve_left (by grind);obtain⟨z,z1,z2,z3,z4⟩:=Jv N (P:=λz=>Ccw v u z) T.ab ox hux;have hzw:z≠w:=λe=>uS (hw (e▸z2)) (e▸z3);obtain⟨t,T2⟩:=AN X.fill (N.symm z1) (X.inn z z1 hzw);have T3:Tri W side ins v t z:=T2.rot;have htz:Ccw v t z:=T3.left;have st:=T3.ab;by_cases ot:On o v t
 .rcases BA N X.su st hu ot with e|e|e
  .exact X.lu (by rw[e];exact T3.lft X.fill)
  .rcases z4 t st ot e with e'|e'
   .exact N.ne T3.bc e'
   .exact uS htz e'
  .exact T3.sector N X.su ⟨e,z3⟩
 .have ot':=(yC (N.ne (N.symm st)) o).resolve_left ot;refine T3.sector N X.su ⟨?_,z3⟩;unfold Ccw at*;rw[<-Ad o]at*;exact aAm (Pv ot') ((qC o v u).1 hu) ((qC o v z).1 z2) htz z3
def WM(X:Vtx W side ins v u w){o:Bool}(hu:On (!o) v u)(hw:On (!o) v w)(h:Ccw v w u):¬∃x,Mid W side ins o v x:=by
 rintro⟨x,M⟩;have N:=X.fill.net;obtain⟨ox,y,T,oy⟩:=id M;obtain⟨z,z1,z2,_,z4⟩:=Jv N (P:=λ_=>True) T.ab ox trivial;have hzw:z≠w:=λe=>z2.not (e▸hw);obtain⟨t,T2⟩:=AN X.fill (N.symm z1) (X.inn z z1 hzw);have T3:Tri W side ins v t z:=T2.rot;have st:=T3.ab;have ot':On (!o) v t:=by
  refine(yC (N.ne (N.symm st)) o).resolve_left λot=> ?_;rcases z4 t st ot trivial with e|e
  .exact N.ne T3.bc e
  .exact uS T3.left e
 exact Ey X hu (λ_=>h) ⟨t,ot',z,T3,by grind⟩
def Uw(X:Vtx W side ins v u w){o:Bool}(hu:On (!o) v u)(hw:On (!o) v w)(h:Ccw v u w):∃x,Mid W side ins o v x:=by
 have N:=X.fill.net;by_cases hx:∃x,side v x/\On o v x
 .obtain⟨x,h1,h2⟩:=hx;exact Nu X (λg=>g.not hu) h1 h2
 .exfalso;obtain⟨x,ox,y,T,oy⟩:=KY X hu X.sw hw h;rw[Bool.not_not]at oy;exact hx ⟨y,N.symm T.ca,oy⟩
open Classical in
noncomputable def cnt(W:List V)(side:V->V->Prop)(ins:P3->Bool)(o:Bool)(v:V):Int:=if∃x,Mid W side ins o v x then 1 else 0
def F9{o:Bool}(h:∃x,Mid W side ins o v x):cnt W side ins o v=1:=if_pos h
def FE{o:Bool}(h:¬∃x,Mid W side ins o v x):cnt W side ins o v=0:=if_neg h
def PT{x:V}:Up (sub x v)↔On true v x:=by unfold On;simp
def OW{x:V}:Up (sub v x)↔On false v x:=by unfold On;rw[<-sub_neg,xf];simp
def Vtx.count(X:Vtx W side ins v u w)(ht:cross (sub v u) (sub w v)≠0):cnt W side ins true v+cnt W side ins false v=1-cr (sub v u) (sub w v):=by
 have N:=X.fill.net;have eu:ev (lin v w) (pt u)=cross (sub v u) (sub w v):=by rw[fP];unfold cross sub;grind
 have ew:ev (lin v u) (pt w)= -cross (sub v u) (sub w v):=by rw[fP];unfold cross sub;grind
 have ou:=yC (N.ne (N.symm X.su));have ow:=yC (N.ne (N.symm X.sw));have diff:∀o,On o v u->On (!o) v w->cnt W side ins o v=0/\cnt W side ins (!o) v=1:=λo h1 h2=>
  ⟨FE (Ey X h1 λg=>absurd h2 g.not),F9 (Nu X (λg=>h1.not g) X.sw h2)⟩
 have same:∀o,On o v u->On o v w->cnt W side ins o v+cnt W side ins (!o) v=1-sgn (cross (sub v u) (sub w v)):=λo h1 h2=>by
  have h1':On (!(!o)) v u:=by rw[Bool.not_not];exact h1
  have h2':On (!(!o)) v w:=by rw[Bool.not_not];exact h2
  rcases Int.lt_or_gt_of_ne ht with g|g
  .have k:Ccw v u w:=by unfold Ccw;rw[ew];omega
   rw[F9 (KY X h1 X.sw h2 k),F9 (Uw X h1' h2' k),show sgn (cross (sub v u) (sub w v))= -1 by unfold sgn;omega];rfl
  .have k:Ccw v w u:=by unfold Ccw;rw[eu];exact g
   rw[FE (Ey X h1 λ_=>k),FE (WM X h1' h2' k),show sgn (cross (sub v u) (sub w v))=1 by unfold sgn;rw[if_pos g]];rfl
 by_cases c:Up (sub v u)↔Up (sub w v)
 .rw[ue c];rw[OW,PT]at c;grind
 .rw[sZ c];rw[OW,PT]at c;grind
end
end Geo
end
section
namespace Geo
section
variable {s:Shape} {D:List S}
end
open Classical in
open Classical in
open Classical in
section
variable {s:Shape} {D:List S}
end
end Geo
end
section
namespace Geo
section
variable {s:Shape} {D:List S}
end
end Geo
end
section
namespace Geo
section
variable {s:Shape} {D:List S}
structure Idx(s:Shape)(D:List S)(v:List V)(L:List (Nat×Nat×Nat)):Prop where
 nodup:L.Nodup
 mem:∀i j k,(i,j,k)∈L↔i<j/\j<k/\k<v.length/\sides s D (nth v i) (nth v j)/\sides s D (nth v i) (nth v k)/\sides s D (nth v j) (nth v k)/\O8 s v i j k=true
end
end Geo
end
section
namespace Geo
section
variable (s:Shape) (v:List V) (T:Tab)
def kL(i j:Nat):Nat->List (Nat×Nat×Nat)
 |0=>[]
 |m+1=>kL i j m++(if T i (j+1+m)&&(T j (j+1+m)&&O8 s v i j (j+1+m))then [(i,j,j+1+m)]else [])
def jL(i:Nat):Nat->List (Nat×Nat×Nat)
 |0=>[]
 |m+1=>jL i m++(if T i (i+1+m)then kL s v T i (i+1+m) (v.length-(i+1+m+1))else [])
def iL:Nat->List (Nat×Nat×Nat)
 |0=>[]
 |i+1=>iL i++jL s v T i (v.length-(i+1))
variable {s v T}
end
section
variable {s:Shape} {v:List V} {T:Tab}
end
end Geo
end
section
namespace Geo
def T3.ring(t:T3):aH:=[t.a,t.b,t.c]
def Rt(t u:T3):Prop:=t=u\/t=u.rot\/t=u.rot.rot
def Rt.symm{t u:T3}(h:Rt t u):Rt u t:=by
 rcases h with rfl|rfl|rfl
 .exact .inl rfl
 .exact .inr (.inr rfl)
 .exact .inr (.inl rfl)
def Rt.trans{t u w:T3}(h:Rt t u)(g:Rt u w):Rt t w:=by
 rcases h with rfl|rfl|rfl<;>rcases g with rfl|rfl|rfl
 .exact .inl rfl
 .exact .inr (.inl rfl)
 .exact .inr (.inr rfl)
 .exact .inr (.inl rfl)
 .exact .inr (.inr rfl)
 .exact .inl rfl
 .exact .inr (.inr rfl)
 .exact .inl rfl
 .exact .inr (.inl rfl)
section
variable {W:List V} {side:V->V->Prop} {ins:P3->Bool}
end
end Geo
end
section
namespace Geo
def Og(x e:S):Bool:=decide (e=x)||decide (e=swp x)
def AJ{x:S}(hx:x≠swp x):∀{l:List S},l.Nodup->l.countP (Og x)=(if x∈l then 1 else 0)+(if swp x∈l then 1 else 0)
 |[],_=>by simp
 |e::l,h=>by
  rw[lF]at h;rw[List.countP_cons,AJ hx h.2];unfold Og;grind
section
variable {s:Shape} {D:List S}
end
end Geo
end
section
namespace Geo
def Bet(q:P3)(a b:V):Prop:=∃x y k:Int,0<=x/\0<=y/\0<k/\cmb x (pt a) y (pt b)=cmb k q 0 q
def Bet.swap{q:P3}{a b:V}(h:Bet q a b):Bet q b a:=by obtain⟨x,y,k,h1,h2,h3,h4⟩:=h;exact⟨y,x,k,h2,h1,h3,by rw[kj];exact h4⟩
section
variable {s:Shape} {D:List S}
end
end Geo
end
section
namespace Geo
section
variable {s:Shape} {D:List S}
variable (T:Tg s D) {q:Pt} (hq:dK q=true) (hqd:0<q.den)
include T hq hqd
end
end Geo
end
namespace Geo
def gg(v:V):Prop:=0<v.y\/(v.y=0/\0<v.x)
instance(v:V):Decidable (gg v):=by unfold gg;infer_instance
def dot(a b:V):Int:=a.x*b.x+a.y*b.y
def alt(a b:V):Prop:=(gg a/\¬gg b)\/((gg a↔gg b)/\0<cross a b)
instance(a b:V):Decidable (alt a b):=by unfold alt;infer_instance
def iq(f t:V):Int:=if 0<cross f t then 0 else if cross f t<0 then 2 else if dot f t<0 then 1 else 3
def ip(f a b:V):Bool:=decide (iq f a<iq f b)||(decide (iq f a=iq f b)&&decide (0<cross a b))
def nz(v:V):Prop:=¬(v.x=0/\v.y=0)
def jC(a b:V):Prop:=¬(cross a b=0/\0<=dot a b)
def Mb(a b:V):dot b a=dot a b:=by unfold dot;grind
def jC.symm{a b:V}(h:jC a b):jC b a:=λ⟨h1,h2⟩=>h ⟨by rw[ig]at h1;omega,by rw[Mb]at h2;exact h2⟩
def Fj{a:V}(ha:gg a){k:Int}(hk:0<=k):0<=k*a.y/\(k*a.y=0->0<=k*a.x/\(k*a.x=0->k=0)):=by
 rcases ha with h|⟨h,h2⟩
 .refine⟨cV hk (by omega),λh0=> ?_⟩;rcases dt.1 h0 with h1|h1
  .grind
  .omega
 .rw[h,eL];refine⟨jH _,λ_=>⟨cV hk (by omega),λh0=> ?_⟩⟩;rcases dt.1 h0 with h1|h1
  .exact h1
  .omega
def aBL{a b c:V}(ha:gg a)(hb:gg b)(hc:gg c){i j k:Int}(hi:0<=i)(hj:0<=j)(hk:0<=k)(hx:i*a.x+j*b.x+k*c.x=0)(hy:i*a.y+j*b.y+k*c.y=0):i=0/\j=0/\k=0:=by obtain⟨a1,a2⟩:=Fj ha hi;obtain⟨b1,b2⟩:=Fj hb hj;obtain⟨c1,c2⟩:=Fj hc hk;omega
def eV(v:V):Int:=if gg v then 1 else-1
def Gg{v:V}(h:nz v):gg ⟨eV v*v.x,eV v*v.y⟩:=by
 unfold eV nz at*;by_cases hp:gg v
 .simp_all
 .unfold gg at*;grind
def HG(v:V):eV v*eV v=1:=by unfold eV;split<;>rfl
def aAo(u v w:V):cross u v*w.x+cross v w*u.x+cross w u*v.x=0/\cross u v*w.y+cross v w*u.y+cross w u*v.y=0:=by unfold cross;grind
def wf{u v w:V}(hu:nz u)(hv:nz v)(hw:nz w)(h1:0<=eV w*cross u v)(h2:0<=eV u*cross v w)(h3:0<=eV v*cross w u):cross u v=0/\cross v w=0/\cross w u=0:=by obtain⟨x,y⟩:=aAo u v w;have sw:=HG w;have su:=HG u;have sv:=HG v;have key:=aBL (Gg hw) (Gg hu) (Gg hv) h1 h2 h3 (by grind) (by grind);grind
def zQ{u v w:V}(hu:nz u)(hv:nz v)(hw:nz w)(h1:eV w*cross u v<=0)(h2:eV u*cross v w<=0)(h3:eV v*cross w u<=0):cross u v=0/\cross v w=0/\cross w u=0:=by have:=wf hv hu hw (by rw[ig u v,mf];omega) (by rw[ig w u,mf];omega) (by rw[ig v w,mf];omega);rw[ig u v,ig w u,ig v w]at this;omega
def qi{u v:V}(hu:nz u)(hv:nz v)(h:cross u v=0):(0<dot u v/\(gg u↔gg v))\/(dot u v<0/\(gg u↔¬gg v)):=by
 have e1:dot u u*v.x=dot u v*u.x:=by unfold dot cross at*;grind
 have e2:dot u u*v.y=dot u v*u.y:=by unfold dot cross at*;grind
 have hd:0<dot u u:=by
  unfold dot nz at*;have sq:∀x:Int,0<=x*x:=λx=>by
   rcases Int.le_total 0 x with h|h
   .exact cV h h
   .have:=cV (show 0<= -x by omega) (show 0<= -x by omega);grind
  have h1:=sq u.x;have h2:=sq u.y;by_cases hx:u.x=0
  .have hy:u.y≠0:=by grind
   have:u.y*u.y≠0:=λh=>by rcases dt.1 h with h|h<;>exact hy h
   omega
  .have:u.x*u.x≠0:=λh=>by rcases dt.1 h with h|h<;>exact hx h
   omega
 generalize dot u u=d at*;generalize dot u v=k at*;have sg:∀a b:Int,d*a=k*b->(0<k->(0<a↔0<b)/\(a=0↔b=0))/\(k<0->(0<a↔b<0)/\(a=0↔b=0)/\(a<0↔0<b))/\(k=0->a=0):=by
  intro a b e;obtain⟨p1,p2,p3,p4,p5,p6⟩:=Pj d a;obtain⟨q1,q2,q3,q4,q5,q6⟩:=Pj k b;refine⟨λhk=> ?_,λhk=> ?_,λhk=> ?_⟩
  .grind
  .grind
  .grind
 obtain⟨x1,x2,x3⟩:=sg _ _ e1;obtain⟨y1,y2,y3⟩:=sg _ _ e2;rcases Int.lt_trichotomy k 0 with hk|hk|hk
 .unfold gg nz at*;omega
 .exact absurd (by grind) hv
 .unfold gg;omega
def Hr(u v w:V):Prop:=(alt u v/\alt v w)\/(alt v w/\alt w u)\/(alt w u/\alt u v)
def XW{u v w:V}(hu:nz u)(hv:nz v)(hw:nz w)(_h1:jC u v)(_h2:jC v w)(_h3:jC w u):ip u v w=true↔Hr u v w:=by have t1:=wf hu hv hw;have t2:=zQ hu hv hw;have l1:=qi hu hv;have l3:=qi hw hu;have d3:=Mb w u;have c3:=ig w u;unfold jC at _h1 _h2 _h3;unfold eV at t1 t2;unfold ip Hr alt iq;generalize cross u v=a at*;grind
end Geo
section
namespace Geo
def FL{a b:V}(h:alt a b):¬alt b a:=by have c:=ig a b;unfold alt at*;grind
def oe(p q:V)(cw:Bool)(b:V):List V->V
 |[] =>b
 |x::l=>if x=q then oe p q cw b l else if b=q\/ip (sub q p) (sub x p) (sub b p)≠cw then oe p q cw x l else oe p q cw b l
def dX(l:List V)(p q:V)(cw:Bool):V:=oe p q cw q l
def mw{p q m:V}{cw:Bool}(hm:m≠q){S:V->Prop}(H1:∀x,S x->x≠q->x≠m->ip (sub q p) (sub m p) (sub x p)≠cw)(H2:∀x,S x->x≠q->x≠m->¬ip (sub q p) (sub x p) (sub m p)≠cw):
  ∀(l:List V) (b:V),(∀x∈l,S x)->(b=q\/S b)->(b=m\/m∈l)->oe p q cw b l=m
 |[],b,_,_,h=>by
  rcases h with h|h
  .exact h
  .cases h
 |x::l,b,hl,hb,h=>by
  have hl':∀y∈l,S y:=by grind
  have hx:=hl x cI;unfold oe;by_cases e1:x=q
  .rw[if_pos e1];refine mw hm H1 H2 l b hl' hb ?_;grind
  .rw[if_neg e1];by_cases e2:x=m
   .subst e2;by_cases e3:b=x
    .subst e3;split
     .exact mw hm H1 H2 l b hl' (.inr hx) (.inl rfl)
     .exact mw hm H1 H2 l b hl' (.inr hx) (.inl rfl)
    .rw[if_pos]
     .exact mw hm H1 H2 l x hl' (.inr hx) (.inl rfl)
     grind
   .by_cases e3:b=m
    .subst e3;rw[if_neg]
     .exact mw hm H1 H2 l b hl' hb (.inl rfl)
     grind
    .have hml:m∈l:=by
      rcases h with h|h
      .grind
      .grind
     split
     .exact mw hm H1 H2 l x hl' (.inr hx) (.inr hml)
     .exact mw hm H1 H2 l b hl' hb (.inr hml)
def zO{p q:V}{cw:Bool}:∀(l:List V),(∀x∈l,x=q)->oe p q cw q l=q
 |[],_=>rfl
 |x::l,h=>by
  unfold oe;rw[if_pos (h x (by grind))];exact zO l (by grind)
structure Fan(p:V)(L:List V):Prop where
 nz:∀x∈L,nz (sub x p)
 apart:∀x∈L,∀y∈L,x≠y->jC (sub x p) (sub y p)
 sorted:L.Pairwise λa b=>alt (sub a p) (sub b p)
def OV(a:V):¬alt a a:=λh=>FL h h
section
variable {p:V} {L:List V}
def Fan.nodup(F:Fan p L):L.Nodup:=Cb (R:=λa b=>alt (sub a p) (sub b p)) (λ{a b} h (e:a=b)=>by subst e;exact OV _ h) F.sorted
def Fan.lt(F:Fan p L){i j:Nat}(hi:i<L.length)(hj:j<L.length)(h:i<j):alt (sub L[i] p) (sub L[j] p):=nU.1 F.sorted i j hi hj h
def Fan.ix(F:Fan p L){i j:Nat}(hi:i<L.length)(hj:j<L.length):alt (sub L[i] p) (sub L[j] p)↔i<j:=by
 constructor
 .intro h;rcases Nat.lt_trichotomy i j with h1|h1|h1
  .exact h1
  .subst h1;exact absurd h (OV _)
  .exact absurd h (FL (F.lt hj hi h1))
 .exact F.lt hi hj
def Fan.ne(F:Fan p L){i j:Nat}(hi:i<L.length)(hj:j<L.length)(h:i≠j):L[i]≠L[j] :=by
 rcases Nat.lt_or_gt_of_ne h with h1|h1
 .exact nU.1 F.nodup i j hi hj h1
 .exact(nU.1 F.nodup j i hj hi h1).symm
def Fan.soon(F:Fan p L){i j k:Nat}(hi:i<L.length)(hj:j<L.length)(hk:k<L.length)(h1:i≠j)(h2:j≠k)(h3:k≠i):
  ip (sub L[i] p) (sub L[j] p) (sub L[k] p)=true↔(i<j/\j<k)\/(j<k/\k<i)\/(k<i/\i<j):=by
 have m:∀{i:Nat} (hi:i<L.length),L[i]∈L:=by grind
 rw[XW (F.nz _ (m hi)) (F.nz _ (m hj)) (F.nz _ (m hk)) (F.apart _ (m hi) _ (m hj) (F.ne hi hj h1)) (F.apart _ (m hj) _ (m hk) (F.ne hj hk h2)) (F.apart _ (m hk) _ (m hi) (F.ne hk hi h3))];unfold Hr;rw[F.ix hi hj,F.ix hj hk,F.ix hk hi]
def Fan.next(F:Fan p L){l:List V}(hl:∀x,x∈l↔x∈L){i:Nat}(hi:i<L.length){j:Nat}(hj:j<L.length)(hij:j=(i+1) % L.length):dX l p L[i] false=L[j] :=by
 by_cases h1:L.length=1
 .have e:j=i:=by rw[hij,h1];omega
  subst e;refine zO l λx hx=> ?_;obtain⟨k,hk,rfl⟩:=iZ.1 ((hl x).1 hx);grind
 .have hc:(j=i+1/\i+1<L.length)\/(j=0/\i+1=L.length):=by
   by_cases h:i+1<L.length
   .rw[hij,dZ h];omega
   .have:i+1=L.length:=by omega
    simp_all
  have hne:j≠i:=by omega
  refine mw (S:=λx=>x∈L) (F.ne hj hi hne) ?_ ?_ l _ (by grind) (.inl rfl) (by grind)
  .intro x hx e1 e2;obtain⟨k,hk,rfl⟩:=iZ.1 hx;have k1:k≠i:=by grind
   have k2:k≠j:=by grind
   rw[(F.soon hi hj hk (pF hne) (pF k2) k1).2 (by omega)];simp
  .intro x hx e1 e2;obtain⟨k,hk,rfl⟩:=iZ.1 hx;have k1:k≠i:=by grind
   have k2:k≠j:=by grind
   have:=mt (F.soon hi hk hj (pF k1) k2 hne).1 (by omega);grind
def Fan.prev(F:Fan p L){l:List V}(hl:∀x,x∈l↔x∈L){i:Nat}(hi:i<L.length){j:Nat}(hj:j<L.length)(hij:j=(i+L.length-1) % L.length):dX l p L[i] true=L[j] :=by
 by_cases h1:L.length=1
 .have e:j=i:=by omega
  subst e;refine zO l λx hx=> ?_;obtain⟨k,hk,rfl⟩:=iZ.1 ((hl x).1 hx);grind
 .have hc:(i=j+1)\/(i=0/\j+1=L.length):=by
   by_cases h:i=0
   .rw[hij,dZ (by omega)];omega
   .rw[hij,show i+L.length-1=(i-1)+L.length by omega,pB,dZ (by omega)];omega
  have hne:j≠i:=by omega
  refine mw (S:=λx=>x∈L) (F.ne hj hi hne) ?_ ?_ l _ (by grind) (.inl rfl) (by grind)
  .intro x hx e1 e2;obtain⟨k,hk,rfl⟩:=iZ.1 hx;have k1:k≠i:=by grind
   have k2:k≠j:=by grind
   have:=mt (F.soon hi hj hk (pF hne) (pF k2) k1).1 (by omega);omega
  .intro x hx e1 e2;obtain⟨k,hk,rfl⟩:=iZ.1 hx;have k1:k≠i:=by grind
   have k2:k≠j:=by grind
   rw[(F.soon hi hk hj (pF k1) k2 hne).2 (by omega)];simp
end
end Geo
end
section
namespace Geo
section
variable {W:List V} {side:V->V->Prop}
def lW{a p:V}(h:a≠p):nz (sub a p):=λ⟨h1,h2⟩=>h (by obtain⟨ax,ay⟩:=a;obtain⟨px,py⟩:=p;unfold sub at h1 h2;grind)
def Net.fanApart(N:Net W side){p x y:V}(hx:side p x)(hy:side p y)(hne:x≠y):jC (sub x p) (sub y p):=λ⟨h1,h2⟩=>hne (by
 symm;refine N.ray hx hy (by rw[fP];exact h1) ?_;have e:ev (ae p x) (pt y)=dot (sub x p) (sub y p):=by unfold ev ae pt dot sub;grind
 omega)
def aAX(N:Net W side){p:V}{L:List V}(h:∀x∈L,side p x)(hs:L.Pairwise λa b=>alt (sub a p) (sub b p)):Fan p L where
 nz:=λx hx=>lW (N.ne (h x hx)).symm
 apart:=λx hx y hy hne=>N.fanApart (h x hx) (h y hy) hne
 sorted:=hs
end
def XB{a b c:V}(ha:nz a)(hb:nz b)(hc:nz c)(h1:alt a b)(h2:alt b c):alt a c:=by have t1:=wf ha hb hc;have t2:=zQ ha hb hc;have c3:=ig a c;unfold eV at t1 t2;unfold alt at*;grind
def aAl{a b:V}(ha:nz a)(hb:nz b)(h:jC a b)(h1:¬alt a b):alt b a:=by have l:=qi ha hb;have c:=ig a b;unfold jC at h;unfold alt at*;grind
end Geo
end
section
namespace Geo
def cu:V->List V->List S
 |_,[] =>[]
 |a,x::l=>⟨a,x⟩::cu x l
def cyc:List V->List S
 |[] =>[]
 |a::l=>cu a (l++[a])
def ti:∀(a:V) (l:List V) (x:V) (m:List V),cu a (l++x::m)=cu a (l++[x])++cu x m
 |a,[],x,m=>rfl
 |a,y::l,x,m=>by
  show(⟨a,y⟩:S)::cu y (l++x::m)=(⟨a,y⟩:S)::(cu y (l++[x])++cu x m);rw[ti y l x m]
def zp:∀(a:V) (l:List V) (x:V),(cu a (l++[x])).map S.a=a::l
 |a,[],x=>rfl
 |a,y::l,x=>by
  show a::(cu y (l++[x])).map S.a=_;rw[zp y l x]
def zq:∀(a:V) (l:List V),(cu a l).map S.b=l
 |a,[] =>rfl
 |a,y::l=>by
  show y::(cu y l).map S.b=_;rw[zq y l]
def sQ:∀r:List V,(cyc r).map S.a=r
 |[] =>rfl
 |a::l=>zp a l a
def EX{r:List V}(h:r.Nodup):(cyc r).Nodup:=by rw[<-sQ r]at h;exact Cb (by grind) (List.pairwise_map.1 h)
def vB{r:List V}{e:S}(h:e∈cyc r):e.a∈r:=by rw[<-sQ r];grind
def tH{r:List V}{e:S}(h:e∈cyc r):e.b∈r:=by
 cases r with
 |nil=>cases h
 |cons a l=>
  have:e.b∈(cu a (l++[a])).map S.b:=bZ.2 ⟨e,h,rfl⟩;rw[zq]at this;grind
def OO(a:V)(l:List V):(cyc (l++[a])).Perm (cyc (a::l)):=by
 cases l with
 |nil=>exact .refl _
 |cons x m=>
  show(cu x (m++[a] ++[x])).Perm (⟨a,x⟩::cu x (m++[a]));rw[jw,Cc,ti];exact(vV (l₁:=cu x (m++[a])) (l₂:=cu a [x]))
structure CX(r:List V):Prop where
 three:3<=r.length
 nodup:r.Nodup
 left:∀e∈cyc r,∀v∈r,0<=ev (lin e.a e.b) (pt v)
def CX.rot{a:V}{l:List V}(h:CX (a::l)):CX (l++[a]) where
 three:=by have:=h.three;grind
 nodup:=(vV (l₁:=l) (l₂:=[a])).nodup_iff.2 h.nodup
 left:=λe he v hv=>h.left e ((OO a l).mem_iff.1 he) v (by grind)
def UM{u p q:V}(hu:nz u)(hp:nz p)(hq:nz q)(h1:jC u p)(h2:jC u q)(h3:jC p q)(a:0<=cross u p)(b:cross u q<=0)(c:cross p q<=0):0<cross u p/\cross u q<0:=by have t1:=wf hu hp hq;have t2:=zQ hu hp hq;have l1:=qi hu hp;have l2:=qi hu hq;have l3:=qi hp hq;have c3:=ig u q;unfold eV at t1 t2;unfold jC at h1 h2 h3;grind
def OP{f:P3}{o w u v:V}(h0:ev f (pt o)=0)(hw:0<=ev f (pt w))(hu:0<=ev f (pt u))(hD:0<ev (lin o w) (pt u))(h1:0<=ev (lin o w) (pt v))(h2:0<=ev (lin u o) (pt v)):0<=ev f (pt v):=by
 have e:ev (lin o w) (pt u)*ev f (pt v)=ev (lin u o) (pt v)*ev f (pt w)+ev (lin o w) (pt v)*ev f (pt u)+(ev (lin o w) (pt u)-ev (lin u o) (pt v)-ev (lin o w) (pt v))*ev f (pt o):=by unfold ev lin pt;grind
 have a:=cV h2 hw;have b:=cV h1 hu;rw[h0,eL]at e;by_cases hn:ev f (pt v)<0
 .have:=gm hD hn;omega
 .omega
section
variable {W:List V} {side:V->V->Prop}
def Yq{i j v p:V}{f k1 k2:P3}(hij:i≠j)(h1i:ev k1 (pt i)=0)(h1j:0<ev k1 (pt j))(h2j:ev k2 (pt j)=0)(h2i:0<ev k2 (pt i))(fi:0<=ev f (pt i))(fj:0<=ev f (pt j))
  (hv:ev (lin i j) (pt v)<=0) (v1:0<=ev k1 (pt v)) (v2:0<=ev k2 (pt v)) (hp:0<ev (lin i j) (pt p)) (p1:0<=ev k1 (pt p)) (p2:0<=ev k2 (pt p)) (fp:ev f (pt p)=0):0<=ev f (pt v):=by
 have hL:=il hij;have hQ:ev (lin i j) (cmb (ev (lin i j) (pt p)) (pt v) (-ev (lin i j) (pt v)) (pt p))=0:=by rw[ao,Int.neg_mul,Int.mul_comm];omega
 have g:=kh hQ;have e:∀k:P3,ev k (cmb (ev (lin i j) (pt p)) (pt v) (-ev (lin i j) (pt v)) (pt p))=ev (lin i j) (pt p)*ev k (pt v)+ -ev (lin i j) (pt v)*ev k (pt p):=λk=>ao ..;generalize cmb (ev (lin i j) (pt p)) (pt v) (-ev (lin i j) (pt v)) (pt p)=Q at*;have m:∀k:P3,(bm i j*Q.d-ev (ae i j) Q)*ev k (pt i)+ev (ae i j) Q*ev k (pt j)=bm i j*ev k Q:=λk=>by rw[<-ao,g];unfold ev;grind
 generalize ev (ae i j) Q=t at*;generalize bm i j*Q.d-t=s at*;generalize bm i j=L at*;have q1:0<=ev k1 Q:=by rw[e k1];exact Int.add_nonneg (cV (by omega) v1) (cV (by omega) p1)
 have q2:0<=ev k2 Q:=by rw[e k2];exact Int.add_nonneg (cV (by omega) v2) (cV (by omega) p2)
 have m1:=m k1;have m2:=m k2;have m3:=m f;rw[h1i,eL]at m1;rw[h2j,eL]at m2;have t0:0<=t:=by
  have:=cV (show 0<=L by omega) q1;by_cases hn:t<0
  .have:=ma hn h1j;omega
  .omega
 have s0:0<=s:=by
  have:=cV (show 0<=L by omega) q2;by_cases hn:s<0
  .have:=ma hn h2i;omega
  .omega
 have f0:0<=L*ev f Q:=by rw[<-m3];exact Int.add_nonneg (cV s0 fi) (cV t0 fj)
 rw[e f,fp,eL,Int.add_zero]at f0;by_cases hn:ev f (pt v)<0
 .have:=gm hL (gm hp hn);omega
 .omega
def Net.onSide(N:Net W side){i j a:V}{k1 k2:P3}(hij:side i j)(ha:a∈W)(h1i:ev k1 (pt i)=0)(h1j:0<ev k1 (pt j))(h2j:ev k2 (pt j)=0)(h2i:0<ev k2 (pt i))(h0:ev (lin i j) (pt a)=0)(a1:0<=ev k1 (pt a))(a2:0<=ev k2 (pt a)):a=i\/a=j:=by
 have hL:=il (N.ne hij);have g:=kh h0;have m:∀k:P3,(bm i j*(pt a).d-ev (ae i j) (pt a))*ev k (pt i)+ev (ae i j) (pt a)*ev k (pt j)=bm i j*ev k (pt a):=λk=>by rw[<-ao,g];unfold ev;grind
 have m1:=m k1;have m2:=m k2;rw[h1i,eL]at m1;rw[h2j,eL]at m2;refine N.clear hij ha (bm i j*(pt a).d-ev (ae i j) (pt a)) (ev (ae i j) (pt a)) (bm i j) ?_ ?_ (by rw[g];unfold cmb pt;simp) hL
 .by_cases hn:bm i j*(pt a).d-ev (ae i j) (pt a)<0
  .have:=ma hn h2i;have:=cV (show 0<=bm i j by omega) a2;omega
  .omega
 .by_cases hn:ev (ae i j) (pt a)<0
  .have:=ma hn h1j;have:=cV (show 0<=bm i j by omega) a1;omega
  .omega
end
end Geo
end
section
namespace Geo
structure Jn(W:List V)(side:V->V->Prop)(r1 r2:List V)(i j x y z w:V):Prop where
 net:Net W side
 c1:CX r1
 c2:CX r2
 s1:∀e∈cyc r1,side e.a e.b
 s2:∀e∈cyc r2,side e.a e.b
 ij:(⟨i,j⟩:S)∈cyc r1
 jx:(⟨j,x⟩:S)∈cyc r1
 yi:(⟨y,i⟩:S)∈cyc r1
 ji:(⟨j,i⟩:S)∈cyc r2
 iw:(⟨i,w⟩:S)∈cyc r2
 zj:(⟨z,j⟩:S)∈cyc r2
 t1:0<=ev (lin y i) (pt w)
 t2:0<=ev (lin z j) (pt x)
 yw:y≠w
 zx:z≠x
 yj:y≠j
 xi:x≠i
 zi:z≠i
 wj:w≠j
section
variable {W:List V} {side:V->V->Prop} {r1 r2:List V} {i j x y z w:V}
def Jn.symm(J:Jn W side r1 r2 i j x y z w):Jn W side r2 r1 j i w z y x:=
 ⟨J.net,J.c2,J.c1,J.s2,J.s1,J.ji,J.iw,J.zj,J.ij,J.jx,J.yi,J.t2,J.t1,J.zx,J.yw,J.zi,J.wj,J.yj,J.xi⟩
def Jn.corner(J:Jn W side r1 r2 i j x y z w):0<ev (lin i j) (pt y)/\ev (lin i j) (pt w)<0:=by
 have N:=J.net;have sj:=J.s1 _ J.ij;have sy:=N.symm (J.s1 _ J.yi);have sw:=J.s2 _ J.iw;dsimp only at sj sy sw;have a:=J.c1.left _ J.ij y (vB J.yi);have b:=J.c2.left _ J.ji w (tH J.iw);have c:=J.t1;dsimp only at a b;rw[ki]at b c;have k:=UM (lW (N.ne sj).symm) (lW (N.ne sy).symm) (lW (N.ne sw).symm) (N.fanApart sj sy J.yj.symm) (N.fanApart sj sw J.wj.symm) (N.fanApart sy sw J.yw)
  (by rw[<-fP];exact a) (by rw[<-fP];omega) (by rw[<-fP];omega)
 rw[<-fP,<-fP]at k;exact k
def Jn.ends(J:Jn W side r1 r2 i j x y z w):0<ev (lin y i) (pt j)/\0<ev (lin j x) (pt i)/\0<ev (lin i w) (pt j)/\0<ev (lin j i) (pt z):=by
 obtain⟨a,b⟩:=J.corner;obtain⟨c,d⟩:=J.symm.corner;refine⟨by rw[<-iG];exact a,?_,?_,c⟩
 .rw[iG,ki];omega
 .rw[iG,ki];omega
def Jn.pos(J:Jn W side r1 r2 i j x y z w){a:V}(ha:a∈r1):a=i\/a=j\/0<ev (lin i j) (pt a):=by
 obtain⟨e1,e2,_,_⟩:=J.ends;have h:=J.c1.left _ J.ij a ha;dsimp only at h;by_cases h0:ev (lin i j) (pt a)=0
 .have m:a∈W:=by rw[<-sQ r1]at ha;obtain⟨e,he,rfl⟩:=bZ.1 ha;exact J.net.mem (J.s1 e he)
  rcases J.net.onSide (J.s1 _ J.ij) m (ci y i) e1 (cK j x) e2 h0 (J.c1.left _ J.yi a ha) (J.c1.left _ J.jx a ha)with e|e
  .exact .inl e
  grind
 omega
def Jn.half(J:Jn W side r1 r2 i j x y z w){e:S}(he:e∈cyc r1)(hne:e≠⟨i,j⟩){v:V}(hv:v∈r2):0<=ev (lin e.a e.b) (pt v):=by
 obtain⟨e1,e2,e3,e4⟩:=J.ends;have hi:=vB J.ij;have hj:=tH J.ij;have vji:=J.c2.left _ J.ji v hv;have viw:=J.c2.left _ J.iw v hv;have vzj:=J.c2.left _ J.zj v hv;dsimp only at vji viw vzj;have v1:0<=ev (lin y i) (pt v):=OP (ci y i) J.t1 (by omega) e3 viw vji;have v2:0<=ev (lin j x) (pt v):=OP (cK j x) (by omega) (by rw[iG];exact J.t2) e4 vji vzj;have vij:ev (lin i j) (pt v)<=0:=by rw[ki]at vji;omega
 have key:∀p∈r1,ev (lin e.a e.b) (pt p)=0->0<ev (lin i j) (pt p)->0<=ev (lin e.a e.b) (pt v):=λp hp h0 h1=>
  Yq (J.net.ne (J.s1 _ J.ij)) (ci y i) e1 (cK j x) e2 (J.c1.left e he i hi) (J.c1.left e he j hj) vij v1 v2 h1 (J.c1.left _ J.yi p hp) (J.c1.left _ J.jx p hp) h0
 have ka:=key e.a (vB he) (cK _ _);have kb:=key e.b (tH he) (ci _ _);rcases J.pos (vB he)with h|h|h
 .rcases J.pos (tH he)with g|g|g
  .exact absurd (h.trans g.symm) (J.net.ne (J.s1 e he))
  .exact absurd (by cases e;grind) hne
  .exact kb g
 .rcases J.pos (tH he)with g|g|g
  .grind
  .exact absurd (h.trans g.symm) (J.net.ne (J.s1 e he))
  .exact kb g
 .exact ka h
end
def FD(i j:V)(A B:List V):cyc (i::(B++j::A))=cu i (B++[j])++cu j (A++[i]):=by show cu i (B++j::A++[i])=_;rw[jw,kM,ti]
def CX.join{W:List V}{side:V->V->Prop}{i j x y z w:V}{A B:List V}(J:Jn W side (i::j::A) (j::i::B) i j x y z w):CX (i::(B++j::A)):=by
 have n1:=J.c1.nodup;have n2:=J.c2.nodup;have q1:=lF.1 (EX J.c1.nodup);have q2:=lF.1 (EX J.c2.nodup);have dis:∀a∈A,∀b∈B,a≠b:=λa ha b hb e=>by subst e;have p1:=J.pos (a:=a) (by grind);have p2:=J.symm.pos (a:=a) (by grind);rw[ki]at p2;grind
 refine⟨?_,?_,?_⟩
 .have h1:=J.c1.three;grind
 .grind
 .intro e he v hv;have vv:v∈i::j::A\/v∈j::i::B:=by
   rcases bT.1 hv with h|h
   .grind
   .grind
  rw[FD]at he;rcases bg.1 he with he|he
  .have h2:e∈cyc (j::i::B):=cE _ he;rcases vv with h|h
   .exact J.symm.half h2 (λg=>q2.1 (g▸he)) h
   .exact J.c2.left e h2 v h
  .have h1:e∈cyc (i::j::A):=cE _ he;rcases vv with h|h
   .exact J.c1.left e h1 v h
   .exact J.half h1 (λg=>q1.1 (g▸he)) h
end Geo
end
namespace Geo
def mG:∀(k l:List V),(cyc (l++k)).Perm (cyc (k++l))
 |[],l=>by grind
 |a::k,l=>by
  have h1:=mG k (l++[a]);rw[jw,Cc,<-jw]at h1;exact h1.trans (OO a (k++l))
def CX.swap:∀{k l:List V},CX (k++l)->CX (l++k)
 |[],l,h=>by grind
 |a::k,l,h=>by
  have h1:=CX.rot (a:=a) (l:=k++l) h;rw[jw]at h1;have h2:=CX.swap h1;grind
def Jl{α β:Type}{f:α->β}:∀{l:List α},(l.map f).Nodup->∀{a b:α},a∈l->b∈l->f a=f b->a=b
 |x::l,h,a,b,ha,hb,e=>by
  rw[dB,lF]at h;rcases bT.1 ha with ha|ha<;>rcases bT.1 hb with hb|hb
  .rw[ha,hb]
  .grind
  .grind
  .exact Jl h.2 ha hb e
def A6{r:List V}(h:r.Nodup){e f:S}(he:e∈cyc r)(hf:f∈cyc r)(g:e.a=f.a):e=f:=
 Jl (f:=S.a) (by rw[sQ];exact h) he hf g
def BO{r:List V}(h:CX r){i j:V}(hm:(⟨i,j⟩:S)∈cyc r):∃k l A,r=k++l/\l++k=i::j::A:=by
 have hi:=vB hm;obtain⟨k,l,rfl⟩:=IE hi;have h2:=h.swap;have hp:=(mG k (i::l)).mem_iff (a:=(⟨i,j⟩:S));have hm2:=hp.2 hm;have h3:=h2.three;rw[kM]at h2 hm2 h3;match e:l++k with
 |[] =>grind
 |j'::A=>
  rw[e]at hm2 h2;have:=A6 h2.nodup hm2 (show(⟨i,j'⟩:S)∈cyc (i::j'::A)from cI) rfl;grind
structure Faces(nx:S->V)(H:S->Prop)(F:List (List V)):Prop where
 cx:∀r∈F,CX r
 once:(F.flatMap cyc).Nodup
 all:∀e,e∈F.flatMap cyc↔H e
 next:∀r∈F,∀e∈cyc r,∀f∈cyc r,e.b=f.a->nx e=f.b
def Faces.perm{nx:S->V}{H:S->Prop}{F G:List (List V)}(h:Faces nx H F)(p:F.Perm G):Faces nx H G where
 cx:=λr hr=>h.cx r (p.mem_iff.2 hr)
 once:=(p.flatMap_right cyc).nodup_iff.1 h.once
 all:=λe=>by rw[<-(p.flatMap_right cyc).mem_iff];exact h.all e
 next:=λr hr=>h.next r (p.mem_iff.2 hr)
def Faces.rotF{nx:S->V}{H:S->Prop}{k l:List V}{F:List (List V)}(h:Faces nx H ((k++l)::F)):Faces nx H ((l++k)::F):=by
 have p:(((k++l)::F).flatMap cyc).Perm (((l++k)::F).flatMap cyc):=by rw[fM,fM];exact(mG l k).append_right _
 refine⟨λr hr=> ?_,p.nodup_iff.1 h.once,λe=>by rw[<-p.mem_iff];exact h.all e,λr hr e he f hf=> ?_⟩
 .rcases bT.1 hr with e|hr
  .subst e;exact(h.cx _ (by grind)).swap
  .exact h.cx r (by grind)
 .rcases bT.1 hr with g|hr
  .subst g;exact h.next _ (by grind) e ((mG k l).mem_iff.1 he) f ((mG k l).mem_iff.1 hf)
  .exact h.next r (by grind) e he f hf
def Faces.drop{W:List V}{side:V->V->Prop}(N:Net W side){nx nx':S->V}{H:S->Prop}{F:List (List V)}(Fc:Faces nx H F)(hs:∀e,H e->side e.a e.b){i j:V}(hij:H ⟨i,j⟩)(hji:H ⟨j,i⟩)
  (h1:∀e,H e->e.b=i->nx e=j->nx' e=nx ⟨j,i⟩) (h2:∀e,H e->e.b=j->nx e=i->nx' e=nx ⟨i,j⟩)
  (h3:∀e,H e->e≠⟨i,j⟩->e≠⟨j,i⟩->¬(e.b=i/\nx e=j)->¬(e.b=j/\nx e=i)->nx' e=nx e)
  (t1:∀y,H ⟨y,i⟩->nx ⟨y,i⟩=j->y≠nx ⟨j,i⟩/\0<=ev (lin y i) (pt (nx ⟨j,i⟩))) (t2:∀z,H ⟨z,j⟩->nx ⟨z,j⟩=i->z≠nx ⟨i,j⟩/\0<=ev (lin z j) (pt (nx ⟨i,j⟩))):
  ∃F',Faces nx' (λe=>H e/\e≠⟨i,j⟩/\e≠⟨j,i⟩) F':=by
 obtain⟨A,F1,G1⟩:∃A F1,Faces nx H ((i::j::A)::F1):=by obtain⟨r,hr,hm⟩:=cZ.1 ((Fc.all _).2 hij);obtain⟨k,l,A,e1,e2⟩:=BO (Fc.cx r hr) hm;have g:=Fc.perm (SP hr);rw[e1]at g;have g2:=g.rotF;grind
 have c1:=G1.cx _ cI;have ij1:(⟨i,j⟩:S)∈cyc (i::j::A):=cI;have n1:=c1.nodup;rw[lF,lF]at n1;obtain⟨n3,n4,n5⟩:=n1;obtain⟨x,A',eA⟩:∃x A',A=x::A':=by
  match A,c1.three with
  |x::A',_=>grind
 obtain⟨y,A2,eA2⟩:∃y A2,A=A2++[y] :=by
  rcases SQ A with e|⟨A2,y,e⟩
  .grind
  grind
 have jx1:(⟨j,x⟩:S)∈cu j (A++[i]):=by rw[eA];exact cI
 have yi1:(⟨y,i⟩:S)∈cu j (A++[i]):=by rw[eA2,jw,Cc,ti];exact fb _ cI
 have up1:∀{e},e∈cu j (A++[i])->e∈cyc (i::j::A):=λh=>cE _ h;obtain⟨B,F2,G2⟩:∃B F2,Faces nx H ((i::j::A)::(j::i::B)::F2):=by
  obtain⟨r,hr,hm⟩:=cZ.1 ((G1.all _).2 hji);rcases bT.1 hr with e|hr
  .rw[e]at hm;have:=A6 c1.nodup hm (up1 jx1) rfl;grind
  .obtain⟨k,l,B,e1,e2⟩:=BO (G1.cx r (by grind)) hm;have g:=(G1.perm ((SP hr).cons _)).perm (List.Perm.swap _ _ _);rw[e1]at g;have g2:=g.rotF;rw[e2]at g2;exact⟨B,_,g2.perm (List.Perm.swap _ _ _)⟩
 clear G1;have m1:(i::j::A)∈(i::j::A)::(j::i::B)::F2:=by grind
 have m2:(j::i::B)∈(i::j::A)::(j::i::B)::F2:=by grind
 have m3:∀{r},r∈F2->r∈(i::j::A)::(j::i::B)::F2:=by grind
 have c2:=G2.cx _ m2;have ji2:(⟨j,i⟩:S)∈cyc (j::i::B):=cI;have n1:=c2.nodup;rw[lF,lF]at n1;obtain⟨k3,k4,k5⟩:=n1;obtain⟨w,B',eB⟩:∃w B',B=w::B':=by
  match B,c2.three with
  |w::B',_=>grind
 obtain⟨z,B2,eB2⟩:∃z B2,B=B2++[z] :=by
  rcases SQ B with e|⟨B2,z,e⟩
  .grind
  grind
 have iw2:(⟨i,w⟩:S)∈cu i (B++[j]):=by rw[eB];exact cI
 have zj2:(⟨z,j⟩:S)∈cu i (B++[j]):=by rw[eB2,jw,Cc,ti];exact fb _ cI
 have up2:∀{e},e∈cu i (B++[j])->e∈cyc (j::i::B):=λh=>cE _ h;have hm:∀{r e},r∈(i::j::A)::(j::i::B)::F2->e∈cyc r->H e:=λhr he=>(G2.all _).1 (by grind);have xA:x∈A:=by rw[eA];grind
 have yA:y∈A:=by rw[eA2];grind
 have wB:w∈B:=by rw[eB];grind
 have zB:z∈B:=by rw[eB2];grind
 have nij:nx ⟨i,j⟩=x:=G2.next _ m1 _ ij1 _ (up1 jx1) rfl;have nji:nx ⟨j,i⟩=w:=G2.next _ m2 _ ji2 _ (up2 iw2) rfl;have nyi:nx ⟨y,i⟩=j:=G2.next _ m1 _ (up1 yi1) _ ij1 rfl;have nzj:nx ⟨z,j⟩=i:=G2.next _ m2 _ (up2 zj2) _ ji2 rfl;have T1:=t1 y (hm m1 (up1 yi1)) nyi;have T2:=t2 z (hm m2 (up2 zj2)) nzj;rw[nji]at T1;rw[nij]at T2;have J:Jn W side (i::j::A) (j::i::B) i j x y z w:=⟨N,c1,c2,by grind,by grind,ij1,up1 jx1,up1 yi1,ji2,up2 iw2,up2 zj2,T1.2,T2.2,T1.1,T2.1,
  by grind,by grind,by grind,by grind⟩
 have cj:=CX.join J;have nj:=cj.nodup;rw[lF,bg,nV]at nj;have P:(((i::j::A)::(j::i::B)::F2).flatMap cyc).Perm (⟨i,j⟩::⟨j,i⟩::(((i::(B++j::A))::F2).flatMap cyc)):=by rw[fM,fM,fM,FD];show(⟨i,j⟩::(cu j (A++[i])++(⟨j,i⟩::(cu i (B++[j])++F2.flatMap cyc)))).Perm _;refine List.Perm.cons _ (List.perm_middle.trans (List.Perm.cons _ ?_));rw[<-jw];exact vV.append_right _
 have nd:=P.nodup_iff.1 G2.once;rw[lF,lF,bT]at nd;obtain⟨d1,d2,d3⟩:=nd;have d4:(⟨i,j⟩:S)∉((i::(B++j::A))::F2).flatMap cyc:=by grind
 have keep:∀r∈(i::j::A)::(j::i::B)::F2,∀e∈cyc r,∀f∈cyc r,e.b=f.a->e≠⟨i,j⟩->e≠⟨j,i⟩->f≠⟨i,j⟩->f≠⟨j,i⟩->nx' e=f.b:=λr hr e he f hf g e1 e2 f1 f2=>by
  have hn:=G2.next r hr e he f hf g;rw[<-hn];refine h3 e (hm hr he) e1 e2 ?_ ?_
  .rintro⟨p1,p2⟩;cases f;grind
  .rintro⟨p1,p2⟩;cases f;grind
 refine⟨(i::(B++j::A))::F2,⟨λr hr=> ?_,d3,λe=> ?_,λr hr e he f hf g=> ?_⟩⟩
 .rcases bT.1 hr with e|hr
  .grind
  .exact G2.cx r (m3 hr)
 .rw[<-G2.all,P.mem_iff,bT,bT];constructor
  .intro h;exact⟨.inr (.inr h),by grind,by grind⟩
  grind
 .have ne:∀{e},e∈cyc r->e≠⟨i,j⟩/\e≠⟨j,i⟩:=λh=>⟨λg=>d4 (g▸cZ.2 ⟨_,hr,h⟩),λg=>d2 (g▸cZ.2 ⟨_,hr,h⟩)⟩;obtain⟨e1,e2⟩:=ne he;obtain⟨f1,f2⟩:=ne hf;rcases bT.1 hr with hr|hr
  .subst hr;rw[FD]at he hf;have sB:∀{f},f∈cu i (B++[j])->f.a=i\/f.a∈B:=λ{f} h=>by
    have:f.a∈(cu i (B++[j])).map S.a:=by grind
    rw[zp]at this;grind
   have sA:∀{f},f∈cu j (A++[i])->f.a=j\/f.a∈A:=λ{f} h=>by
    have:f.a∈(cu j (A++[i])).map S.a:=by grind
    rw[zp]at this;grind
   have tB:∀{f},f∈cu i (B++[j])->f.b∈B\/f.b=j:=λ{f} h=>by
    have:f.b∈(cu i (B++[j])).map S.b:=by grind
    rw[zq]at this;grind
   have tA:∀{f},f∈cu j (A++[i])->f.b∈A\/f.b=i:=λ{f} h=>by
    have:f.b∈(cu j (A++[i])).map S.b:=by grind
    rw[zq]at this;grind
   have AB:∀v,v∈A->v∈B->False:=λv ha hb=>nj.2.2.2 v hb v (by grind) rfl;rcases bg.1 he with he|he<;>rcases bg.1 hf with hf|hf
   .grind
   .have ej:e.b=j:=by
     rcases tB he with h|h
     .grind
     .exact h
    rw[h2 e (hm m2 (up2 he)) ej (G2.next _ m2 e (up2 he) _ ji2 ej)];exact G2.next _ m1 _ ij1 f (up1 hf) (ej.symm.trans g)
   .have ei:e.b=i:=by
     rcases tA he with h|h
     .grind
     .exact h
    rw[h1 e (hm m1 (up1 he)) ei (G2.next _ m1 e (up1 he) _ ij1 ei)];exact G2.next _ m2 _ ji2 f (up2 hf) (ei.symm.trans g)
   grind
  grind
end Geo
section
namespace Geo
def I1{u v t:V}(hu:nz u)(hv:nz v)(ht:nz t)(h1:jC u t)(h2:jC v t)(hc:0<cross v u)(hs:¬(0<cross v t/\0<cross t u)):ip u t v=true/\ip u v t≠true:=by have t1:=wf hv ht hu;have t2:=zQ hv ht hu;have l2:=qi hv ht;have c1:=ig v u;have c2:=ig t u;have c3:=ig v t;unfold jC at h1 h2;unfold eV at t1 t2;unfold ip iq;grind
section
variable {W:List V} {side:V->V->Prop} {ins:P3->Bool}
def Tri.next(N:Net W side){a b c:V}(T:Tri W side ins a b c){l:List V}(hl:∀x,x∈l↔side b x):dX l b a true=c:=by
 have ba:=N.symm T.ab;have bc:=T.bc;have hc:c≠a:=N.ne T.ca;have hcr:0<cross (sub c b) (sub a b):=by rw[<-fP,iG];exact T.left
 refine mw (S:=λx=>side b x) hc ?_ ?_ l a (by grind) (.inl rfl) (by grind)
 .intro x hx e1 e2;exact(I1 (lW (N.ne ba).symm) (lW (N.ne bc).symm) (lW (N.ne hx).symm) (N.fanApart ba hx e1.symm) (N.fanApart bc hx e2.symm) hcr (by have:=T.rot.sector N hx;unfold Ccw at this;rw[fP,fP]at this;exact this)).2
 .intro x hx e1 e2;have:=(I1 (lW (N.ne ba).symm) (lW (N.ne bc).symm) (lW (N.ne hx).symm) (N.fanApart ba hx e1.symm) (N.fanApart bc hx e2.symm) hcr (by have:=T.rot.sector N hx;unfold Ccw at this;rw[fP,fP]at this;exact this)).1
  grind
def Tri.cx(N:Net W side){a b c:V}(T:Tri W side ins a b c):CX [a,b,c] where
 three:=by simp
 nodup:=by have h1:=N.ne T.ab;have h2:=N.ne T.bc;have h3:=N.ne T.ca;grind
 left:=by intro e he v hv;have l:=T.left;have l2:=T.rot.left;have l3:=T.rot.rot.left;have he:e∈([⟨a,b⟩,⟨b,c⟩,⟨c,a⟩] :List S):=he;simp only[bT,cn,or_false]at he hv;rcases he with rfl|rfl|rfl<;>rcases hv with rfl|rfl|rfl<;>first|(rw[cK];exact jH _)|(rw[ci];exact jH _)|grind
def aAY(H:Filled W side ins){TL:List T3}(A:All3 W side ins TL){DS:List S}(hn:DS.Nodup)(hm:∀e:S,e∈DS↔side e.a e.b/\Lft ins e.a e.b){nx:S->V}(hx:∀a b c,Tri W side ins a b c->nx ⟨a,b⟩=c):
  Faces nx (λe=>e∈DS) (TL.map λt=>[t.a,t.b,t.c]):=by
 have N:=H.net;have P:=A.perm H hn hm;have e:(TL.map λt=>[t.a,t.b,t.c]).flatMap cyc=TL.flatMap T3.sides:=by rw[List.flatMap_map];rfl
 refine⟨λr hr=> ?_,by grind,λf=>by grind,λr hr f hf g hg h=> ?_⟩
 .obtain⟨t,ht,rfl⟩:=bZ.1 hr;exact(A.tri t ht).cx N
 .obtain⟨t,ht,rfl⟩:=bZ.1 hr;have T:=A.tri t ht;have h1:=N.ne T.ab;have h2:=N.ne T.bc;have h3:=N.ne T.ca;have hf:f∈([⟨t.a,t.b⟩,⟨t.b,t.c⟩,⟨t.c,t.a⟩] :List S):=hf;have hg:g∈([⟨t.a,t.b⟩,⟨t.b,t.c⟩,⟨t.c,t.a⟩] :List S):=hg;simp only[bT,cn,or_false]at hf hg;rcases hf with rfl|rfl|rfl<;>rcases hg with rfl|rfl|rfl<;>dsimp only at h|-
  .grind
  .grind
  .grind
  .grind
  .grind
  .exact hx _ _ _ T.rot
  .exact hx _ _ _ T.rot.rot
  .grind
  grind
end
end Geo
end
section
namespace Geo
section
variable {p:V} {L l l':List V}
def ZR{n a m:Nat}(ha:a<n)(h:m=(a+n-1) % n):(1<=a/\m+1=a)\/(a=0/\m+1=n):=by
 by_cases h0:a=0
 .rw[h,dZ (by omega)];omega
 .rw[h,show a+n-1=(a-1)+n by omega,pB,dZ (by omega)];omega
def Zc{n a m:Nat}(ha:a<n)(h:m=(a+1) % n):(a+1<n/\m=a+1)\/(a+1=n/\m=0):=by
 by_cases h0:a+1<n
 .rw[h,dZ h0];omega
 .have:a+1=n:=by omega
  simp_all
def Fan.inj(F:Fan p L){i j:Nat}(hi:i<L.length)(hj:j<L.length)(h:L[i] =L[j]):i=j:=by
 by_cases e:i=j
 .exact e
 .exact absurd h (F.ne hi hj e)
def Fan.prevAt(F:Fan p L)(hl:∀x,x∈l↔x∈L){a:Nat}(ha:a<L.length):∃m,∃hm:m<L.length,dX l p L[a] true=L[m]/\((1<=a/\m+1=a)\/(a=0/\m+1=L.length)):=
 ⟨(a+L.length-1) % L.length,bq _ (by omega),F.prev hl ha (bq _ (by omega)) rfl,ZR ha rfl⟩
def Fan.nextAt(F:Fan p L)(hl:∀x,x∈l↔x∈L){a:Nat}(ha:a<L.length):∃m,∃hm:m<L.length,dX l p L[a] false=L[m]/\((a+1<L.length/\m=a+1)\/(a+1=L.length/\m=0)):=
 ⟨(a+1) % L.length,bq _ (by omega),F.next hl ha (bq _ (by omega)) rfl,Zc ha rfl⟩
def Fan.KR(F:Fan p L)(hl:∀x,x∈l↔x∈L)(hl':∀x,x∈l'↔x∈L){q:V}(hq:q∈L):dX l' p q true=dX l p q true:=by obtain⟨a,ha,rfl⟩:=iZ.1 hq;rw[F.prev hl ha (bq _ (by omega)) rfl,F.prev hl' ha (bq _ (by omega)) rfl]
def Fan.NX(F:Fan p L)(hl:∀x,x∈l↔x∈L){q:V}(hq:q∈L)(h:2<=L.length):dX l p q true≠q:=by obtain⟨a,ha,rfl⟩:=iZ.1 hq;obtain⟨m,hm,e,h2⟩:=F.prevAt hl ha;rw[e];exact F.ne hm ha (by omega)
def Fan.KS(F:Fan p L)(hl:∀x,x∈l↔x∈L){q j:V}(hq:q∈L)(h:dX l p q true=j):dX l p j false=q:=by obtain⟨a,ha,rfl⟩:=iZ.1 hq;obtain⟨m,hm,e,h2⟩:=F.prevAt hl ha;obtain⟨k,hk,e3,h3⟩:=F.nextAt hl hm;grind
def Fan.OX(F:Fan p L)(hl:∀x,x∈l↔x∈L){j:V}(hj:j∈L)(h:3<=L.length):dX l p j false≠dX l p j true:=by obtain⟨a,ha,rfl⟩:=iZ.1 hj;obtain⟨m,hm,e,h2⟩:=F.prevAt hl ha;obtain⟨k,hk,e3,h3⟩:=F.nextAt hl ha;rw[e,e3];exact F.ne hk hm (by omega)
def Fan.dropNext(F:Fan p L){j q:V}(hl:∀x,x∈l↔x∈L)(hl':∀x,x∈l'↔x∈L/\x≠j)(hq:q∈L)(hj:j∈L)(hne:q≠j):dX l' p q true=if dX l p q true=j then dX l p j true else dX l p q true:=by
 obtain⟨a,ha,rfl⟩:=iZ.1 hq;obtain⟨b,hb,rfl⟩:=iZ.1 hj;obtain⟨m,hm,e,h2⟩:=F.prevAt hl ha;obtain⟨c,hc,e3,h3⟩:=F.prevAt hl hb;rw[e,e3];have key:∀g (hg:g<L.length),g≠a->g≠b->(∀d,d<L.length->d≠a->d≠b->d≠g->((a<d/\d<g)\/(d<g/\g<a)\/(g<a/\a<d)))->dX l' p L[a] true=L[g] :=λg hg h1 h2 h3=>by
  refine mw (S:=λx=>x∈L/\x≠L[b]) (F.ne hg ha h1) ?_ ?_ l' _ (by grind) (.inl rfl) (.inr ((hl' _).2 ⟨by grind,F.ne hg hb h2⟩))
  .rintro x ⟨hx,hxb⟩ e1 e2;obtain⟨d,hd,rfl⟩:=iZ.1 hx;have k1:d≠a:=by grind
   have k2:d≠g:=by grind
   have k3:d≠b:=by grind
   have:=h3 d hd k1 k3 k2;exact mt (F.soon ha hg hd (pF h1) (pF k2) k1).1 (by omega)
  .rintro x ⟨hx,hxb⟩ e1 e2;obtain⟨d,hd,rfl⟩:=iZ.1 hx;have k1:d≠a:=by grind
   have k2:d≠g:=by grind
   have k3:d≠b:=by grind
   have:=h3 d hd k1 k3 k2;rw[(F.soon ha hd hg (pF k1) k2 h1).2 (by omega)];simp
 by_cases hmb:m=b
 .subst hmb;rw[if_pos rfl];by_cases hca:c=a
  .subst hca;refine zO l' λx hx=> ?_;obtain⟨hx,hxb⟩:=(hl' x).1 hx;obtain⟨d,hd,rfl⟩:=iZ.1 hx;grind
  grind
 .rw[if_neg (F.ne hm hb hmb)];grind
end
def Mx{a b c:V}(h:0<=turn a b c):0<=ev (lin a b) (pt c):=by rw[fP];unfold turn sgn at h;omega
def Faces.dropR{W:List V}{side:V->V->Prop}(N:Net W side){l l' L:V->List V}{H:S->Prop}{F:List (List V)}{i j:V}
  (Fc:Faces (λe=>dX (l e.b) e.b e.a true) H F) (fan:∀p,Fan p (L p)) (hl:∀p x,x∈l p↔x∈L p) (hs:∀e,H e->side e.a e.b) (hH:∀e,H e->e.a∈L e.b)
  (hl':∀p x,x∈l' p↔x∈L p/\¬((p=i/\x=j)\/(p=j/\x=i))) (hij:H ⟨i,j⟩) (hji:H ⟨j,i⟩) (hi:3<=(L i).length) (hj:3<=(L j).length)
  (n1:0<=turn i (dX (l i) i j true) (dX (l i) i j false)) (n2:0<=turn j (dX (l j) j i true) (dX (l j) j i false)):
  ∃F',Faces (λe=>dX (l' e.b) e.b e.a true) (λe=>H e/\e≠⟨i,j⟩/\e≠⟨j,i⟩) F':=by
 have ji:j∈L i:=hH _ hji;have ij:i∈L j:=hH _ hij;have li':∀x,x∈l' i↔x∈L i/\x≠j:=by grind
 have lj':∀x,x∈l' j↔x∈L j/\x≠i:=by grind
 refine Fc.drop N hs hij hji ?_ ?_ ?_ ?_ ?_
 .rintro⟨q,p⟩ he hb hn;dsimp only at hb hn|-;subst hb;have hq:q∈L p:=hH _ he;have hqj:q≠j:=λe=>by subst e;exact(fan p).NX (hl p) hq (by omega) hn
  rw[(fan p).dropNext (hl p) li' hq ji hqj,if_pos hn]
 .rintro⟨q,p⟩ he hb hn;dsimp only at hb hn|-;subst hb;have hq:q∈L p:=hH _ he;have hqj:q≠i:=λe=>by subst e;exact(fan p).NX (hl p) hq (by omega) hn
  rw[(fan p).dropNext (hl p) lj' hq ij hqj,if_pos hn]
 .rintro⟨q,p⟩ he e1 e2 g1 g2;have hq:q∈L p:=hH _ he;by_cases hp:p=i
  .subst hp;rw[(fan p).dropNext (hl p) li' hq ji (by grind),if_neg (by grind)]
  .by_cases hp2:p=j
   .subst hp2;rw[(fan p).dropNext (hl p) lj' hq ij (by grind),if_neg (by grind)]
   .exact(fan p).KR (hl p) (by grind) hq
 .intro y hy hn;have e:=(fan i).KS (hl i) (hH _ hy) hn;refine⟨λh=>(fan i).OX (hl i) ji hi (e.trans h),?_⟩;rw[e]at n1;rw[<-iG];exact Mx n1
 .intro z hz hn;have e:=(fan j).KS (hl j) (hH _ hz) hn;refine⟨λh=>(fan j).OX (hl j) ij hj (e.trans h),?_⟩;rw[e]at n2;rw[<-iG];exact Mx n2
end Geo
end
namespace Geo
def tr(nx:S->V):Nat->List S->S->List V->List S×List V
 |0,U,_,r=>(U,r)
 |f+1,U,e,r=>if e∈U then(U,r)else tr nx f (U++[e]) ⟨e.b,nx e⟩ (r++[e.a])
def x7{nx:S->V}{f:Nat}{U:List S}{e:S}{r:List V}(h:e∈U):tr nx f U e r=(U,r):=by
 cases f with
 |zero=>rfl
 |succ f=>exact if_pos h
def BG{nx:S->V}{f:Nat}{U:List S}{e:S}{r:List V}(h:e∉U):tr nx (f+1) U e r=tr nx f (U++[e]) ⟨e.b,nx e⟩ (r++[e.a]):=if_neg h
def Mz{nx:S->V}:∀(l:List V) (a x:V) (m:List V) (z:V) (f:Nat) (U:List S) (r:List V),l++[z] =x::m->(∀e∈cu a (l++[z]),e∉U)->(cu a (l++[z])).Nodup->
  (∀e∈cu a (l++[z]),∀g∈cu a (l++[z]),e.b=g.a->e.b≠z->nx e=g.b)->(a::l).Nodup->z∉l->
  ∃y,(⟨y,z⟩:S)∈cu a (l++[z])/\tr nx (f+(l.length+1)) U ⟨a,x⟩ r=tr nx f (U++cu a (l++[z])) ⟨z,nx ⟨y,z⟩⟩ (r++a::l)
 |[],a,x,m,z,f,U,r,e,hU,hn,hx,_,_=>by
  obtain⟨rfl,_⟩:=List.cons.inj e;exact⟨a,cI,BG (hU ⟨a,z⟩ cI)⟩
 |b::l,a,x,m,z,f,U,r,e,hU,hn,hx,hd,hz=>by
  obtain⟨rfl,em⟩:=List.cons.inj e;have hzb:b≠z:=by grind
  have hn2:(⟨a,b⟩:S)∉cu b (l++[z])/\(cu b (l++[z])).Nodup:=lF.1 hn;obtain⟨x2,m2,e2⟩:∃x2 m2,l++[z] =x2::m2:=by
   cases l with
   |nil=>grind
   |cons x2 l=>grind
  have hd2:=(lF.1 hd).2;obtain⟨y,hy,h⟩:=Mz l b x2 m2 z f (U++[⟨a,b⟩]) (r++[a]) e2 (λe he h=>by
    rcases bg.1 h with h|h
    .exact hU e (cE _ he) h
    grind) hn2.2
   (λe he g hg=>hx e (cE _ he) g (cE _ hg)) hd2 (by grind)
  refine⟨y,cE _ hy,?_⟩;have h0:=hU ⟨a,b⟩ cI;have hnx:nx ⟨a,b⟩=x2:=hx ⟨a,b⟩ cI ⟨b,x2⟩ (cE _ (show(⟨b,x2⟩:S)∈cu b (l++[z]) by rw[e2];exact cI)) rfl hzb;have st:tr nx (f+((b::l).length+1)) U ⟨a,b⟩ r=tr nx (f+(l.length+1)) (U++[⟨a,b⟩]) ⟨b,nx ⟨a,b⟩⟩ (r++[a]):=by rw[show f+((b::l).length+1)=f+(l.length+1)+1 by grind];exact BG h0
  rw[st,hnx,h,jw,jw];rfl
def Faces.trace{nx:S->V}{H:S->Prop}{F:List (List V)}(Fc:Faces nx H F){r:List V}(hr:r∈F){e:S}(he:e∈cyc r){U:List S}(hU:∀g∈cyc r,g∉U){f:Nat}(hf:r.length<=f):
  ∃k l,r=k++l/\tr nx f U e [] =(U++cyc (l++k),l++k):=by
 obtain⟨i,j⟩:=e;obtain⟨k,l,A,e1,e2⟩:=BO (Fc.cx r hr) he;refine⟨k,l,e1,?_⟩;have c:=Fc.cx r hr;have hp:(cyc (l++k)).Perm (cyc r):=by rw[e1];exact mG k l
 have c2:CX (l++k):=by rw[e1]at c;exact c.swap
 have hl:(l++k).length=r.length:=by rw[e1,eW,eW];omega
 rw[e2]at hp c2 hl|-;have hn:=c2.nodup;obtain⟨y,hy,h⟩:=Mz (nx:=nx) (j::A) i j (A++[i]) i (f-(A.length+2)) U [] rfl (λg hg=>hU g (hp.mem_iff.1 hg)) (EX hn)
  (λe he g hg h _=>Fc.next r hr e (hp.mem_iff.1 he) g (hp.mem_iff.1 hg) h) hn (by grind)
 have ef:f-(A.length+2)+((j::A).length+1)=f:=by simp only[gk]at hl|-;omega
 rw[ef]at h;have first:(⟨i,j⟩:S)∈cyc (i::j::A):=by grind
 have hnx:nx ⟨y,i⟩=j:=Fc.next r hr ⟨y,i⟩ (hp.mem_iff.1 hy) ⟨i,j⟩ (by grind) rfl;rw[h,hnx];exact x7 (fb _ first)
def lr(nx:S->V)(f:Nat)(g:List V->List V):List S->List S×List (List V)->List S×List (List V)
 |[],x=>x
 |e::l,x=>lr nx f g l ((tr nx f x.1 e []).1,if 0<(tr nx f x.1 e []).2.length then x.2++[g (tr nx f x.1 e []).2]else x.2)
def zt{nx:S->V}{H:S->Prop}{F:List (List V)}(Fc:Faces nx H F){f:Nat}(hf:∀r∈F,r.length<=f){g:List V->List V}(hg:∀r∈F,∀k l,r=k++l->g (l++k)=g r):
  ∀(l:List S) (x:List S×List (List V)) (F1 F2:List (List V)),(∀e∈l,H e)->F.Perm (F1++F2)->(∀e,e∈x.1↔e∈F1.flatMap cyc)->x.2.Perm (F1.map g)->
   (∀r∈F2,∀e∈cyc r,e∈l)->(lr nx f g l x).2.Perm (F.map g)
 |[],x,F1,F2,_,hP,_,hx2,hl=>by
  have:F2=[] :=by
   cases F2 with
   |nil=>rfl
   |cons r F2=>
    have c:=Fc.cx r (by grind);match r,c.three with
    |a::b::r,_=>exact absurd (hl _ cI ⟨a,b⟩ cI) (by simp)
  subst this;rw[yg]at hP;exact hx2.trans (hP.symm.map g)
 |e::l,x,F1,F2,hH,hP,hx1,hx2,hl=>by
  unfold lr;have he:e∈F.flatMap cyc:=(Fc.all e).2 (by grind);by_cases h1:e∈x.1
  .have t:tr nx f x.1 e [] =(x.1,[]):=x7 h1;rw[t];refine zt Fc hf hg l _ F1 F2 (by grind) hP hx1 hx2 λr hr g hg=> ?_;rcases bT.1 (hl r hr g hg)with h|h
   .have nd:=(hP.flatMap_right cyc).nodup_iff.1 Fc.once;grind
   .exact h
  .have h2:e∈F2.flatMap cyc:=by
    have:=(hP.flatMap_right cyc).mem_iff.1 he;rw[pH]at this;rcases bg.1 this with h|h
    .grind
    .exact h
   obtain⟨r,hr,her⟩:=cZ.1 h2;have hP2:=SP hr;have hP3:F.Perm ((r::F1)++F2.erase r):=by grind
   have hrF:r∈F:=by grind
   have nd:=(hP3.flatMap_right cyc).nodup_iff.1 Fc.once;rw[kM,fM,pH,nV]at nd;have dis:∀g∈cyc r,g∉x.1:=by grind
   obtain⟨k,m,e1,t⟩:=Fc.trace hrF her dis (hf r hrF);have hp:(cyc (m++k)).Perm (cyc r):=by rw[e1];exact mG k m
   have hlen:0<(m++k).length:=by have:=(Fc.cx r hrF).three;rw[e1,eW]at this;rw[eW];omega
   rw[t];rw[if_pos hlen,hg r hrF k m e1];refine zt Fc hf hg l _ (r::F1) (F2.erase r) (by grind) hP3 (λq=> ?_) ?_ λr2 hr2 q hq=> ?_
   .rw[bg,hx1,hp.mem_iff,fM,bg,or_comm]
   .grind
   grind
end Geo
namespace Geo
def Ah{x y:List V}{u:V}(h:∀v∈x++u::y,leV u v)(hx:u∉x):bo (x++u::y)=u::(y++x):=by
 have hn:nth (x++u::y) x.length=u:=by unfold nth;rw[du,kZ (bI _),Nat.sub_self];rfl
 have e:x.length=dO (x++u::y):=S4 (by grind) (λi hi=>by rw[hn];exact h _ (dh hi)) λi hi g=>by rw[hn]at g;apply hx;rw[<-g];unfold nth;grind
 unfold bo;grind
def MH{r:List V}(h:r≠[]):∃u∈r,∀v∈r,leV u v:=by
 have hp:0<r.length:=by grind
 refine⟨_,dh (qY hp),λv hv=> ?_⟩;obtain⟨i,hi,rfl⟩:=fD.1 hv;exact sC r r.length i hi
def VY{k l:List V}(hn:(k++l).Nodup):bo (l++k)=bo (k++l):=by
 by_cases h0:k++l=[]
 .simp_all
 .obtain⟨u,hu,hle⟩:=MH h0;have hle2:∀v∈l++k,leV u v:=by grind
  have hn2:(l++k).Nodup:=by grind
  rcases bg.1 hu with h|h
  .obtain⟨x,y,rfl⟩:=IE h;have e1:(x++u::y)++l=x++u::(y++l):=by simp
   have e2:l++(x++u::y)=(l++x)++u::y:=by simp
   rw[e1]at hn hle|-;rw[e2]at hn2 hle2|-;rw[Ah hle (by grind),Ah hle2 (by grind)];simp
  .obtain⟨x,y,rfl⟩:=IE h;have e1:(x++u::y)++k=x++u::(y++k):=by simp
   have e2:k++(x++u::y)=(k++x)++u::y:=by simp
   rw[e1]at hn2 hle2|-;rw[e2]at hn hle|-;rw[Ah hle (by grind),Ah hle2 (by grind)];simp
noncomputable def o6(r:List V)(u:V):Bool:= @decide (∃a b,(⟨a,u⟩:S)∈cyc r/\(⟨u,b⟩:S)∈cyc r/\turn a u b≠0) (Classical.propDecidable _)
def Af{r:List V}{u:V}:o6 r u=true↔∃a b,(⟨a,u⟩:S)∈cyc r/\(⟨u,b⟩:S)∈cyc r/\turn a u b≠0:=by unfold o6;grind
def Wt(k l:List V):o6 (l++k)=o6 (k++l):=by
 funext u
 rw[Bool.eq_iff_iff,Af,Af];simp only[(mG k l).mem_iff]
noncomputable def Hs(r:List V):List V:=bo (r.filter (o6 r))
def Ws{k l:List V}(hn:(k++l).Nodup):Hs (l++k)=Hs (k++l):=by unfold Hs;rw[Wt,pI,pI];refine VY ?_;grind
def CX.noBack{r:List V}(c:CX r){a b:V}(h:(⟨a,b⟩:S)∈cyc r):(⟨b,a⟩:S)∉cyc r:=λg=>by
 obtain⟨k,l,A,e1,e2⟩:=BO c h;have hp:(cyc (l++k)).Perm (cyc r):=by rw[e1];exact mG k l
 have c2:CX (l++k):=by rw[e1]at c;exact c.swap
 rw[e2]at hp c2;have hn:=c2.nodup;match A,c2.three with
 |x::A,_=>
  have hx:(⟨b,x⟩:S)∈cyc (a::b::x::A):=cE _ cI;have:=A6 hn (hp.mem_iff.2 g) hx rfl;grind
def CX.around{r:List V}(c:CX r){u:V}(h:u∈r):∃a b,(⟨a,u⟩:S)∈cyc r/\(⟨u,b⟩:S)∈cyc r:=by
 have h1:u∈(cyc r).map S.a:=by rw[sQ];exact h
 obtain⟨⟨x,b⟩,hb,rfl⟩:=bZ.1 h1;obtain⟨k,l,rfl⟩:=IE h;have hp:=mG k (x::l);have hm:(⟨x,b⟩:S)∈cyc (k++x::l):=hb;rcases SQ (l++k)with e|⟨m,y,e⟩
 .have:=c.three;simp_all
 .rw[List.concat_eq_append]at e;refine⟨y,b,hp.mem_iff.1 ?_,hm⟩;rw[kM,e];show(⟨y,x⟩:S)∈cu x (m++[y] ++[x]);rw[jw,Cc,ti];exact fb _ cI
def Om{u v:V}(h:leV u v)(hne:v≠u):gg (sub v u):=by unfold leV at h;unfold gg sub;obtain⟨ux,uy⟩:=u;obtain⟨vx,vy⟩:=v;grind
def CX.corner{W:List V}{side:V->V->Prop}(N:Net W side){r:List V}(c:CX r)(hs:∀e∈cyc r,side e.a e.b):r.filter (o6 r)≠[] :=by
 obtain⟨u,hu,hle⟩:=MH (r:=r) (λe=>by have:=c.three;grind);obtain⟨a,b,ha,hb⟩:=c.around hu;have ua:=N.symm (hs _ ha);have ub:=hs _ hb;have hab:a≠b:=λe=>by subst e;exact c.noBack ha hb
 have pa:=Om (hle a (vB ha)) (N.ne ua).symm;have pb:=Om (hle b (tH hb)) (N.ne ub).symm;have:u∈r.filter (o6 r):=iX.2 ⟨hu,Af.2 ⟨a,b,ha,hb,λh0=> ?_⟩⟩
 .grind
 .have hcr:cross (sub a u) (sub b u)=0:=by
   have e:cross (sub u a) (sub b a)= -cross (sub a u) (sub b u):=by unfold cross sub;grind
   unfold turn sgn at h0;split at h0
   .cases h0
   .omega
  have:=qi (lW (N.ne ua).symm) (lW (N.ne ub).symm) hcr;have ap:=N.fanApart ua ub hab;unfold jC at ap;grind
end Geo
namespace Geo
def tR(F:List (List V))(U:List S):Prop:=∃F1 F2,F.Perm (F1++F2)/\∀e,e∈U↔e∈F1.flatMap cyc
def M2{nx:S->V}{H:S->Prop}{F:List (List V)}(Fc:Faces nx H F){f:Nat}(hf:∀r∈F,r.length<=f){U:List S}(I:tR F U){e:S}(he:H e):
  (tr nx f U e [] =(U,[]))\/∃r∈F,∃k l,r=k++l/\tr nx f U e [] =(U++cyc (l++k),l++k)/\tR F (U++cyc (l++k)):=by
 obtain⟨F1,F2,hP,hU⟩:=I;by_cases h1:e∈U
 .exact .inl (x7 h1)
 .right;have h2:e∈F2.flatMap cyc:=by
   have:=(hP.flatMap_right cyc).mem_iff.1 ((Fc.all e).2 he);rw[pH]at this;rcases bg.1 this with h|h
   .grind
   .exact h
  obtain⟨r,hr,her⟩:=cZ.1 h2;have hP3:F.Perm ((r::F1)++F2.erase r):=by grind
  have hrF:r∈F:=by grind
  have nd:=(hP3.flatMap_right cyc).nodup_iff.1 Fc.once;rw[kM,fM,pH,nV]at nd;have dis:∀g∈cyc r,g∉U:=by grind
  obtain⟨k,m,e1,t⟩:=Fc.trace hrF her dis (hf r hrF);have hp:(cyc (m++k)).Perm (cyc r):=by rw[e1];exact mG k m
  refine⟨r,hrF,k,m,e1,t,r::F1,F2.erase r,hP3,λq=> ?_⟩;grind
def DM(nx:S->V)(f:Nat)(g:List V->List V):∀(l:List S) (e:S) (x:List S×List (List V)),lr nx f g (l++[e]) x=
  ((tr nx f (lr nx f g l x).1 e []).1,if 0<(tr nx f (lr nx f g l x).1 e []).2.length then(lr nx f g l x).2++[g (tr nx f (lr nx f g l x).1 e []).2]else(lr nx f g l x).2)
 |[],_,_=>rfl
 |_::l,e,_=>DM nx f g l e _
def Ly{nx:S->V}{H:S->Prop}{F:List (List V)}(Fc:Faces nx H F){f:Nat}(hf:∀r∈F,r.length<=f){g:List V->List V}:
  ∀(l:List S) (x:List S×List (List V)),tR F x.1->(∀e∈l,H e)->tR F (lr nx f g l x).1
 |[],x,I,_=>I
 |e::l,x,I,h=>by
  refine Ly Fc hf l _ ?_ (by grind);rcases M2 Fc hf I (h e cI)with t|⟨r,_,k,m,_,t,J⟩
  .grind
  grind
def tR.nil(F:List (List V)):tR F [] :=⟨[],F,.refl _,λe=>by simp⟩
end Geo
section
inductive PV where
 |int (k:IntKind) (n:Int)
 |bool (b:Bool)
 |str (s:ByteArray)
 |agg (l:List PV)
 |tup (l:List PV)
 |sl (n:Nat) (cells:List PV)
 |pro (cells:List PV) (off:Nat)
 |fn (f:Fn) (first caps:List PV)
 |junk
deriving Inhabited
abbrev bG:=Nat->Nat->Value->Prop
def gi(vs:List Value):Prop:=∀u∈vs,u.oneCell'=true
mutual
def aX(C:bG):PV->Value->Prop
 | .int k n,v=>v= .int k n
 | .bool b,v=>v= .bool b
 | .str s,v=>v= .string s
 | .agg l,v=>∃vs:List Value,v= .agg vs.toArray/\az C l vs/\gi vs
 | .tup l,v=>∃vs:List Value,v= .tuple vs.toArray/\az C l vs
 | .sl n cs,v=>∃a c,v= .slice a n c/\n<=c/\(a=none->c=0/\cs=[])/\∀ad,a=some ad->(0<n->ad.spot=none)/\cP C cs ad.block ad.off
 | .pro cs off,v=>∃b o,v= .pointer (some ⟨b,o+off,none⟩)/\cP C cs b o
 | .fn f l1 l2,v=>∃vs1 vs2:List Value,v= .func f vs1.toArray vs2.toArray/\az C l1 vs1/\az C l2 vs2
 | .junk,_=>True
def az(C:bG):List PV->List Value->Prop
 |[],vs=>vs=[]
 |x::l,vs=>∃v r,vs=v::r/\aX C x v/\az C l r
def cP(C:bG):List PV->Nat->Nat->Prop
 |[],_,_=>True
 |x::l,b,o=>(∃v,C b o v/\v.oneCell'=true/\aX C x v)/\cP C l b (o+1)
end
section
variable {C C':bG}
mutual
theorem aX.mono(h:∀b o v,C b o v->C' b o v):∀(x:PV) (v:Value),aX C x v->aX C' x v
 | .int ..,v,hx=>by unfold aX at*;exact hx
 | .bool ..,v,hx=>by unfold aX at*;exact hx
 | .str ..,v,hx=>by unfold aX at*;exact hx
 | .agg l,v,hx=>by unfold aX at*;obtain⟨vs,h1,h2,h3⟩:=hx;exact⟨vs,h1,az.mono h l vs h2,h3⟩
 | .tup l,v,hx=>by unfold aX at*;obtain⟨vs,h1,h2⟩:=hx;exact⟨vs,h1,az.mono h l vs h2⟩
 | .sl n cs,v,hx=>by
   unfold aX at*;obtain⟨a,c,h1,h2,h3,h4⟩:=hx;exact⟨a,c,h1,h2,h3,λad e=>⟨(h4 ad e).1,cP.mono h cs _ _ (h4 ad e).2⟩⟩
 | .pro cs off,v,hx=>by unfold aX at*;obtain⟨b,o,h1,h2⟩:=hx;exact⟨b,o,h1,cP.mono h cs _ _ h2⟩
 | .fn f l1 l2,v,hx=>by unfold aX at*;obtain⟨a,b,h1,h2,h3⟩:=hx;exact⟨a,b,h1,az.mono h l1 a h2,az.mono h l2 b h3⟩
 | .junk,v,hx=>by unfold aX;trivial
theorem az.mono(h:∀b o v,C b o v->C' b o v):∀(l:List PV) (vs:List Value),az C l vs->az C' l vs
 |[],vs,hx=>by unfold az at*;exact hx
 |x::l,vs,hx=>by unfold az at*;obtain⟨v,r,h1,h2,h3⟩:=hx;exact⟨v,r,h1,aX.mono h x v h2,az.mono h l r h3⟩
theorem cP.mono(h:∀b o v,C b o v->C' b o v):∀(l:List PV) (b o:Nat),cP C l b o->cP C' l b o
 |[],b,o,hx=>by unfold cP;trivial
 |x::l,b,o,hx=>by
  unfold cP at*;obtain⟨⟨v,h1,h2,h3⟩,h4⟩:=hx;exact⟨⟨v,h _ _ _ h1,h2,aX.mono h x v h3⟩,cP.mono h l b (o+1) h4⟩
end
def az.length:∀(l:List PV) (vs:List Value),az C l vs->vs.length=l.length
 |[],vs,h=>by unfold az at h;subst h;rfl
 |x::l,vs,h=>by unfold az at h;obtain⟨v,r,rfl,_,h3⟩:=h;simp[az.length l r h3]
def az.get:∀(l:List PV) (vs:List Value),az C l vs->∀(i:Nat) x,l[i]? =some x->∃v,vs[i]? =some v/\aX C x v
 |[],vs,h,i,x,hi=>by simp at hi
 |y::l,vs,h,0,x,hi=>by unfold az at h;grind
 |y::l,vs,h,i+1,x,hi=>by
  unfold az at h;obtain⟨v,r,rfl,h2,h3⟩:=h;exact az.get l r h3 i x (by grind)
def az.of:∀(l:List PV) (vs:List Value),vs.length=l.length->(∀(i:Nat) x,l[i]? =some x->∃v,vs[i]? =some v/\aX C x v)->az C l vs
 |[],vs,hl,h=>by unfold az;grind
 |y::l,[],hl,h=>by simp at hl
 |y::l,v::r,hl,h=>by
  unfold az;obtain⟨v',h1,h2⟩:=h 0 y rfl;simp at h1;subst h1;exact⟨v,r,rfl,h2,az.of l r (by grind) (λi x hi=>h (i+1) x (by grind))⟩
def cP.get:∀(l:List PV) (b o:Nat),cP C l b o->∀(i:Nat) x,l[i]? =some x->∃v,C b (o+i) v/\v.oneCell'=true/\aX C x v
 |[],b,o,h,i,x,hi=>by simp at hi
 |y::l,b,o,h,0,x,hi=>by unfold cP at h;grind
 |y::l,b,o,h,i+1,x,hi=>by
  unfold cP at h;have:=cP.get l b (o+1) h.2 i x (by grind);grind
def cP.of:∀(l:List PV) (b o:Nat),(∀(i:Nat) x,l[i]? =some x->∃v,C b (o+i) v/\v.oneCell'=true/\aX C x v)->cP C l b o
 |[],b,o,h=>by unfold cP;trivial
 |y::l,b,o,h=>by
  unfold cP;refine⟨h 0 y rfl,cP.of l b (o+1) (λi x hi=> ?_)⟩;have:=h (i+1) x (by grind);grind
def cP.drop{l:List PV}{b o:Nat}(h:cP C l b o)(k:Nat):cP C (l.drop k) b (o+k):=
 cP.of _ _ _ λi x hi=>by rw[vX]at hi;have:=cP.get l b o h (k+i) x hi;grind
def cP.take{l:List PV}{b o:Nat}(h:cP C l b o)(k:Nat):cP C (l.take k) b o:=
 cP.of _ _ _ λi x hi=>by
  rw[pD]at hi;split at hi
  .exact cP.get l b o h i x hi
  .cases hi
end
inductive AV where
 |any
 |undef
 |nil
 |p (x:PV)
 |ptr (s off:Nat)
 |own (s o n:Nat)
 |agg (l:List AV)
 |tup (l:List AV)
 |fn (f:Fn) (first caps:List AV)
 |mp (s:Nat)
deriving Inhabited
abbrev Ren:=Nat->Option (Option Nat×Nat)
mutual
def aW(ρ:Ren)(C:bG):AV->Value->Prop
 | .any,_=>True
 | .undef,v=>v=Go.undef
 | .nil,v=>v= .slice none 0 0
 | .p x,v=>aX C x v
 | .ptr s off,v=>∃b c,ρ s=some (some b,c)/\v= .pointer (some ⟨b,off,none⟩)
 | .own s o n,v=>∃q c,ρ s=some (q,c)/\((q=none/\v= .slice none 0 0/\n=0/\o=0)\/∃b o' c',q=some b/\v= .slice (some ⟨b,o',none⟩) n c'/\n<=c'/\(n≠0->o'=o)/\(o=0->o'=0/\c'=c))
 | .agg l,v=>∃vs:List Value,v= .agg vs.toArray/\bB ρ C l vs/\gi vs
 | .tup l,v=>∃vs:List Value,v= .tuple vs.toArray/\bB ρ C l vs
 | .fn f l1 l2,v=>∃vs1 vs2:List Value,v= .func f vs1.toArray vs2.toArray/\bB ρ C l1 vs1/\bB ρ C l2 vs2
 | .mp s,v=>∃c,ρ s=some (none,c)/\v= .map (some c)
def bB(ρ:Ren)(C:bG):List AV->List Value->Prop
 |[],vs=>vs=[]
 |x::l,vs=>∃v r,vs=v::r/\aW ρ C x v/\bB ρ C l r
end
section
variable {C C':bG} {ρ ρ':Ren}
mutual
theorem aW.mono(hr:∀s q,ρ s=some q->ρ' s=some q)(h:∀b o v,C b o v->C' b o v):∀(x:AV) (v:Value),aW ρ C x v->aW ρ' C' x v
 | .any,v,hx=>by unfold aW;trivial
 | .undef,v,hx=>by unfold aW at*;exact hx
 | .nil,v,hx=>by unfold aW at*;exact hx
 | .p x,v,hx=>by unfold aW at*;exact aX.mono h x v hx
 | .ptr ..,v,hx=>by unfold aW at*;grind
 | .own ..,v,hx=>by unfold aW at*;grind
 | .agg l,v,hx=>by unfold aW at*;obtain⟨vs,h1,h2,h3⟩:=hx;exact⟨vs,h1,bB.mono hr h l vs h2,h3⟩
 | .tup l,v,hx=>by unfold aW at*;obtain⟨vs,h1,h2⟩:=hx;exact⟨vs,h1,bB.mono hr h l vs h2⟩
 | .fn f l1 l2,v,hx=>by unfold aW at*;obtain⟨a,b,h1,h2,h3⟩:=hx;exact⟨a,b,h1,bB.mono hr h l1 a h2,bB.mono hr h l2 b h3⟩
 | .mp s,v,hx=>by unfold aW at*;grind
theorem bB.mono(hr:∀s q,ρ s=some q->ρ' s=some q)(h:∀b o v,C b o v->C' b o v):∀(l:List AV) (vs:List Value),bB ρ C l vs->bB ρ' C' l vs
 |[],vs,hx=>by unfold bB at*;exact hx
 |x::l,vs,hx=>by unfold bB at*;obtain⟨v,r,h1,h2,h3⟩:=hx;exact⟨v,r,h1,aW.mono hr h x v h2,bB.mono hr h l r h3⟩
end
def bB.length:∀(l:List AV) (vs:List Value),bB ρ C l vs->vs.length=l.length
 |[],vs,h=>by unfold bB at h;subst h;rfl
 |x::l,vs,h=>by unfold bB at h;obtain⟨v,r,rfl,_,h3⟩:=h;simp[bB.length l r h3]
def bB.get:∀(l:List AV) (vs:List Value),bB ρ C l vs->∀(i:Nat) x,l[i]? =some x->∃v,vs[i]? =some v/\aW ρ C x v
 |[],vs,h,i,x,hi=>by simp at hi
 |y::l,vs,h,0,x,hi=>by unfold bB at h;grind
 |y::l,vs,h,i+1,x,hi=>by
  unfold bB at h;obtain⟨v,r,rfl,h2,h3⟩:=h;exact bB.get l r h3 i x (by grind)
def bB.of:∀(l:List AV) (vs:List Value),vs.length=l.length->(∀(i:Nat) x,l[i]? =some x->∃v,vs[i]? =some v/\aW ρ C x v)->bB ρ C l vs
 |[],vs,hl,h=>by unfold bB;grind
 |y::l,[],hl,h=>by simp at hl
 |y::l,v::r,hl,h=>by
  unfold bB;obtain⟨v',h1,h2⟩:=h 0 y rfl;simp at h1;subst h1;exact⟨v,r,rfl,h2,bB.of l r (by grind) (λi x hi=>h (i+1) x (by grind))⟩
end
structure Ob where
 ty:TypeId
 esz:Nat
 cells:List AV
deriving Inhabited
def bF(C0:bG)(B:Nat)(w:World)(ρ:Ren)(g:Nat->Option Ob):bG:=λb o v=>w.cell? ⟨b,o,none⟩=some v/\(∀s c,ρ s=some (some b,c)->g s=none)/\(B<=b\/C0 b o v)
structure ObRep(ρ:Ren)(C:bG)(w:World)(b c:Nat)(ob:Ob)(arr:Array Value):Prop where
 blk:w.heap[b]? =some (.cells arr ob.ty (0,0))
 box:ob.esz=0->arr.size=ob.cells.length
 row:ob.esz≠0->arr.size=c*ob.esz/\ob.cells.length<=arr.size/\c<=maxLen
 cells:∀(i:Nat) x,ob.cells[i]? =some x->∃v,arr[i]? =some v/\v.oneCell'=true/\aW ρ C x v
def xd(C0:bG)(B:Nat)(ρ:Ren)(C:bG)(w:World)(c:Nat)(o:Ob):Prop:=
 (o.ty=0/\(∀(i:Nat) x,o.cells[i]? =some x->∀v,C0 B i v->aW ρ C x v)/\∀i v,C0 B i v->i<o.cells.length)\/
 (o.ty=1/\B<=c/\∃es clock,w.heap[c]? =some (.map es clock)/\bB ρ C o.cells (es.toList.flatMap λe=>[e.key,e.val]))
def rP(o:Ob)(c:Nat)(o':Ob)(c':Nat):Prop:=(o.ty=1/\o'.ty=1/\c=c')\/(o.ty=0/\o'.ty=0)
def rP.symm{o:Ob}{c:Nat}{o':Ob}{c':Nat}(h:rP o c o' c'):rP o' c' o c:=by
 rcases h with⟨h1,h2,h3⟩|⟨h1,h2⟩
 .exact .inl ⟨h2,h1,h3.symm⟩
 .exact .inr ⟨h2,h1⟩
structure StR(C0:bG)(ρ:Ren)(g:Nat->Option Ob)(w:World)(B:Nat):Prop where
 ob:∀s o,g s=some o->∃q c,ρ s=some (q,c)/\((q=none/\((o.esz≠0/\o.cells=[]/\c=0)\/(o.esz=0/\xd C0 B ρ (bF C0 B w ρ g) w c o)))\/∃b arr,q=some b/\B<=b/\ObRep ρ (bF C0 B w ρ g) w b c o arr)
 inj:∀s s' o o' b c c',g s=some o->g s'=some o'->ρ s=some (some b,c)->ρ s'=some (some b,c')->s=s'
 mpi:∀s s' o o' c c',g s=some o->g s'=some o'->o.esz=0->o'.esz=0->ρ s=some (none,c)->ρ s'=some (none,c')->rP o c o' c'->s=s'
def ObRep.lt{ρ:Ren}{C:bG}{w:World}{b c:Nat}{ob:Ob}{arr:Array Value}(h:ObRep ρ C w b c ob arr):b<w.heap.size:=by
 rcases nY b w.heap.size with hlt|hge
 .exact hlt
 .have:=h.blk;grind
def ObRep.cell{ρ:Ren}{C:bG}{w:World}{b c:Nat}{ob:Ob}{arr:Array Value}(h:ObRep ρ C w b c ob arr)(i:Nat):w.cell? ⟨b,i,none⟩=arr[i]? :=cell_of_row w b i arr ob.ty (0,0) h.blk
def ObRep.frozen{ρ:Ren}{C:bG}{w:World}{b c:Nat}{ob:Ob}{arr:Array Value}(h:ObRep ρ C w b c ob arr)(i:Nat):w.frozen? ⟨b,i,none⟩=false:=by simp[IF,h.blk]
def StR.at{C0:bG}{ρ:Ren}{g:Nat->Option Ob}{w:World}{B s b c:Nat}{o:Ob}(h:StR C0 ρ g w B)(hg:g s=some o)(hr:ρ s=some (some b,c)):B<=b/\∃arr,ObRep ρ (bF C0 B w ρ g) w b c o arr:=by obtain⟨q,c',h1,h2⟩:=h.ob s o hg;grind
end
section
structure GrD where
 n:Nat
 os:Array Obj
instance:Nonempty GrD:=⟨⟨0, #[]⟩⟩
def grD(w:World)(n:Nat)(os:Array Obj):World:={w with heap:=w.heap++os,drawn:=n}
def Ko(w:World)(n:Nat)(os:Array Obj):Below w.heap.size w (grD w n os):=
 ⟨rfl,rfl,rfl,by simp[grD],λk hk=>by simp[grD,Cd hk]⟩
def It{w w':World}(h:Below w.heap.size w w'):∃p:GrD,w'=grD w p.n p.os:=by
 refine⟨⟨w'.drawn,w'.heap.extract w.heap.size w'.heap.size⟩,?_⟩;obtain⟨h1,h2,h3,h4,h5⟩:=h;have hh:w'.heap=w.heap++w'.heap.extract w.heap.size w'.heap.size:=by
  apply Array.ext_getElem?;intro i;by_cases hi:i<w.heap.size
  .grind
  .grind
 unfold grD;cases w';grind
def Calls.qb{P:Program}{f:FuncId}{args:Array Value}{w:World}{n:Nat}{os:Array Obj}{v:Value}
  (h:Calls P f args (grD w n os) λe w'=>e= .returned v/\Below (grD w n os).heap.size (grD w n os) w'):Calls P f args (grD w n os) λe w''=>e= .returned v/\∃p:GrD,w''=grD w p.n p.os:=
 h.mono λ_ _ ⟨he,hb⟩=>⟨he,It ((Ko w n os).trans (hb.mono (Ko w n os).size))⟩
def Below.then_{W w1 w2:World}(h1:Below W.heap.size W w1)(h2:Below w1.heap.size w1 w2):Below W.heap.size W w2:=h1.trans (h2.mono h1.size)
def Blk(w:World)(g:Nat)(t:TypeId)(cs:Array Value):Prop:=w.heap[g]? =some (.cells cs t (0,0))
section
variable {w w':World} {g:Nat} {t:TypeId} {cs:Array Value}
def Blk.lt(h:Blk w g t cs):g<w.heap.size:=by
 rcases nY g w.heap.size with hlt|hge
 .exact hlt
 .unfold Blk at h;grind
def Blk.cell(h:Blk w g t cs)(i:Nat):w.cell? ⟨g,i,none⟩=cs[i]? :=cell_of_row w g i cs t (0,0) h
def Blk.frozen(h:Blk w g t cs)(i:Nat):w.frozen? ⟨g,i,none⟩=false:=by unfold Blk at h;simp[IF,h]
def Blk.new(w:World)(t:TypeId)(cs:Array Value):Blk (w.alloc (.cells cs t)) w.heap.size t cs:=heap_alloc_new w _
def Blk.drew(h:Blk w g t cs):Blk w.drew g t cs:=h
def Blk.alloc(h:Blk w g t cs)(o:Obj):Blk (w.alloc o) g t cs:=(Below.heap_alloc w o g h.lt).trans h
def Blk.iy(h:Blk w g t cs)(i:Nat)(u:Value):Blk (w.setCell ⟨g,i,none⟩ u) g t (cs.setIfInBounds i u):=by unfold Blk at h|-;simp[World.setCell,IG,h]
def Blk.far(h:Blk w g t cs){p:Addr}(hp:g≠p.block)(u:Value):Blk (w.setCell p u) g t cs:=(Below.heap_setCell w p u g hp).trans h
def Blk.below{B:Nat}(h:Blk w g t cs)(hb:Below B w w')(hg:g<B):Blk w' g t cs:=(hb.block g hg).trans h
def Blk.then_(h:Blk w g t cs)(hb:Below w.heap.size w w'):Blk w' g t cs:=h.below hb h.lt
end
end
def J5{P:Program}{ops:Array Oper}{Q:Exit->Act->World->Prop}
  (hac:∀(i:Nat) (o:Oper),ops[i]? =some o->∀e∈o.after.toList,iD .any e=true->e.on<i)
  (Inv:(Nat->Bool)->Act->World->Prop)
  (hstep:∀(i:Nat) (o:Oper) (D:Nat->Bool) (a:Act) (w:World),ops[i]? =some o->Inv D a w->D i=false->(∀e∈o.after.toList,iD .any e=true->D e.on=true)->
    wpOp P ops Q i (λa' w'=>Inv (λj=>if j=i then true else D j) a' w') a w)
  (hend:∀(D:Nat->Bool) (a:Act) (w:World),Inv D a w->(∀i,i<ops.size->D i=true)->Q .normal a w):
  ∀(fuel:Nat) (L:Array Bool) (a:Act) (w:World),L.size=ops.size->L.toList.count false<=fuel->Inv (λj=>L.getD j false) a w->wpAny P .any ops Q fuel L a w:=by
 have key:∀(L:Array Bool),L.size=ops.size->Ce .any ops L=[]->∀i,i<ops.size->L.getD i false=true:=by
  intro L hL hr i;induction i using H5 with
  |ind i ih=>
   intro hi;rcases SS (L.getD i false)with h|h
   .exact h
   .have hmem:i∈Ce .any ops L:=by
     unfold Ce;rw[iX];refine⟨cG.2 hi,?_⟩;have h1:L.getD i true=false:=by rw[fy,vf (by omega)]at h|-;exact h
     obtain⟨o,ho⟩:∃o,ops[i]? =some o:=⟨_,vf hi⟩;rw[h1,ho];simp only[Bool.not_false,Bool.true_and,eO,lH];rw[Array.all_eq_true'];intro e he;rcases SS (iD .any e)with hb|hb
     .grind
     .rw[hb];rfl
    grind
 intro fuel;induction fuel with
 |zero=>
  intro L a w hL hc hI;have hall:∀i,i<ops.size->L.getD i false=true:=by
   intro i hi;rcases SS (L.getD i false)with h|h
   .exact h
   .exfalso;have h0:L.toList.count false=0:=by omega
    rw[List.count_eq_zero]at h0;rw[fy,vf (by omega)]at h;grind
  refine⟨?_,by grind⟩;unfold Ce;simp_all
 |succ fuel ih=>
  intro L a w hL hc hI;refine⟨by grind,?_⟩;intro i hi;unfold Ce at hi;rw[iX]at hi;obtain⟨hi1,hi2⟩:=hi;have hlt:=cG.1 hi1;obtain⟨o,ho⟩:∃o,ops[i]? =some o:=by grind
  rw[ho]at hi2;simp only[eO,lH,bw,CY]at hi2;obtain⟨hf,hall⟩:=hi2;have hLi:L[i]? =some false:=by rw[fy,vf (by omega)]at hf;rw[vf (by omega)];simpa using hf
  have hD:L.getD i false=false:=by rw[fy,hLi];rfl
  have hpre:∀e∈o.after.toList,iD .any e=true->L.getD e.on false=true:=by intro e he hb;rw[Array.all_eq_true']at hall;have:=hall e (Array.mem_toList_iff.1 he);rw[hb]at this;simpa using this
  refine wpOp_mono ?_ (hstep i o _ a w ho hI hD hpre);intro a' w' hI';refine ih (L.setIfInBounds i true) a' w' (by grind) ?_ ?_
  .grind
  .have e:(λj=>(L.setIfInBounds i true).getD j false)=(λj=>if j=i then true else L.getD j false):=by
    funext j
    rw[fy,fy,vh];by_cases h:i=j
    .grind
    .grind
   grind
def S7{P:Program}{id:Nat}{ops:Array Oper}{Q:Exit->Act->World->Prop}{a0:Act}{w0:World}(hm:P.follows .mixedOrders=true)
  (hac:∀(i:Nat) (o:Oper),ops[i]? =some o->∀e∈o.after.toList,iD .any e=true->e.on<i)
  (Inv:(Nat->Bool)->Act->World->Prop) (h0:Inv (λ_=>false) a0 w0.drew)
  (hstep:∀(i:Nat) (o:Oper) (D:Nat->Bool) (a:Act) (w:World),ops[i]? =some o->Inv D a w->D i=false->(∀e∈o.after.toList,iD .any e=true->D e.on=true)->
    wpOp P ops Q i (λa' w'=>Inv (λj=>if j=i then true else D j) a' w') a w)
  (hend:∀(D:Nat->Bool) (a:Act) (w:World),Inv D a w->(∀i,i<ops.size->D i=true)->Q .normal a w):
  (yh id ops true).wp P Q a0 w0:=by
 refine wp_region_any hm (J5 hac Inv hstep hend _ _ _ _ (by simp) ?_ ?_)
 .simp
 .have e:(λj=>(ng ops.size false).getD j false)=(λ_=>false):=by
   funext j
   rw[fy,Cf];split<;>rfl
  simp_all
def bK(V:Nat->Value):Operand->Value
 | .tmp t=>V t
 | .const v=>v
 | .global g=> .pointer (some ⟨g,0,none⟩)
 | .func f=> .func (.func f) #[] #[]
def cN(P:Program)(o:Oper)(V:Nat->Value)(w:World)(K:Value->World->Prop):Prop:=
 match(execOp (bK V) o).run P w with
 | .ok (.value v) w'=>K v w'
 | .ok .skip w'=>K undef w'
 | .ok (.enter f args) w'=>Calls P f args w' λe w''=>∃v,e= .returned v/\K v w''
 |_=>False
def iK(a0:Act)(dsts:List Nat)(V:Nat->Value):Act:=dsts.foldl (λa s=>a.put (some s) (V s)) a0
def zC(V:Nat->Value):∀(dsts:List Nat) (a0:Act),(∀s∈dsts,s<a0.tmps.size)->
  (iK a0 dsts V).defers=a0.defers/\(iK a0 dsts V).tmps.size=a0.tmps.size/\∀s,s<a0.tmps.size->(iK a0 dsts V).tmps.getD s undef=if s∈dsts then V s else a0.tmps.getD s undef
 |[],a0,_=>⟨rfl,rfl,λs _=>by simp[iK]⟩
 |d::dsts,a0,h=>by
  have hs:(a0.put (some d) (V d)).tmps.size=a0.tmps.size:=by simp[mh]
  obtain⟨h1,h2,h3⟩:=zC V dsts (a0.put (some d) (V d)) (by grind);refine⟨h1,h2.trans hs,?_⟩;intro s hlt;have:=h3 s (by omega);show(iK (a0.put (some d) (V d)) dsts V).tmps.getD s undef=_;rw[this];by_cases hm:s∈dsts
  .grind
  .by_cases e:s=d
   .subst e;simp[mh,hlt]
   .simp only[mh,fy,vh];grind
def Act.eval_evalV(a:Act):a.eval=bK (λs=>a.tmps.getD s undef):=by
 funext x
 cases x<;>rfl
def gdV(ops:Array Oper)(V:Nat->Value)(j:Nat):Option Bool:=
 match(ops[j]?).bind (·.dst)with
 |some d=>(match V d with| .bool b=>some b|_=>none)
 |none=>none
def DF(ops:Array Oper)(t:Array Value):yielded ops t=gdV ops (λs=>t.getD s undef):=by
 funext j
 unfold yielded gdV;cases h:(ops[j]?).bind (·.dst)with
 |none=>rfl
 |some d=>
  simp only[qP,fy];cases ht:t[d]? with
  |none=>rfl
  |some v=>grind
def Th{P:Program}{id:Nat}{ops:Array Oper}{Q:Exit->Act->World->Prop}{a0:Act}{w0:World}(hm:P.follows .mixedOrders=true)
  (dsts:List Nat)
  (hok:((bQ ops.size).all λi=>((ops[i]?).map λo=>(o.after.toList.all λe=> !iD .any e||decide (e.on<i))&&(match o.dst with|some d=>dsts.contains d|none=>true)).getD true)=true)
  (hds:∀s∈dsts,s<a0.tmps.size)
  (F:(Nat->Bool)->(Nat->Value)->World->Prop) (h0:F (λ_=>false) (λs=>a0.tmps.getD s undef) w0.drew)
  (hstep:∀(i:Nat) (o:Oper) (D:Nat->Bool) (V:Nat->Value) (w:World),ops[i]? =some o->F D V w->D i=false->(∀e∈o.after.toList,iD .any e=true->D e.on=true)->
    (∀s,s∉dsts->V s=a0.tmps.getD s undef)->
    if ia o (gdV ops V)=true then
     cN P o V w (λv w'=>F (λj=>if j=i then true else D j) (match o.dst with|some d=>λs=>if s=d then v else V s|none=>V) w')
    else F (λj=>if j=i then true else D j) (match o.dst with|some d=>λs=>if s=d then undef else V s|none=>V) w)
  (hend:∀(D:Nat->Bool) (V:Nat->Value) (w:World),F D V w->(∀i,i<ops.size->D i=true)->Q .normal (iK a0 dsts V) w):
  (yh id ops true).wp P Q a0 w0:=by
 have hops:∀(i:Nat) (o:Oper),ops[i]? =some o->(∀e∈o.after.toList,iD .any e=true->e.on<i)/\(∀d,o.dst=some d->d∈dsts):=by
  intro i o ho;have hi:i<ops.size:=by grind
  rw[bk]at hok;have:=hok i (cG.2 hi);rw[ho]at this;simp only[eO,lH,bw]at this;obtain⟨g2,g3⟩:=this;refine⟨?_,?_⟩
  .grind
  .grind
 refine S7 hm (by grind) (λD a w=>a.defers=a0.defers/\a.tmps.size=a0.tmps.size/\(∀s,s∉dsts->a.tmps.getD s undef=a0.tmps.getD s undef)/\F D (λs=>a.tmps.getD s undef) w) (by grind) ?_ ?_
 .intro i o D a w ho ⟨i1,i2,i3,i4⟩ hD hpre;obtain⟨_,hdst⟩:=hops i o ho;have hrun:=hstep i o D (λs=>a.tmps.getD s undef) w ho i4 hD hpre i3;have hput:∀(v:Value) (w':World),F (λj=>if j=i then true else D j) (match o.dst with|some d=>λs=>if s=d then v else a.tmps.getD s undef|none=>λs=>a.tmps.getD s undef) w'->
    (a.put o.dst v).defers=a0.defers/\(a.put o.dst v).tmps.size=a0.tmps.size/\(∀s,s∉dsts->(a.put o.dst v).tmps.getD s undef=a0.tmps.getD s undef)/\F (λj=>if j=i then true else D j) (λs=>(a.put o.dst v).tmps.getD s undef) w':=by
   intro v w' hF;cases hd:o.dst with
   |none=>rw[hd]at hF;exact⟨i1,i2,i3,hF⟩
   |some d=>
    have hdm:=hdst d hd;have hget:∀s,(a.put (some d) v).tmps.getD s undef=if s=d then v else a.tmps.getD s undef:=by
     intro s;simp only[mh,fy,vh];by_cases e:d=s
     .grind
     .grind
    refine⟨i1,by simpa[mh]using i2,?_,?_⟩
    .intro s hs;rw[hget,if_neg (by grind)];exact i3 s hs
    .have e:(λs=>(a.put (some d) v).tmps.getD s undef)=(λs=>if s=d then v else a.tmps.getD s undef):=funext hget;grind
  unfold wpOp;rw[ho];simp only[];rw[DF];by_cases hw:ia o (gdV ops λs=>a.tmps.getD s undef)=true
  .rw[if_pos hw]at hrun|-;refine .inl ?_;unfold Oper.wp;rw[Act.eval_evalV];unfold cN at hrun;cases hr:(execOp (bK λs=>a.tmps.getD s undef) o).run P w with
   |halt x w'=>grind
   |ok n w'=>
    rw[hr]at hrun;cases n<;>simp only[]at hrun<;>first|exact hrun.elim|skip
    .exact hput _ _ hrun
    .exact hput _ _ hrun
    .rename_i f args;refine hrun.mono ?_;rintro e w'' ⟨v,rfl,hK⟩;exact hput _ _ hK
  .rw[if_neg hw]at hrun|-;exact hput _ _ hrun
 .intro D a w ⟨i1,i2,i3,i4⟩ hall;obtain⟨p1,p2,p3⟩:=zC (λs=>a.tmps.getD s undef) dsts a0 hds;have e:iK a0 dsts (λs=>a.tmps.getD s undef)=a:=by
   obtain⟨t,df⟩:=a;have ht:(iK a0 dsts (λs=>t.getD s undef)).tmps=t:=by
    apply Array.ext
    .rw[p2];exact i2.symm
    .intro s h1 h2;have h3:=p3 s (by grind);rw[fy,vf h1,lH]at h3;rw[h3];by_cases hm:s∈dsts
     .rw[if_pos hm];simp[fy,h2]
     .rw[if_neg hm,<-i3 s hm];simp[fy,h2]
   have hdf:(iK a0 dsts (λs=>t.getD s undef)).defers=df:=p1.trans i1.symm;show iK a0 dsts (λs=>t.getD s undef)={tmps:=t,defers:=df};cases hp:iK a0 dsts (λs=>t.getD s undef)with
   |mk t' df'=>
    grind
  grind
def bC(g:Nat->Option Ob)(W:List (Nat×Option Ob)):Nat->Option Ob:=λs=>match W.lookup s with|some x=>x|none=>g s
def kT:Value->AV
 | .int k n=> .p (.int k n)
 | .bool b=> .p (.bool b)
 | .string s=> .p (.str s)
 | .slice none 0 0=> .nil
 |_=> .any
def J1{ρ:Ren}{C:bG}(v:Value):aW ρ C (kT v) v:=by unfold kT;split<;>(unfold aW;try unfold aX)<;>first|rfl|trivial
def tn{ρ:Ren}{C:bG}:∀(vs:List Value),bB ρ C (vs.map kT) vs
 |[] =>by rfl
 |v::vs=>by exact⟨v,vs,rfl,J1 v,tn vs⟩
def bM:List AV->Option (List PV)
 |[] =>some []
 | .p x::l=>(bM l).map (x:: ·)
 |_::_=>none
def eR(l:List AV):AV:=match bM l with|some q=> .p (.agg q)|none=> .agg l
def qo{ρ:Ren}{C:bG}:∀{l:List AV} {q:List PV} {vs:List Value},bM l=some q->bB ρ C l vs->az C q vs
 |[],q,vs,h,hr=>by simp[bM]at h;subst h;exact hr
 |x::l,q,vs,h,hr=>by
  unfold bM at h;split at h
  .grind
  .rename_i y l' e;cases e;simp only[l5]at h;obtain⟨r,h1,rfl⟩:=h;obtain⟨v,vs',rfl,h2,h3⟩:=hr;exact⟨v,vs',rfl,h2,qo h1 h3⟩
  .cases h
def z6{ρ:Ren}{C:bG}{l:List AV}{vs:List Value}(h:bB ρ C l vs)(h1:gi vs):aW ρ C (eR l) (.agg vs.toArray):=by
 unfold eR;split
 .rename_i q hq;exact⟨vs,rfl,qo hq h,h1⟩
 .unfold aW;grind
def az.toA{ρ:Ren}{C:bG}:∀{l:List PV} {vs:List Value},az C l vs->bB ρ C (l.map .p) vs
 |[],vs,h=>by exact h
 |x::l,vs,h=>by
  obtain⟨v,r,rfl,h2,h3⟩:=h;exact⟨v,r,rfl,by exact h2,az.toA h3⟩
def sV:Value->AV
 | .agg cs=>if cs.toList.all (·.oneCell')=true then eR (cs.toList.map kT)else .any
 | .tuple vs=>if vs.toList=[]then .undef else .any
 |v=>kT v
def Tz{ρ:Ren}{C:bG}(v:Value):aW ρ C (sV v) v:=by
 unfold sV;split
 .split
  .rename_i cs h;have:=z6 (tn (ρ:=ρ) (C:=C) cs.toList) (λu hu=>by grind);omega
  .trivial
 .split
  .unfold aW Go.undef;simp_all
  .trivial
 .exact J1 v
def kC(F:List AV):Operand->AV
 | .tmp t=>F.getD t .any
 | .const v=>sV v
 | .func f=> .p (.fn (.func f) [] [])
 | .global _=> .any
def af(P:Program)(t:TypeId):Nat:=((P.info? t).map (·.size)).getD 0
def iU(P:Program)(t:TypeId):Bool:=match P.underlying t with|some (.struct _)|some (.array _ _)=>true|_=>false
def tok(P:Program)(t:TypeId):Bool:=(P.info? t).isSome&&(P.underlying t).isSome
def pu(P:Program)(t:TypeId):Option (List AV):=(P.info? t).bind λi=>i.zero.map λz=>z.cells.toList.map kT
def pq(P:Program)(t:TypeId):Bool:=((P.info? t).bind λi=>i.zero.map λz=>z.cells.toList.all (·.oneCell')&&z.cells.size==i.size).getD false
def dD(P:Program)(t:TypeId):Option TypeId:=match P.underlying t with|some (.slice e)=>some e|_=>none
def rJ(P:Program)(t:TypeId):Option (Nat×TypeId):=match P.underlying t with|some (.array n e)=>some (n,e)|_=>none
def HR(P:Program)(t:TypeId):Option IntKind:=match P.underlying t with|some (.int k)=>some k|_=>none
def tL(P:Program)(t:TypeId)(f:Nat):Option (Nat×TypeId):=match P.underlying t with
 |some (.struct fs)=>(fs[f]?).bind λx=>if af P x.type=0 then none else some (x.offset,x.type)
 |_=>none
def yT:Nat->Nat->Nat
 |0,_=>0
 |f+1,s=>if s % 2=0 then yT f (s/2)+1 else 0
def cls(s:Nat):Nat:=yT s s
def sit(n i:Nat):Nat:=2^n*(2*i+1)
def Mj(i:Nat):∀(n f:Nat),n<f->yT f (sit n i)=n
 |0,f+1,_=>by unfold yT sit;grind
 |n+1,f+1,h=>by
  have e:sit (n+1) i=2*sit n i:=by unfold sit;rw[Nat.pow_succ,Nat.mul_comm (2^n) 2,Nat.mul_assoc]
  unfold yT;rw[e,if_pos (by omega),Nat.mul_div_cancel_left _ (by decide),Mj i n f (by omega)]
def iH(n i:Nat):cls (sit n i)=n:=Mj i n _ (by unfold sit;have h1:n<2^n:=Nat.lt_two_pow_self;grind)
abbrev Res:=AV->List Nat->List (Nat×Option Ob)->Prop
def bR(P:Program)(o:Oper)(E:Operand->AV)(σ:Nat->Option Ob)(n:Nat)(r:AV)(R:List Nat)(W:List (Nat×Option Ob)):Prop:=
 ∀(C0:bG) (ρ:Ren) (g:Nat->Option Ob) (V:Nat->Value) (w:World) (B:Nat),StR C0 ρ g w B->B<=w.heap.size->(∀s∈R,g s=σ s)->(∀s,cls s=n->ρ s=none)->(∀s,cls s=n->g s=none)->
  (∀x∈o.op.operands.toList,aW ρ (bF C0 B w ρ g) (E x) (bK V x))->
  cN P o V w λv w'=>∃ρ':Ren,(∀s,cls s≠n->ρ' s=ρ s)/\(∀b o' x,bF C0 B w ρ g b o' x->bF C0 B w' ρ' (bC g W) b o' x)/\
   StR C0 ρ' (bC g W) w' B/\aW ρ' (bF C0 B w' ρ' (bC g W)) r v/\Below B w w'
def bR.pure{P:Program}{o:Oper}{E:Operand->AV}{σ:Nat->Option Ob}{n:Nat}{r:AV}{R:List Nat}
  (h:∀(C0:bG) (ρ:Ren) (g:Nat->Option Ob) (V:Nat->Value) (w:World) (B:Nat),StR C0 ρ g w B->(∀s∈R,g s=σ s)->(∀x∈o.op.operands.toList,aW ρ (bF C0 B w ρ g) (E x) (bK V x))->
    cN P o V w λv w'=>w'=w/\aW ρ (bF C0 B w ρ g) r v):bR P o E σ n r R [] :=by
 intro C0 ρ g V w B hs hB hR hn hg hE;have:=h C0 ρ g V w B hs hR hE;have hmono':∀(K K':Value->World->Prop),(∀v w,K v w->K' v w)->cN P o V w K->cN P o V w K':=by
  intro K K' hk h;unfold cN at h|-;split at h
  .grind
  .grind
  .exact h.mono (by grind)
  .exact h.elim
 refine hmono' _ _ ?_ this;rintro v w' ⟨rfl,hr⟩;exact⟨ρ,λ_ _=>rfl,λ_ _ _ h=>h,hs,hr,Below.refl _ _⟩
def G8(P:Program)(t:TypeId)(cs:List PV)(off:Nat)(K:PV->Prop):Prop:=
 tok P t=true/\if iU P t=true then∃l,(cs.drop off).take (af P t)=l/\l.length=af P t/\K (.agg l)else∃x,cs[off]? =some x/\K x
def rD(P:Program)(t:TypeId)(cs:List AV)(off:Nat)(K:AV->Prop):Prop:=
 tok P t=true/\if iU P t=true then∃l,(cs.drop off).take (af P t)=l/\l.length=af P t/\K (eR l)else∃x,cs[off]? =some x/\K x
def Ig{P:Program}(w:World)(b o:Nat)(t:TypeId)(ht:tok P t=true)(vs:List Value)(v:Value)
  (h:if iU P t=true then vs.length=af P t/\w.rangeAt b o vs/\v= .agg vs.toArray else w.cell? ⟨b,o,none⟩=some v):
  (Cg t (.pointer (some ⟨b,o,none⟩))).run P w= .ok v w:=by
 unfold tok at ht;simp only[bw,pJ]at ht;obtain⟨⟨i,hi⟩,d,hd⟩:=ht;cases hg:iU P t with
 |true=>
  rw[hg,if_pos rfl]at h;obtain⟨h1,h2,rfl⟩:=h;refine run_loadAt_mid w b o t vs d h2 hd ?_ ?_
  .unfold iU at hg;grind
  .rw[h1];unfold af;rw[hi];rfl
 |false=>
  rw[hg]at h;simp only[qM,if_false]at h;have:(isAgg t).run P w= .ok false w:=by unfold isAgg;rw[cp,run_underlying hd w];unfold iU at hg;rw[hd]at hg;cases d<;>simp_all
  simp[Cg,Ch,loadVar,this,h,load,Sem.run]
def WO{P:Program}{o:Oper}{E:Operand->AV}{σ:Nat->Option Ob}{n:Nat}{t:TypeId}{x:Operand}(ho:o.op= .load t x){cs:List PV}{off:Nat}(hx:E x= .p (.pro cs off)){K:PV->Prop}
  (h:G8 P t cs off K):∃r,bR P o E σ n (.p r) [] []/\K r:=by
 obtain⟨ht,h⟩:=h;have key:∀(r:PV),(∀(C:bG) (w:World) (b oo:Nat),(∀b o v,C b o v->w.cell? ⟨b,o,none⟩=some v)->cP C cs b oo->∃v vs,(if iU P t=true then vs.length=af P t/\w.rangeAt b (oo+off) vs/\v= .agg vs.toArray else w.cell? ⟨b,oo+off,none⟩=some v)/\aX C r v)->
   bR P o E σ n (.p r) [] [] :=by
  intro r hr;refine bR.pure ?_;intro C0 ρ g V w B hs _ hE;have h1:=hE x (by rw[ho];simp[ce]);rw[hx]at h1;unfold aW aX at h1;obtain⟨b,oo,he,hc⟩:=h1;obtain⟨v,vs,h2,h3⟩:=hr _ w b oo (λb o v hh=>hh.1) hc;have:=Ig (P:=P) w b (oo+off) t ht vs v h2;unfold cN execOp;simp only[ho,he,cp,this,ct,db];exact⟨trivial,by exact h3⟩
 split at h
 .rename_i hg;obtain⟨l,hl,hlen,hK⟩:=h;refine⟨_,key _ ?_,hK⟩;intro C w b oo hC hc;have hc2:=(hc.drop off).take (af P t);rw[hl]at hc2;have:∀m,∀l':List PV,l'.length=m->∀o',cP C l' b o'->∃vs:List Value,vs.length=m/\w.rangeAt b o' vs/\az C l' vs/\gi vs:=by
   intro m;induction m with
   |zero=>intro l' h0 o' _;refine⟨[],rfl,(λj v hj=>by simp at hj),?_⟩;rw[ni.1 h0];exact⟨by rfl,λu hu=>by cases hu⟩
   |succ m ih=>
    intro l' h1 o' h2;cases l' with
    |nil=>simp at h1
    |cons y l'=>
     obtain⟨⟨v,h3,h6,h4⟩,h5⟩:=h2;obtain⟨vs,g1,g2,g3,g4⟩:=ih l' (by grind) (o'+1) h5;refine⟨v::vs,by simp[g1],?_,?_,λu hu=>by rcases bT.1 hu with rfl|hu;exact h6;exact g4 u hu⟩
     .intro j u hj;cases j with
      |zero=>grind
      |succ j=>have:=g2 j u (by grind);grind
     .unfold az;grind
  obtain⟨vs,g1,g2,g3,g4⟩:=this _ l rfl _ hc2;refine⟨_,vs,?_,by exact⟨vs,rfl,g3,g4⟩⟩;grind
 .obtain⟨y,hy,hK⟩:=h;refine⟨y,key _ ?_,hK⟩;intro C w b oo hC hc;obtain⟨v,h1,_,h2⟩:=cP.get cs b oo hc off y hy;refine⟨v,[],?_,h2⟩;grind
def Kd{P:Program}{t:TypeId}{ob:Ob}{off:Nat}{K:AV->Prop}(h:rD P t ob.cells off K):∃r,K r/\∀(ρ:Ren) (C:bG) (w:World) (b c:Nat) (arr:Array Value),ObRep ρ C w b c ob arr->
  ∃v,(Cg t (.pointer (some ⟨b,off,none⟩))).run P w= .ok v w/\aW ρ C r v:=by
 obtain⟨ht,h⟩:=h;have key:∀(r:AV),(∀(ρ:Ren) (C:bG) (w:World) (b c:Nat) (arr:Array Value),ObRep ρ C w b c ob arr->∃v vs,(if iU P t=true then vs.length=af P t/\w.rangeAt b off vs/\v= .agg vs.toArray else w.cell? ⟨b,off,none⟩=some v)/\aW ρ C r v)->
   ∀(ρ:Ren) (C:bG) (w:World) (b c:Nat) (arr:Array Value),ObRep ρ C w b c ob arr->∃v,(Cg t (.pointer (some ⟨b,off,none⟩))).run P w= .ok v w/\aW ρ C r v:=by
  intro r hr ρ C w b c arr h3;obtain⟨v,vs,h4,h5⟩:=hr _ _ w b c arr h3;exact⟨v,Ig (P:=P) w b off t ht vs v h4,h5⟩
 split at h
 .rename_i hg;obtain⟨l,hl,hlen,hK⟩:=h;refine⟨_,hK,key _ ?_⟩;intro ρ C w b c arr hc;have:∀m,∀l':List AV,l'.length=m->∀o',(∀(i:Nat) x,l'[i]? =some x->∃v,arr[o'+i]? =some v/\v.oneCell'=true/\aW ρ C x v)->∃vs:List Value,vs.length=m/\w.rangeAt b o' vs/\bB ρ C l' vs/\gi vs:=by
   intro m;induction m with
   |zero=>intro l' h0 o' _;refine⟨[],rfl,(λj v hj=>by simp at hj),?_⟩;rw[ni.1 h0];exact⟨by rfl,λu hu=>by cases hu⟩
   |succ m ih=>
    intro l' h1 o' h2;cases l' with
    |nil=>simp at h1
    |cons y l'=>
     obtain⟨v,h3,h6,h4⟩:=h2 0 y rfl;obtain⟨vs,g1,g2,g3,g4⟩:=ih l' (by grind) (o'+1) (λi x hi=>by have:=h2 (i+1) x (by grind);grind)
     refine⟨v::vs,by simp[g1],?_,?_,λu hu=>by rcases bT.1 hu with rfl|hu;exact h6;exact g4 u hu⟩
     .intro j u hj;cases j with
      |zero=>simp at hj;subst hj;rw[hc.cell];exact h3
      |succ j=>have:=g2 j u (by grind);grind
     .unfold bB;grind
  obtain⟨vs,g1,g2,g3,g4⟩:=this _ l rfl off (λi x hi=>hc.cells _ x (by grind))
  refine⟨_,vs,?_,z6 g3 g4⟩;grind
 .rename_i hg;obtain⟨y,hy,hK⟩:=h;refine⟨y,hK,key _ ?_⟩;intro ρ C w b c arr hc;obtain⟨v,h1,_,h2⟩:=hc.cells off y hy;refine⟨v,[],?_,h2⟩;rw[if_neg hg,hc.cell];exact h1
def WP{P:Program}{o:Oper}{E:Operand->AV}{σ:Nat->Option Ob}{n:Nat}{t:TypeId}{x:Operand}(ho:o.op= .load t x){s off:Nat}(hx:E x= .ptr s off){ob:Ob}(hob:σ s=some ob){K:AV->Prop}
  (h:rD P t ob.cells off K):∃r,bR P o E σ n r [s] []/\K r:=by
 obtain⟨r,hK,hr⟩:=Kd h;refine⟨r,bR.pure ?_,hK⟩;intro C0 ρ g V w B hs hR hE;have h1:=hE x (by rw[ho];simp[ce]);rw[hx]at h1;obtain⟨b,c,he,hv⟩:=h1;obtain⟨_,arr,h3⟩:=hs.at ((hR s (by simp)).trans hob) he;obtain⟨v,h4,h5⟩:=hr _ _ w b c arr h3;unfold cN execOp;simp_all
section
section
variable {P:Program} {o:Oper} {E:Operand->AV} {σ:Nat->Option Ob} {n:Nat}
def bR.val{r:AV}(h:∀(ρ:Ren) (C:bG) (V:Nat->Value) (w:World),(∀x∈o.op.operands.toList,aW ρ C (E x) (bK V x))->
  ∃v,(execOp (bK V) o).run P w= .ok (.value v) w/\aW ρ C r v):bR P o E σ n r [] [] :=by
 refine bR.pure ?_;intro C0 ρ g V w B _ _ hE;obtain⟨v,h1,h2⟩:=h ρ _ V w hE;unfold cN;grind
def MB{x:Operand}(ho:o.op= .move x\/o.op= .assign x):bR P o E σ n (E x) [] [] :=by refine bR.val ?_;intro ρ C V w hE;have h1:=hE x (by rcases ho with ho|ho<;>rw[ho] <;>simp[ce]);refine⟨bK V x,?_,h1⟩;rcases ho with ho|ho<;>(unfold execOp;rw[ho];rfl)
def Wf{x:Operand}(ho:o.op= .move x\/o.op= .assign x)(hx:E x= .nil):bR P o E σ n (.p (.sl 0 [])) [] [] :=by
 refine bR.val ?_;intro ρ C V w hE;have h1:=hE x (by rcases ho with ho|ho<;>rw[ho] <;>simp[ce]);rw[hx]at h1;refine⟨bK V x,?_,?_⟩
 .rcases ho with ho|ho<;>(unfold execOp;rw[ho];rfl)
 .rw[h1];unfold aW aX;grind
def uw(c a b:AV)(K:AV->Prop):Prop:=match c with
 | .p (.bool t)=>K (if t=true then a else b)
 |_=>False
def Xs{c a b:Operand}(ho:o.op= .pick c a b){K:AV->Prop}(h:uw (E c) (E a) (E b) K):∃r,bR P o E σ n r [] []/\K r:=by
 unfold uw at h;have key:∀t:Bool,E c= .p (.bool t)->bR P o E σ n (if t=true then E a else E b) [] [] :=by
  intro t ht;refine bR.val ?_;intro ρ C V w hE;have h1:=hE c (by rw[ho];simp[ce]);have h2:=hE a (by rw[ho];simp[ce]);have h3:=hE b (by rw[ho];simp[ce]);rw[ht]at h1;unfold aW aX at h1;refine⟨if t then bK V a else bK V b,?_,?_⟩
  .unfold execOp;rw[ho];simp[h1,asBool]
  .grind
 grind
def CI(x:AV):Bool:=match x with
 | .ptr .. =>true
 | .p (.pro ..)=>true
 | .fn (.func _) .. =>true
 | .p (.fn (.func _) ..)=>true
 |_=>false
def Zb{x:Operand}(ho:o.op= .nilCheck x)(h:CI (E x)=true):bR P o E σ n (E x) [] [] :=by
 refine bR.val ?_;intro ρ C V w hE;have h1:=hE x (by rw[ho];simp[ce]);refine⟨bK V x,?_,h1⟩;unfold execOp;rw[ho];unfold CI at h;split at h
 .rename_i e;rw[e]at h1;obtain⟨b,c,_,h1⟩:=h1;simp[h1]
 .rename_i e;rw[e]at h1;obtain⟨b,c,h1,_⟩:=h1;simp[h1]
 .rename_i e;rw[e]at h1;obtain⟨b,c,h1,_⟩:=h1;simp[h1]
 .rename_i e;rw[e]at h1;obtain⟨b,c,h1,_⟩:=h1;simp[h1]
 .cases h
def ky(l:List Int):List PV:=l.map (.int .i64)
def x6(P:Program)(t:TypeId)(m:Nat):Prop:=∀(xs ys:List Int) (x y:Operand) (w:World),xs.length=m->ys.length=m->
 (do eqGuard .eql t x y (.agg (xs.map (cg .i64)).toArray) (.agg (ys.map (cg .i64)).toArray);binOp .eql t (.agg (xs.map (cg .i64)).toArray) (.agg (ys.map (cg .i64)).toArray):Sem Value).run P w= .ok (.bool (xs==ys)) w/\
 (do eqGuard .neq t x y (.agg (xs.map (cg .i64)).toArray) (.agg (ys.map (cg .i64)).toArray);binOp .neq t (.agg (xs.map (cg .i64)).toArray) (.agg (ys.map (cg .i64)).toArray):Sem Value).run P w= .ok (.bool (xs !=ys)) w
def Gn(P:Program)(t:TypeId):Bool:=match P.underlying t with|some .bool=>true|_=>false
def oT:List PV->Option (List Int)
 |[] =>some []
 | .int .i64 k::l=>(oT l).map (k:: ·)
 |_=>none
def Dd{C:bG}:∀{l:List PV} {xs:List Int} {vs:List Value},oT l=some xs->az C l vs->vs=xs.map (cg .i64)
 |[],xs,vs,h,hr=>by simp[oT]at h;subst h;subst hr;rfl
 |x::l,xs,vs,h,hr=>by
  unfold oT at h;split at h
  .grind
  .rename_i k l' e;cases e;simp only[l5]at h;obtain⟨r,h1,rfl⟩:=h;obtain⟨v,vs',rfl,h2,h3⟩:=hr;rw[h2,Dd h1 h3];rfl
  .cases h
def Ih{t:TypeId}(hu:P.underlying t=some .bool)(a b:Bool)(w:World):(Op.equal t (.bool a) (.bool b)).run P w= .ok (a==b) w:=by unfold Op.equal;rw[show Op.maxDepth=9999+1 from rfl];unfold tV;simp[run_underlying hu]
def uq(op:BinOp)(k:IntKind)(a b:Int)(K:AV->Prop):Prop:=match op with
 | .add=>K (.p (.int k (k.wrap (a+b))))
 | .sub=>K (.p (.int k (k.wrap (a-b))))
 | .mul=>K (.p (.int k (k.wrap (a*b))))
 | .quo=>b≠0/\K (.p (.int k (k.wrap (a.tdiv b))))
 | .rem=>b≠0/\K (.p (.int k (a.tmod b)))
 | .eql=>K (.p (.bool (a==b)))
 | .neq=>K (.p (.bool (a !=b)))
 | .lss=>K (.p (.bool (decide (a<b))))
 | .leq=>K (.p (.bool (decide (a<=b))))
 | .gtr=>K (.p (.bool (decide (b<a))))
 | .geq=>K (.p (.bool (decide (b<=a))))
 |_=>False
def vO(P:Program)(op:BinOp)(t:TypeId)(x y:AV)(K:AV->Prop):Prop:=match x,y with
 | .p (.int k a),.p (.int k' b)=>k'=k/\uq op k a b K
 | .p (.bool a),.p (.bool b)=>Gn P t=true/\(match op with| .eql=>K (.p (.bool (a==b)))| .neq=>K (.p (.bool (a !=b)))|_=>False)
 | .p (.agg l),.p (.agg m)=>∃xs ys,oT l=some xs/\oT m=some ys/\xs.length=ys.length/\x6 P t xs.length/\(match op with| .eql=>K (.p (.bool (xs==ys)))| .neq=>K (.p (.bool (xs !=ys)))|_=>False)
 | .p (.sl _ cs),.nil=>(dD P t).isSome=true/\cs≠[]/\op= .eql/\K (.p (.bool false))
 |_,_=>False
def aAh{op:BinOp}{t t':TypeId}{x y:Operand}(ho:o.op= .binOp op t x y t'){K:AV->Prop}(h:vO P op t (E x) (E y) K):∃r,bR P o E σ n r [] []/\K r:=by
 have hx:x∈o.op.operands.toList:=by rw[ho];simp[ce]
 have hy:y∈o.op.operands.toList:=by rw[ho];simp[ce]
 unfold vO at h;split at h
 .rename_i k a k' b ea eb;obtain⟨rfl,h⟩:=h;have key:∀r:AV,(∀ρ C,∃v,(∀w:World,(do eqGuard op t x y (.int k' a) (.int k' b);binOp op t (.int k' a) (.int k' b):Sem Value).run P w= .ok v w)/\aW ρ C r v)->bR P o E σ n r [] [] :=by intro r hr;refine bR.val ?_;intro ρ C V w hE;have h1:=hE x hx;have h2:=hE y hy;rw[ea]at h1;rw[eb]at h2;unfold aW aX at h1 h2;obtain⟨v,h3,h4⟩:=hr ρ C;refine⟨v,?_,h4⟩;unfold execOp;rw[ho];simp only[h1,h2,cp (x:=(do eqGuard op t x y (.int k' a) (.int k' b);binOp op t (.int k' a) (.int k' b):Sem Value)),h3,ct,db]
  unfold uq at h;split at h
  .exact⟨_,key _ λρ C=>⟨.int k' _,λw=>by simp[eqGuard,binOp,IH];rfl,by rfl⟩,h⟩
  .exact⟨_,key _ λρ C=>⟨.int k' _,λw=>by simp[eqGuard,binOp,IH];rfl,by rfl⟩,h⟩
  .exact⟨_,key _ λρ C=>⟨.int k' _,λw=>by simp[eqGuard,binOp,IH];rfl,by rfl⟩,h⟩
  .exact⟨_,key _ λρ C=>⟨.int k' _,λw=>by simp[eqGuard,binOp,Op.intDiv,h.1];rfl,by rfl⟩,h.2⟩
  .exact⟨_,key _ λρ C=>⟨.int k' _,λw=>by simp[eqGuard,binOp,Op.intDiv,h.1];rfl,by rfl⟩,h.2⟩
  .exact⟨_,key _ λρ C=>⟨.bool _,λw=>by simp[eqGuard,binOp,yk];rfl,by rfl⟩,h⟩
  .exact⟨_,key _ λρ C=>⟨.bool _,λw=>by simp[eqGuard,binOp,yk];rfl,by rfl⟩,h⟩
  .exact⟨_,key _ λρ C=>⟨.bool _,λw=>by simp[eqGuard,binOp,yk];rfl,by rfl⟩,h⟩
  .exact⟨_,key _ λρ C=>⟨.bool _,λw=>by simp[eqGuard,binOp,yk];rfl,by rfl⟩,h⟩
  .exact⟨_,key _ λρ C=>⟨.bool _,λw=>by simp[eqGuard,binOp,yk];rfl,by rfl⟩,h⟩
  .exact⟨_,key _ λρ C=>⟨.bool _,λw=>by simp[eqGuard,binOp,yk];rfl,by rfl⟩,h⟩
  grind
 .rename_i a b ea eb;obtain⟨ht,h⟩:=h;unfold Gn at ht;have hu:P.underlying t=some .bool:=by
   split at ht
   .assumption
   .cases ht
  have key:∀r:AV,(∀ρ C,∃v,(∀w:World,(do eqGuard op t x y (.bool a) (.bool b);binOp op t (.bool a) (.bool b):Sem Value).run P w= .ok v w)/\aW ρ C r v)->bR P o E σ n r [] [] :=by intro r hr;refine bR.val ?_;intro ρ C V w hE;have h1:=hE x hx;have h2:=hE y hy;rw[ea]at h1;rw[eb]at h2;unfold aW aX at h1 h2;obtain⟨v,h3,h4⟩:=hr ρ C;refine⟨v,?_,h4⟩;unfold execOp;rw[ho];simp only[h1,h2,cp (x:=(do eqGuard op t x y (.bool a) (.bool b);binOp op t (.bool a) (.bool b):Sem Value)),h3,ct,db]
  split at h
  .exact⟨_,key _ λρ C=>⟨.bool _,λw=>by simp only[eqGuard,binOp,Ih hu,cp,ct,db];rfl,by rfl⟩,h⟩
  .exact⟨_,key _ λρ C=>⟨.bool _,λw=>by simp only[eqGuard,binOp,Ih hu,cp,ct,db];rfl,by rfl⟩,h⟩
  grind
 .rename_i l m ea eb;obtain⟨xs,ys,hxs,hys,hlen,hEq,h⟩:=h;have key:∀r:AV,(∀ρ C,∃v,(∀w:World,(do eqGuard op t x y (.agg (xs.map (cg .i64)).toArray) (.agg (ys.map (cg .i64)).toArray);binOp op t (.agg (xs.map (cg .i64)).toArray) (.agg (ys.map (cg .i64)).toArray):Sem Value).run P w= .ok v w)/\aW ρ C r v)->bR P o E σ n r [] [] :=by intro r hr;refine bR.val ?_;intro ρ C V w hE;have h1:=hE x hx;have h2:=hE y hy;rw[ea]at h1;rw[eb]at h2;unfold aW aX at h1 h2;obtain⟨vs1,h1,r1,_⟩:=h1;obtain⟨vs2,h2,r2,_⟩:=h2;rw[Dd hxs r1]at h1;rw[Dd hys r2]at h2;obtain⟨v,h3,h4⟩:=hr ρ C;refine⟨v,?_,h4⟩;unfold execOp;rw[ho];simp only[h1,h2,cp (x:=(do eqGuard op t x y (.agg (xs.map (cg .i64)).toArray) (.agg (ys.map (cg .i64)).toArray);binOp op t (.agg (xs.map (cg .i64)).toArray) (.agg (ys.map (cg .i64)).toArray):Sem Value)),h3,ct,db]
  split at h
  .exact⟨_,key _ λρ C=>⟨.bool _,λw=>(hEq xs ys x y w rfl hlen.symm).1,by rfl⟩,h⟩
  .exact⟨_,key _ λρ C=>⟨.bool _,λw=>(hEq xs ys x y w rfl hlen.symm).2,by rfl⟩,h⟩
  grind
 .rename_i m cs ea eb;obtain⟨ht,hcs,rfl,h⟩:=h;obtain⟨e,hu⟩:∃e,P.underlying t=some (.slice e):=by unfold dD at ht;grind
  refine⟨_,bR.val ?_,h⟩;intro ρ C V w hE;have h1:=hE x hx;have h2:=hE y hy;rw[ea]at h1;rw[eb]at h2;unfold aW at h1 h2;obtain⟨a,c,h1,_,h3,_⟩:=h1;obtain⟨ad,rfl⟩:∃ad,a=some ad:=by
   cases a with
   |none=>grind
   |some ad=>grind
  refine⟨.bool false,?_,by rfl⟩;unfold execOp;rw[ho];have h4:∀w:World,(tV (9999+1) t (.slice (some ad) m c) (.slice none 0 0)).run P w= .ok false w:=λw=>by generalize 9999=D;simp only[tV,cp,run_underlying hu,ct,db]
  have h5:∀w:World,(binOp .eql t (.slice (some ad) m c) (.slice none 0 0)).run P w= .ok (.bool false) w:=λw=>by have:=h4 w;simp only[binOp,Op.equal,Op.maxDepth,cp,this,ct];rfl
  simp only[h1,h2,eqGuard,cp,h5,ct,db];try rfl
 grind
def unA(op:UnOp)(x:AV)(K:AV->Prop):Prop:=match op,x with
 | .not,.p (.bool b)=>K (.p (.bool !b))
 | .neg,.p (.int k a)=>K (.p (.int k (k.wrap (0-a))))
 |_,_=>False
def aAn{op:UnOp}{t:TypeId}{x:Operand}(ho:o.op= .unOp op t x){K:AV->Prop}(h:unA op (E x) K):∃r,bR P o E σ n r [] []/\K r:=by
 have hx:x∈o.op.operands.toList:=by rw[ho];simp[ce]
 unfold unA at h;split at h
 .rename_i b e;refine⟨_,bR.val ?_,h⟩;intro ρ C V w hE;have h1:=hE x hx;rw[e]at h1;unfold aW aX at h1;exact⟨.bool !b,by unfold execOp;rw[ho];simp[h1,Op.unary],by rfl⟩
 .rename_i k a e;refine⟨_,bR.val ?_,h⟩;intro ρ C V w hE;have h1:=hE x hx;rw[e]at h1;unfold aW aX at h1;exact⟨_,by unfold execOp;rw[ho];simp only[h1,Op.unary,IH];rfl,by rfl⟩
 grind
def Bx(P:Program)(src dst:TypeId)(x:AV)(K:AV->Prop):Prop:=match x with
 | .p (.int _ a)=>(P.underlying src).isSome=true/\∃k,HR P dst=some k/\K (.p (.int k (k.wrap a)))
 |_=>False
def Yj{src dst:TypeId}{x:Operand}(ho:o.op= .convert src dst x){K:AV->Prop}(h:Bx P src dst (E x) K):∃r,bR P o E σ n r [] []/\K r:=by
 have hx:x∈o.op.operands.toList:=by rw[ho];simp[ce]
 unfold Bx at h;split at h
 .rename_i k0 a e;obtain⟨hs,k,hk,h⟩:=h;obtain⟨d,hs⟩:=pJ.1 hs;have hd:P.underlying dst=some (.int k):=by
   unfold HR at hk;split at hk
   .grind
   .cases hk
  refine⟨_,bR.val ?_,h⟩;intro ρ C V w hE;have h1:=hE x hx;rw[e]at h1;unfold aW aX at h1;refine⟨_,?_,by rfl⟩;unfold execOp;rw[ho];simp only[h1,convert,cp,run_underlying hs,run_underlying hd,ct,Conv.intToInt,db]
 grind
def X9{f:Fn}{first caps:Array Operand}(ho:o.op= .makeFunc f first caps):bR P o E σ n (.fn f (first.toList.map E) (caps.toList.map E)) [] [] :=by
 refine bR.val ?_;intro ρ C V w hE;refine⟨.func f (first.map (bK V)) (caps.map (bK V)),?_,?_⟩
 .unfold execOp;rw[ho];rfl
 .have key:∀l:List Operand,(∀x∈l,aW ρ C (E x) (bK V x))->bB ρ C (l.map E) (l.map (bK V)):=by
   intro l;induction l with
   |nil=>intro _;rfl
   |cons x l ih=>
    unfold bB;grind
  refine⟨first.toList.map (bK V),caps.toList.map (bK V),?_,key _ λx hx=>hE x ?_,key _ λx hx=>hE x ?_⟩
  .congr 1<;>(apply pN.1;simp)
  .rw[ho];simp only[ce,Array.toList_append,bg];exact .inl hx
  .rw[ho];simp only[ce,Array.toList_append,bg];exact .inr hx
def Ge(P:Program)(t:TypeId)(f:Nat)(x:AV)(K:AV->Prop):Prop:=∃q,tL P t f=some q/\match x with
 | .ptr s off=>K (.ptr s (off+q.1))
 | .p (.pro cs off)=>K (.p (.pro cs (off+q.1)))
 |_=>False
def MR{t:TypeId}{f:Nat}{q:Nat×TypeId}(h:tL P t f=some q)(w:World)(b off:Nat):
  (Instr.fieldAt t (.pointer (some ⟨b,off,none⟩)) f).run P w= .ok (.pointer (some ⟨b,off+q.1,none⟩)) w:=by
 unfold tL at h;split at h
 .rename_i fs hu;simp only[qQ]at h;obtain⟨x,hx,h⟩:=h;split at h
  .cases h
  .rename_i hz;cases h;cases hi:P.info? x.type with
   |none=>simp[af,hi]at hz
   |some i=>
    have hne:i.size≠0:=by simpa[af,hi]using hz
    simp[Instr.fieldAt,run_underlying hu,hx,Ch,fieldPlace,sizeOf,typeInfo,hi,hne,vj]
 .cases h
def Wd{t:TypeId}{f:Nat}{x:Operand}(ho:o.op= .fieldAddr t x f){K:AV->Prop}(h:Ge P t f (E x) K):∃r,bR P o E σ n r [] []/\K r:=by
 have hx:x∈o.op.operands.toList:=by rw[ho];simp[ce]
 obtain⟨q,hq,h⟩:=h;split at h
 .rename_i s off e;refine⟨_,bR.val ?_,h⟩;intro ρ C V w hE;have h1:=hE x hx;rw[e]at h1;obtain⟨b,c,h1,h2⟩:=h1;refine⟨.pointer (some ⟨b,off+q.1,none⟩),?_,by unfold aW;grind⟩;unfold execOp;rw[ho];simp only[h2,cp,MR hq,ct,db]
 .rename_i cs off e;refine⟨_,bR.val ?_,h⟩;intro ρ C V w hE;have h1:=hE x hx;rw[e]at h1;obtain⟨b,oo,h1,h2⟩:=h1;refine⟨.pointer (some ⟨b,oo+off+q.1,none⟩),?_,by unfold aW aX;grind⟩;unfold execOp;rw[ho];simp only[h1,cp,MR hq,ct,db]
 grind
def sz(P:Program)(t:TypeId)(l:List AV)(off:Nat)(K:AV->Prop):Prop:=
 tok P t=true/\if iU P t=true then∃m,(l.drop off).take (af P t)=m/\K (eR m)else∃x,l[off]? =some x/\K x
def Gc(P:Program)(t:TypeId)(f:Nat)(x:AV)(K:AV->Prop):Prop:=∃q,tL P t f=some q/\match x with
 | .agg l=>sz P q.2 l q.1 K
 | .p (.agg l)=>sz P q.2 (l.map .p) q.1 K
 |_=>False
def bB.take{ρ:Ren}{C:bG}{l:List AV}{vs:List Value}(h:bB ρ C l vs)(k:Nat):bB ρ C (l.take k) (vs.take k):=
 bB.of _ _ (by simp[h.length]) λi x hi=>by
  rw[pD]at hi|-;split at hi
  .rw[if_pos ‹_›];exact h.get _ _ i x hi
  .cases hi
def bB.drop{ρ:Ren}{C:bG}{l:List AV}{vs:List Value}(h:bB ρ C l vs)(k:Nat):bB ρ C (l.drop k) (vs.drop k):=
 bB.of _ _ (by simp[h.length]) λi x hi=>by rw[vX]at hi|-;exact h.get _ _ _ x hi
def Xv{t:TypeId}{l:List AV}{off:Nat}{K:AV->Prop}(h:sz P t l off K):∃r,K r/\∀(ρ:Ren) (C:bG) (vs:List Value) (w:World),bB ρ C l vs->gi vs->∃v,(part t vs.toArray off).run P w= .ok v w/\aW ρ C r v:=by
 obtain⟨ht,h⟩:=h;unfold tok at ht;simp only[bw,pJ]at ht;obtain⟨⟨i,hi⟩,d,hd⟩:=ht;have hag:∀w:World,(isAgg t).run P w= .ok (iU P t) w:=by intro w;unfold isAgg iU;rw[cp,run_underlying hd w,hd];cases d<;>rfl
 split at h
 .rename_i hg;obtain⟨m,hm,hK⟩:=h;refine⟨_,hK,?_⟩;intro ρ C vs w hr h1s;have h2:=(hr.drop off).take (af P t);rw[hm]at h2;refine⟨_,?_,z6 h2 λu hu=>h1s u (by grind)⟩;have hsz:af P t=i.size:=by simp[af,hi]
  simp only[part,cp,hag,hg,ct,if_true,sizeOf,typeInfo,run_program,hi,db];grind
 .rename_i hg;obtain⟨x,hx,hK⟩:=h;refine⟨x,hK,?_⟩;intro ρ C vs w hr _;obtain⟨v,h1,h2⟩:=hr.get _ _ off x hx;refine⟨v,?_,h2⟩;have hg':iU P t=false:=by simpa using hg
  simp[part,hag,hg',h1]
def Wb{t:TypeId}{f:Nat}{x:Operand}(ho:o.op= .field t x f){K:AV->Prop}(h:Gc P t f (E x) K):∃r,bR P o E σ n r [] []/\K r:=by
 have hx:x∈o.op.operands.toList:=by rw[ho];simp[ce]
 obtain⟨q,hq,h⟩:=h;have key:∀l,sz P q.2 l q.1 K->(∀ρ C v,aW ρ C (E x) v->∃vs:List Value,v= .agg vs.toArray/\bB ρ C l vs/\gi vs)->∃r,bR P o E σ n r [] []/\K r:=by
  intro l hl hv;obtain⟨r,hK,hr⟩:=Xv hl;refine⟨r,bR.val ?_,hK⟩;intro ρ C V w hE;obtain⟨vs,h1,h2,h2s⟩:=hv ρ C _ (hE x hx);obtain⟨v,h3,h4⟩:=hr ρ C vs w h2 h2s;refine⟨v,?_,h4⟩;unfold tL at hq;split at hq
  .rename_i fs hu;simp only[qQ]at hq;obtain⟨y,hy,hq⟩:=hq;split at hq
   .cases hq
   .cases hq;unfold execOp;rw[ho];simp[h1,Instr.field,run_underlying hu,hy,asAgg,h3]
  .cases hq
 split at h
 .rename_i l e;refine key l h λρ C v hv=> ?_;rw[e]at hv;exact hv
 .rename_i l e;refine key _ h λρ C v hv=> ?_;rw[e]at hv;obtain⟨vs,h1,h2,h3⟩:=hv;exact⟨vs,h1,h2.toA,h3⟩
 grind
def BY(P:Program)(t:TypeId)(x i:AV)(K:AV->Prop):Prop:=match x,i with
 | .p (.sl n cs),.p (.int _ a)=>∃e,dD P t=some e/\(P.info? e).isSome=true/\0<=a/\a<n/\K (.p (.pro cs (a.toNat*af P e)))
 | .own s o n,.p (.int _ a)=>∃e,dD P t=some e/\(P.info? e).isSome=true/\0<=a/\a<n/\K (.ptr s (o+a.toNat*af P e))
 | .ptr s off,.p (.int _ a)=>∃q,rJ P t=some q/\(P.info? q.2).isSome=true/\0<=a/\a<q.1/\K (.ptr s (off+a.toNat*af P q.2))
 | .p (.pro cs off),.p (.int _ a)=>∃q,rJ P t=some q/\(P.info? q.2).isSome=true/\0<=a/\a<q.1/\K (.p (.pro cs (off+a.toNat*af P q.2)))
 |_,_=>False
def Kj{t e:TypeId}(ht:P.underlying t=some (.slice e))(he:(P.info? e).isSome=true){k:IntKind}{a:Int}{n c b off:Nat}(h0:0<=a)(h1:a<n)(w:World):
  (II t (.slice (some ⟨b,off,none⟩) n c) (.int k a)).run P w= .ok (.pointer (some ⟨b,off+a.toNat*af P e,none⟩)) w:=by
 obtain⟨i,hi⟩:=pJ.1 he;simp[II,asIntOf,run_underlying ht,h0,h1,sizeOf,typeInfo,hi,af,vj]
def Jo{t e:TypeId}{m:Nat}(ht:P.underlying t=some (.array m e))(he:(P.info? e).isSome=true){k:IntKind}{a:Int}{b off:Nat}(h0:0<=a)(h1:a<m)(w:World):
  (II t (.pointer (some ⟨b,off,none⟩)) (.int k a)).run P w= .ok (.pointer (some ⟨b,off+a.toNat*af P e,none⟩)) w:=by
 obtain⟨i,hi⟩:=pJ.1 he;simp[II,Ch,asIntOf,run_underlying ht,h0,h1,sizeOf,typeInfo,hi,af,vj]
def lO{t e:TypeId}(h:dD P t=some e):P.underlying t=some (.slice e):=by unfold dD at h;grind
def OZ{t:TypeId}{q:Nat×TypeId}(h:rJ P t=some q):P.underlying t=some (.array q.1 q.2):=by unfold rJ at h;grind
def WV{t:TypeId}{x i:Operand}(ho:o.op= .indexAddr t x i){K:AV->Prop}(h:BY P t (E x) (E i) K):∃r,bR P o E σ n r [] []/\K r:=by
 have hx:x∈o.op.operands.toList:=by rw[ho];simp[ce]
 have hi:i∈o.op.operands.toList:=by rw[ho];simp[ce]
 unfold BY at h;split at h
 .rename_i m cs k a ex ei;obtain⟨e,he,he2,h0,h1,hK⟩:=h;refine⟨_,bR.val ?_,hK⟩;intro ρ C V w hE;have g1:=hE x hx;have g2:=hE i hi;rw[ex]at g1;rw[ei]at g2;unfold aW aX at g1 g2;obtain⟨ad,c,g1,g3,g4,g5⟩:=g1;cases ad with
  |none=>grind
  |some ad=>
   obtain⟨b,off,sp⟩:=ad;obtain⟨g5,g6⟩:=g5 _ rfl;have g5:sp=none:=g5 (by omega);subst g5;refine⟨.pointer (some ⟨b,off+a.toNat*af P e,none⟩),?_,by unfold aW aX;grind⟩;unfold execOp;rw[ho];simp only[g1,g2,cp,Kj (lO he) he2 h0 h1,ct,db]
 .rename_i s oo m k a ex ei;obtain⟨e,he,he2,h0,h1,hK⟩:=h;refine⟨_,bR.val ?_,hK⟩;intro ρ C V w hE;have g1:=hE x hx;have g2:=hE i hi;rw[ex]at g1;rw[ei]at g2;unfold aW at g1 g2;unfold aX at g2;obtain⟨q,c,g1,g3|⟨b,o',c',rfl,g4,g5,g6,g7⟩⟩:=g1
  .omega
  .have:=g6 (by omega);refine⟨.pointer (some ⟨b,o'+a.toNat*af P e,none⟩),?_,by unfold aW;grind⟩;unfold execOp;rw[ho];simp only[g4,g2,cp,Kj (lO he) he2 h0 h1,ct,db]
 .rename_i s off k a ex ei;obtain⟨q,he,he2,h0,h1,hK⟩:=h;refine⟨_,bR.val ?_,hK⟩;intro ρ C V w hE;have g1:=hE x hx;have g2:=hE i hi;rw[ex]at g1;rw[ei]at g2;unfold aW at g1 g2;unfold aX at g2;obtain⟨b,c,g1,g3⟩:=g1;refine⟨.pointer (some ⟨b,off+a.toNat*af P q.2,none⟩),?_,by unfold aW;grind⟩;unfold execOp;rw[ho];simp only[g3,g2,cp,Jo (OZ he) he2 h0 h1,ct,db]
 .rename_i cs off k a ex ei;obtain⟨q,he,he2,h0,h1,hK⟩:=h;refine⟨_,bR.val ?_,hK⟩;intro ρ C V w hE;have g1:=hE x hx;have g2:=hE i hi;rw[ex]at g1;rw[ei]at g2;unfold aW aX at g1 g2;obtain⟨b,oo,g1,g3⟩:=g1;refine⟨.pointer (some ⟨b,oo+off+a.toNat*af P q.2,none⟩),?_,by unfold aW aX;grind⟩;unfold execOp;rw[ho];simp only[g1,g2,cp,Jo (OZ he) he2 h0 h1,ct,db]
 grind
def yJ(x:AV)(i:Nat)(K:AV->Prop):Prop:=match x with
 | .tup l=>∃y,l[i]? =some y/\K y
 | .p (.tup l)=>∃y,l[i]? =some y/\K (.p y)
 |_=>False
def Ya{x:Operand}{i:Nat}(ho:o.op= .extract x i){K:AV->Prop}(h:yJ (E x) i K):∃r,bR P o E σ n r [] []/\K r:=by
 have hx:x∈o.op.operands.toList:=by rw[ho];simp[ce]
 unfold yJ at h;split at h
 .rename_i l e;obtain⟨y,hy,h⟩:=h;refine⟨_,bR.val ?_,h⟩;intro ρ C V w hE;have h1:=hE x hx;rw[e]at h1;obtain⟨vs,h1,h2⟩:=h1;obtain⟨v,h3,h4⟩:=h2.get _ _ i y hy;refine⟨v,?_,h4⟩;unfold execOp;rw[ho];simp[h1,Instr.extract,h3]
 .rename_i l e;obtain⟨y,hy,h⟩:=h;refine⟨_,bR.val ?_,h⟩;intro ρ C V w hE;have h1:=hE x hx;rw[e]at h1;obtain⟨vs,h1,h2⟩:=h1;obtain⟨v,h3,h4⟩:=h2.get _ _ i y hy;refine⟨v,?_,by exact h4⟩;unfold execOp;rw[ho];simp[h1,Instr.extract,h3]
 grind
end
end
section
def de(l:List Oper)(j:Nat):Nat:=((l[j]?).bind (·.dst)).getD 1000000
def fk(anc:List (List Nat))(i:Nat):List Nat:=anc.getD i []
def lh(l:List Oper)(V:Nat->Value)(j:Nat):Value:=if de l j=1000000 then undef else V (de l j)
def O2(l:List Oper)(anc:List (List Nat))(i s:Nat):Bool:=(bQ l.length).all λj=>de l j !=s||(fk anc j).contains i||j==i
def okF(l:List Oper)(anc:List (List Nat)):Bool:=
 (bQ l.length).all λi=>
  (((l[i]?).map λo=>(o.after.toList.all λe=> !iD .any e||(decide (e.on<i)&&(fk anc i).contains e.on))&&o.guard.isNone&&o.dst !=some 1000000).getD false)&&
  ((fk anc i).all λj=>decide (j<i)&&(((l[i]?).map λo=>o.after.toList.any λe=>iD .any e&&(e.on==j||(fk anc e.on).contains j)).getD false))&&
  ((bQ l.length).all λj=>j==i||de l j !=de l i||de l i==1000000)
def Ak(S:Nat->Oper->Prop):List Oper->Nat->Prop
 |[],_=>True
 |o::r,k=>S k o/\Ak S r (k+1)
def Ix{S:Nat->Oper->Prop}:∀(l:List Oper) (k:Nat),Ak S l k->∀i o,l[i]? =some o->S (k+i) o
 |[],_,_,i,o,h=>by simp at h
 |o'::r,k,h,0,o,ho=>by simp at ho;subst ho;exact h.1
 |o'::r,k,h,i+1,o,ho=>by
  have:=Ix r (k+1) h.2 i o (by grind);grind
def gT(D:Nat->Bool)(i:Nat):Nat->Bool:=λj=>if j=i then true else D j
def Pc(P:Program)(l:List Oper)(anc:List (List Nat))(a0:Act)(WR:(Nat->Bool)->World->Prop)(fact:Nat->Value->World->Prop)(i:Nat)(o:Oper):Prop:=
 ∀(D:Nat->Bool) (V:Nat->Value) (w:World),D i=false->(∀j,(fk anc i).contains j=true->D j=true/\fact j (lh l V j) w)->(∀j,(fk anc j).contains i=true->D j=false)->
  (∀s,O2 l anc i s=true->V s=a0.tmps.getD s undef)->WR D w->
  cN P o V w λv w'=>fact i (if de l i=1000000 then undef else v) w'/\WR (gT D i) w'/\(w'=w\/Below w.heap.size w w'\/∀j,D j=true->fact j (lh l V j) w->fact j (lh l V j) w')
def opK{P:Program}{o:Oper}{V:Nat->Value}{w:World}{K:Value->World->Prop}(h:∀K':Value->World->Prop,(∀v w',K v w'->K' v w')->cN P o V w K'):cN P o V w K:=by grind
def Rd(w:World)(a:Option Addr)(cs:List Value):Prop:=∀i u,cs[i]? =some u->∃b off,a=some ⟨b,off,none⟩/\b<w.heap.size/\w.cell? ⟨b,off+i,none⟩=some u
def Rd.below{w w':World}{a:Option Addr}{cs:List Value}(h:Rd w a cs)(hb:Below w.heap.size w w'):Rd w' a cs:=by intro i u hi;obtain⟨b,off,ha,hlt,h1⟩:=h i u hi;exact⟨b,off,ha,Nat.lt_of_lt_of_le hlt hb.size,(hb.cell (p:=⟨b,_,none⟩) hlt).trans h1⟩
def jV(base:Nat)(a:Option Addr):Prop:=∀b,a=some b->base<=b.block
def jV.mono{m n:Nat}{a:Option Addr}(h:jV n a)(hm:m<=n):jV m a:=λb hb=>cF hm (h b hb)
def Rd.GU{w:World}{base:Nat}{e:TypeId}{size:Nat}{v:Value}{n:Nat}{cs:List Value}(h:w.ownsRow base e size v n cs):∃a c,v= .slice a n c/\Rd w a cs/\jV base a/\(a=none->c=0):=by
 rcases h.2 with⟨h1,h2⟩|⟨g,cap,cur,h1,h2,h3,h4,h5,h6,h7⟩
 .have:cs=[] :=ni.1 (by rw[h.1,h2];simp);exact⟨none,0,by rw[h1,h2],by rw[this];intro i u hi;simp at hi,(λb hb=>by cases hb),λ_=>rfl⟩
 .refine⟨some ⟨g,0,none⟩,cap,h1,?_,(λb hb=>by grind),(by grind)⟩;intro i u hi;refine⟨g,0,rfl,Blk.lt h3,?_⟩;rw[jy,cell_of_row w g i cur e (0,0) h3];grind
def th{w w':World}{base:Nat}{e:TypeId}{size:Nat}{v:Value}{n:Nat}{xs:List Value}(h:w.ownsRow base e size v n xs)(hb:Below w.heap.size w w'):w'.ownsRow base e size v n xs:=by
 refine⟨h.1,?_⟩;rcases h.2 with h1|⟨g,cap,cur,h1,h2,h3,h4⟩
 .exact .inl h1
 .exact .inr ⟨g,cap,cur,h1,h2,Blk.then_ h3 hb,h4⟩
def qU{w:World}{base:Nat}{e:TypeId}{size:Nat}{v:Value}{n:Nat}{xs:List Value}(h:w.ownsRow base e size v n xs):∀k,v.ownBlock=some k->base<=k/\k<w.heap.size:=by
 intro k hk;rcases h.2 with⟨rfl,_⟩|⟨g,cap,cur,rfl,h2,h3,_⟩
 .simp[Ci]at hk
 .simp[Ci]at hk;grind
def D8{P:Program}{o:Oper}{V:Nat->Value}{w:World}{K:Value->World->Prop}(s x:Operand)(t:TypeId)
  (ho:o.op= .call {callee:= .builtin .append,args:= #[s,x],argTypes:= #[t,t]})
  (base:Nat) (e:TypeId) (z:Value) (size bytes:Nat) (ht:P.underlying t=some (.slice e)) (hi:(P.info? e).map (λi=>(i.zero,i.size,i.bytes))=some (some z,size,bytes)) (hzs:z.cells.size=size) (hsz:0<size)
  (v:Value) (n:Nat) (xs:List Value) (hs:bK V s=v) (hown:w.ownsRow base e size v n xs)
  (a:Option Addr) (m c:Nat) (cs:List Value) (hx:bK V x= .slice a m c) (hl:cs.length=m*size) (hg:Rd w a cs) (hn:a=none->c=0) (h1:∀u∈cs,u.oneCell'=true)
  (h63:n+m<=1000000) (hbytes:bytes<=1000000) (hbase:base<=w.heap.size)
  (h:∀v' w',w'.ownsRow base e size v' (n+m) (xs++cs)->Below base w w'->w.grownBy w' v.ownBlock->(∀k,v'.ownBlock=some k->v.ownBlock=some k\/w.heap.size<=k)->K v' w'):cN P o V w K:=by
 obtain⟨i,hi1,hi2⟩:=l5.1 hi;simp only[Prod.mk.injEq]at hi2;obtain⟨i1,i2,i3⟩:=hi2;have hb:∀k,v.ownBlock=some k->base<=k:=λk hk=>(qU hown k hk).1;by_cases hm:m=0
 .subst hm;have hcs:cs=[] :=by grind
  subst hcs;by_cases ha:a=none
  .subst ha;have hc:=hn rfl;subst hc;have hr:=run_append_owned_none (P:=P) (w:=w) base t o.type e i size ht hi1 v n xs hown;unfold cN execOp;simp only[ho,resolve,invoke,builtin,cp,db,ct,IJ,dB,lC,hs,hx,hr];exact h v w (by grind) (Below.refl _ _) ⟨rfl,rfl,rfl,bI _,λ_ _ _=>rfl⟩ (by grind)
  .obtain⟨a',rfl⟩:=Option.ne_none_iff_exists'.1 ha;obtain⟨v',w',hr,h2,h3,_,h5⟩:=run_append_own_at (P:=P) (w:=w) base t o.type e i z size bytes ht hi1 i1 i2 i3 hzs hsz v n xs hown a' 0 c [] (by simp) (by simp) (by simp) (by simp only[maxLen];omega) (cF (tX h63 hbytes) (by decide)) hbase;unfold cN execOp;simp only[ho,resolve,invoke,builtin,cp,db,ct,IJ,dB,lC,hs,hx,hr];exact h v' w' h2 ((Below.refl base w).grown h3 hbase hb) h3 (by grind)
 .obtain⟨u0,hu0⟩:∃u,cs[0]? =some u:=by
   have:0<cs.length:=by rw[hl];exact Nat.mul_pos (by omega) hsz
   grind
  obtain⟨b,off,rfl,hbl,_⟩:=hg 0 u0 hu0;have hnews:∀j u,cs[j]? =some u->w.cell? ((⟨b,off,none⟩:Addr).add j)=some u:=by
   intro j u hj;obtain⟨b',off',he,_,hc⟩:=hg j u hj;simp only[fc,Addr.mk.injEq,and_true]at he;obtain⟨rfl,rfl⟩:=he;unfold Addr.add;by_cases hj0:j=0
   .grind
   .grind
  obtain⟨v',w',hr,h2,h3,_,h5⟩:=run_append_own_at (P:=P) (w:=w) base t o.type e i z size bytes ht hi1 i1 i2 i3 hzs hsz v n xs hown ⟨b,off,none⟩ m c cs hl hnews h1 (by simp only[maxLen];omega) (cF (tX h63 hbytes) (by decide)) hbase;unfold cN execOp;simp only[ho,resolve,invoke,builtin,cp,db,ct,IJ,dB,lC,hs,hx,hr];exact h v' w' h2 ((Below.refl base w).grown h3 hbase hb) h3 (by grind)
def Rd.aAH{w:World}{g:Nat}{t:TypeId}{cs:Array Value}(h:Blk w g t cs):Rd w (some ⟨g,0,none⟩) cs.toList:=by intro i u hi;refine⟨g,0,rfl,h.lt,?_⟩;rw[jy,h.cell i];grind
def WR2(m:Nat)(A B:World->Prop)(D:Nat->Bool)(wx:World):Prop:=if D m=true then B wx else A wx
section
variable {m i:Nat} {A B:World->Prop} {D:Nat->Bool} {wx:World}
def WR2.start(h:A wx):WR2 m A B (λ_=>false) wx:=h
def WR2.lo(h:WR2 m A B D wx)(hD:D m=false):A wx:=by unfold WR2 at h;grind
def WR2.hi(h:WR2 m A B D wx)(hD:D m=true):B wx:=by unfold WR2 at h;grind
def WR2.mkLo(hD:D m=false)(hi:m≠i)(h:A wx):WR2 m A B (gT D i) wx:=by unfold WR2 gT;grind
def WR2.mkHi(h:B wx):WR2 m A B (gT D m) wx:=by unfold WR2 gT;grind
def WR2.keep(hi:m≠i)(h:WR2 m A B D wx):WR2 m A B (gT D i) wx:=by unfold WR2 gT at*;grind
end
def WR3(m n:Nat)(A B C:World->Prop)(D:Nat->Bool)(wx:World):Prop:=if D n=true then C wx else if D m=true then B wx else A wx
section
variable {m n i:Nat} {A B C:World->Prop} {D:Nat->Bool} {wx:World}
def WR3.start(h:A wx):WR3 m n A B C (λ_=>false) wx:=h
def WR3.lo(h:WR3 m n A B C D wx)(hD:D m=false)(hn:D n=false):A wx:=by unfold WR3 at h;grind
def WR3.mid(h:WR3 m n A B C D wx)(hD:D m=true)(hn:D n=false):B wx:=by unfold WR3 at h;grind
def WR3.hi(h:WR3 m n A B C D wx)(hn:D n=true):C wx:=by unfold WR3 at h;grind
def WR3.mkLo(hD:D m=false)(hn:D n=false)(hi:m≠i)(hi2:n≠i)(h:A wx):WR3 m n A B C (gT D i) wx:=by unfold WR3 gT;grind
def WR3.mkMid(hn:D n=false)(hmn:n≠m)(h:B wx):WR3 m n A B C (gT D m) wx:=by unfold WR3 gT;grind
def WR3.mkHi(h:C wx):WR3 m n A B C (gT D n) wx:=by unfold WR3 gT;grind
def WR3.keep(hi:m≠i)(hi2:n≠i)(h:WR3 m n A B C D wx):WR3 m n A B C (gT D i) wx:=by unfold WR3 gT at*;grind
end
def wP{w w':World}{row:Option Nat}{g:Nat}{t:TypeId}{cs:Array Value}(h:w.grownBy w' row)(hb:Blk w g t cs)(hne:row≠some g):Blk w' g t cs:=(h.block g hb.lt (by grind)).trans hb
def AR{w:World}{base:Nat}{e:TypeId}{size:Nat}{v:Value}{n:Nat}{xs:List Value}(h:w.ownsRow base e size v n xs){g:Nat}(hg:g<base):v.ownBlock≠some g:=λhx=>by have:=(qU h g hx).1;omega
end
section
section
variable {P:Program} {o:Oper} {E:Operand->AV} {σ:Nat->Option Ob} {n:Nat}
def CL:AV->Option Int
 | .p (.int _ a)=>some a
 |_=>none
def ML{ρ:Ren}{C:bG}{x:AV}{a:Int}{v:Value}(h:CL x=some a)(hr:aW ρ C x v):∃k,v= .int k a:=by
 unfold CL at h;split at h
 .unfold aW aX at hr;grind
 .cases h
def loA(E:Operand->AV)(lo:Option Operand)(d:Int):Option Int:=match lo with|none=>some d|some x=>CL (E x)
def ug(P:Program)(t:TypeId)(x:AV)(lo hi:Option Int)(K:AV->Prop):Prop:=∃e l h,dD P t=some e/\(P.info? e).isSome=true/\af P e≠0/\lo=some l/\hi=some h/\0<=l/\l<=h/\match x with
 | .p (.sl m cs)=>h<=m/\K (.p (.sl (h.toNat-l.toNat) ((cs.take (h.toNat*af P e)).drop (l.toNat*af P e))))
 | .own s oo m=>h<=m/\K (.own s (oo+l.toNat*af P e) (h.toNat-l.toNat))
 |_=>False
def BV:AV->Int
 | .p (.sl m _)=>m
 | .own _ _ m=>m
 |_=>0
def D2{t e:TypeId}(ht:P.underlying t=some (.slice e))(he:(P.info? e).isSome=true)(a:Option Addr)(m c:Nat)(hmc:m<=c)(lo hi:Option Value)(l h:Int)(h0:0<=l)(h1:l<=h)(h2:h<=m)
  (hlo:(lo=none/\l=0)\/∃k,lo=some (.int k l)) (hhi:(hi=none/\h=m)\/∃k,hi=some (.int k h)) (w:World):
  (Instr.sliceAt t (.slice a m c) lo hi none).run P w= .ok (.slice (if c=l.toNat then a else a.map (·.add (l.toNat*af P e))) (h.toNat-l.toNat) (c-l.toNat)) w:=by
 obtain⟨i,hi'⟩:=pJ.1 he;have hsz:af P e=i.size:=by simp[af,hi']
 have hb:(Ck true m c lo hi none).run P w= .ok (l.toNat,h.toNat,c) w:=by
  rcases hlo with⟨rfl,rfl⟩|⟨k,rfl⟩<;>rcases hhi with⟨rfl,rfl⟩|⟨k',rfl⟩
  .simp[Ck]
  .simp[Ck,Instr.sliceBound,asIntOf,show 0<=h by omega,show h<=(c:Int) by omega]
  .simp[Ck,Instr.sliceBound,asIntOf,h0,h1]
  .simp[Ck,Instr.sliceBound,asIntOf,h0,show 0<=h by omega,show h<=(c:Int) by omega,show l<=max h 0 by omega]
 simp only[Instr.sliceAt,cp,run_underlying ht,ct,Instr.slice,hb,sizeOf,typeInfo,run_program,hi',db,hsz]
def Vo{t:TypeId}{x:Operand}{lo hi:Option Operand}(ho:o.op= .slice t x lo hi none){K:AV->Prop}(h:ug P t (E x) (loA E lo 0) (loA E hi (BV (E x))) K):∃r,bR P o E σ n r [] []/\K r:=by
 have hx:x∈o.op.operands.toList:=by rw[ho];simp[ce]
 have hl:∀y,lo=some y->y∈o.op.operands.toList:=by intro y hy;rw[ho];simp[ce,hy]
 have hh:∀y,hi=some y->y∈o.op.operands.toList:=by intro y hy;rw[ho];simp[ce,hy]
 obtain⟨e,l,hv,he,he2,hez,hlo,hhi,h0,h1,h⟩:=h;have klo:∀(ρ:Ren) (C:bG) (V:Nat->Value),(∀x∈o.op.operands.toList,aW ρ C (E x) (bK V x))->(lo.map (bK V)=none/\l=0)\/∃k,lo.map (bK V)=some (.int k l):=by
  intro ρ C V hE;unfold loA at hlo;cases lo with
  |none=>grind
  |some y=>obtain⟨k,hk⟩:=ML hlo (hE y (hl y rfl));grind
 have khi:∀(m:Nat),BV (E x)=m->∀(ρ:Ren) (C:bG) (V:Nat->Value),(∀x∈o.op.operands.toList,aW ρ C (E x) (bK V x))->(hi.map (bK V)=none/\hv=m)\/∃k,hi.map (bK V)=some (.int k hv):=by
  intro m hm ρ C V hE;unfold loA at hhi;cases hi with
  |none=>grind
  |some y=>obtain⟨k,hk⟩:=ML hhi (hE y (hh y rfl));grind
 split at h
 .rename_i m cs ex;obtain⟨h2,hK⟩:=h;refine⟨_,bR.val ?_,hK⟩;intro ρ C V w hE;have g1:=hE x hx;rw[ex]at g1;obtain⟨a,c,g1,g2,g3,g4⟩:=g1;have hrun:=D2 (lO he) he2 a m c g2 _ _ l hv h0 h1 h2 (klo ρ C V hE) (khi m (by rw[ex];rfl) ρ C V hE) w;refine⟨.slice (if c=l.toNat then a else a.map (·.add (l.toNat*af P e))) (hv.toNat-l.toNat) (c-l.toNat),?_,?_⟩
  .unfold execOp;simp_all
  .refine⟨_,_,rfl,by omega,?_,?_⟩
   .intro hn;have:a=none:=by
     split at hn
     .exact hn
     .simp_all
    grind
   .intro ad had;split at had
    .subst had;refine⟨by grind,?_⟩;have:((cs.take (hv.toNat*af P e)).drop (l.toNat*af P e))=[] :=by
      apply List.drop_eq_nil_of_le;rw[l6];have:hv.toNat=l.toNat:=by omega
      rw[this];omega
     rw[this];trivial
    .cases a with
     |none=>simp at had
     |some ad'=>
      simp at had;subst had;obtain⟨g5,g6⟩:=g4 ad' rfl;rcases qN m with hm0|hm0
      .have e0:hv.toNat=0:=by omega
       rw[e0];simp;trivial
      .have g5:=g5 hm0;obtain⟨b,off,sp⟩:=ad';subst g5;rw[vj];exact⟨λ_=>rfl,(g6.take _).drop _⟩
 .rename_i s oo m ex;obtain⟨h2,hK⟩:=h;refine⟨_,bR.val ?_,hK⟩;intro ρ C V w hE;have g1:=hE x hx;rw[ex]at g1;obtain⟨q,c,g1,⟨rfl,g2,g3,g4⟩|⟨b,o',c',rfl,g2,g3,g4,g5⟩⟩:=g1
  .have hrun:=D2 (lO he) he2 none m 0 (by omega) _ _ l hv h0 h1 h2 (klo ρ C V hE) (khi m (by rw[ex];rfl) ρ C V hE) w;have e1:l=0:=by omega
   have e2:hv=0:=by omega
   refine⟨.slice none 0 0,?_,?_⟩
   .unfold execOp;simp_all
   grind
  .have hrun:=D2 (lO he) he2 (some ⟨b,o',none⟩) m c' g3 _ _ l hv h0 h1 h2 (klo ρ C V hE) (khi m (by rw[ex];rfl) ρ C V hE) w;refine⟨.slice (if c'=l.toNat then some ⟨b,o',none⟩else(some (⟨b,o',none⟩:Addr)).map (·.add (l.toNat*af P e))) (hv.toNat-l.toNat) (c'-l.toNat),?_,?_⟩
   .unfold execOp;simp_all
   .refine⟨some b,c,g1,.inr ⟨b,if c'=l.toNat then o' else o'+l.toNat*af P e,c'-l.toNat,rfl,?_,by omega,?_,?_⟩⟩
    .split<;>simp[vj]
    .grind
    .intro hz;have h3:oo=0:=by omega
     have h4:l.toNat*af P e=0:=by omega
     rcases IK.1 h4 with h5|h5
     .grind
     omega
 grind
def CK(P:Program)(t:TypeId)(x:AV)(K:AV->Prop):Prop:=match x with
 | .p (.sl m _)=>(dD P t).isSome=true/\K (.p (.int .i64 m))
 | .own _ _ m=>(dD P t).isSome=true/\K (.p (.int .i64 m))
 | .nil=>(dD P t).isSome=true/\K (.p (.int .i64 0))
 | .p (.str s)=>(match P.underlying t with|some .string=>true|_=>false)=true/\K (.p (.int .i64 s.size))
 |_=>False
def Zn{x:Operand}{t:TypeId}(ho:o.op= .call {callee:= .builtin .len,args:= #[x],argTypes:= #[t]}){K:AV->Prop}(h:CK P t (E x) K):∃r,bR P o E σ n r [] []/\K r:=by
 have hx:x∈o.op.operands.toList:=by rw[ho];simp[ce,jY]
 have key:∀(m:Nat),(dD P t).isSome=true->(∀ρ C v,aW ρ C (E x) v->∃a c,v= .slice a m c)->bR P o E σ n (.p (.int .i64 m)) [] [] :=by intro m ht hv;obtain⟨e,he⟩:=pJ.1 ht;have hu:=lO he;refine bR.val ?_;intro ρ C V w hE;obtain⟨a,c,h1⟩:=hv ρ C _ (hE x hx);refine⟨.int .i64 m,?_,by rfl⟩;unfold execOp;rw[ho];simp[resolve,invoke,builtin,Builtin.len_,h1,run_underlying hu,goInt]
 unfold CK at h;split at h
 .rename_i m cs e;refine⟨_,key m h.1 λρ C v hv=> ?_,h.2⟩;unfold aW aX at hv;grind
 .rename_i s oo m e;refine⟨_,key m h.1 λρ C v hv=> ?_,h.2⟩;unfold aW at hv;grind
 .rename_i e;refine⟨_,key 0 h.1 λρ C v hv=> ?_,h.2⟩;unfold aW at hv;grind
 .rename_i s e;obtain⟨ht,hK⟩:=h;refine⟨_,bR.val ?_,hK⟩;intro ρ C V w hE;have h1:=hE x hx;rw[e]at h1;unfold aW aX at h1;have hu:P.underlying t=some .string:=by
   split at ht
   .assumption
   .cases ht
  refine⟨.int .i64 s.size,?_,by rfl⟩;unfold execOp;rw[ho];simp[resolve,invoke,builtin,Builtin.len_,h1,run_underlying hu,goInt]
 grind
def lg:AV->Option (List AV)
 | .agg l=>some l
 | .p (.agg l)=>some (l.map .p)
 | .p (.tup _)=>none
 | .p .junk=>none
 | .p x=>some [.p x]
 | .mp s=>some [.mp s]
 | .nil=>some [.nil]
 | .ptr s off=>some [.ptr s off]
 | .own s o n=>some [.own s o n]
 | .fn f a b=>some [.fn f a b]
 |_=>none
def Dm{ρ:Ren}{C:bG}{x:AV}{l:List AV}{v:Value}(h:lg x=some l)(hr:aW ρ C x v):bB ρ C l v.cells.toList/\gi v.cells.toList:=by
 have key:∀(y:AV),l=[y]->aW ρ C y v->v.oneCell'=true->bB ρ C l v.cells.toList/\gi v.cells.toList:=by
  intro y hl hy h1;have hc:v.cells.toList=[v] :=by cases v<;>first|rfl|(simp[Value.oneCell']at h1;done)
  rw[hc,hl];refine⟨?_,λu hu=>by grind⟩;unfold bB;exact⟨v,[],rfl,hy,by rfl⟩
 unfold lg at h;split at h
 .cases h;obtain⟨vs,rfl,h1,h2⟩:=hr;exact⟨by simpa[IL]using h1,by simpa[IL]using h2⟩
 .cases h;obtain⟨vs,rfl,h1,h2⟩:=hr;exact⟨by simpa[IL]using h1.toA,by simpa[IL]using h2⟩
 .cases h
 .cases h
 .rename_i y hn1 hn2 hn3;cases h;refine key _ rfl hr ?_;unfold aW at hr;cases y<;>unfold aX at hr
  .rw[hr];rfl
  .rw[hr];rfl
  .rw[hr];rfl
  .grind
  .grind
  .obtain⟨a,c,h1,_⟩:=hr;rw[h1];rfl
  .obtain⟨a,c,h1,_⟩:=hr;rw[h1];rfl
  .obtain⟨a,c,h1,_⟩:=hr;rw[h1];rfl
  grind
 .cases h;refine key _ rfl hr ?_;obtain⟨c,_,h2⟩:=hr;rw[h2];rfl
 .cases h;refine key _ rfl hr ?_;rw[hr];rfl
 .cases h;refine key _ rfl hr ?_;obtain⟨b,c,_,h2⟩:=hr;rw[h2];rfl
 .cases h;refine key _ rfl hr ?_;obtain⟨q,c,_,⟨_,h2,_⟩|⟨b,o',c',_,h2,_⟩⟩:=hr<;>(rw[h2];rfl)
 .cases h;refine key _ rfl hr ?_;obtain⟨a,b,h2,_⟩:=hr;rw[h2];rfl
 .cases h
def gZ(cs:List AV)(off:Nat):List AV->List AV
 |[] =>cs
 |x::l=>gZ (cs.set off x) (off+1) l
def zI:∀(l:List AV) (cs:List AV) (off:Nat),(gZ cs off l).length=cs.length
 |[],cs,off=>rfl
 |x::l,cs,off=>by unfold gZ;rw[zI l];simp
def nL(place:Nat->Option (Nat×Nat))(cells:List AV):List (Nat×AV)->Option (List AV)
 |[] =>some cells
 |(i,v)::rest=>match place i,lg v with
  |some (off,size),some l=>if l.length=size/\off+size<=cells.length then nL place (gZ cells off l) rest else none
  |_,_=>none
def bB.set{ρ:Ren}{C:bG}{l:List AV}{vs:List Value}(h:bB ρ C l vs)(k:Nat){x:AV}{v:Value}(hx:aW ρ C x v):bB ρ C (l.set k x) (vs.set k v):=
 bB.of _ _ (by simp[h.length]) λi y hi=>by
  have hl:=h.length;rw[yl]at hi|-;split at hi
  .grind
  .rename_i e;rw[if_neg e];exact h.get _ _ i y hi
def LZ{ρ:Ren}{C:bG}:∀(l:List AV) (vs:List Value) (cs:List AV) (us:List Value) (off:Nat) (j:Nat),bB ρ C l vs->bB ρ C cs us->gi vs->gi us->
  bB ρ C (gZ cs (off+j) l) ((vs.zipIdx j).foldl (λ(a:Array Value) (c,j)=>a.setIfInBounds (off+j) c) us.toArray).toList/\gi ((vs.zipIdx j).foldl (λ(a:Array Value) (c,j)=>a.setIfInBounds (off+j) c) us.toArray).toList
 |[],vs,cs,us,off,j,h1,h2,h3,h4=>by subst h1;simpa[gZ]using⟨h2,h4⟩
 |x::l,vs,cs,us,off,j,h1,h2,h3,h4=>by
  obtain⟨v,r,rfl,hv,hr⟩:=h1;have:=LZ l r (cs.set (off+j) x) (us.set (off+j) v) off (j+1) hr (h2.set _ hv) (λu hu=>h3 u (by grind)) (λu hu=>by
   rcases List.mem_or_eq_of_mem_set hu with h|h
   .exact h4 u h
   .subst h;exact h3 _ (by grind))
  simpa[gZ,List.zipIdx_cons,Nat.add_assoc]using this
def ER{ρ:Ren}{C:bG}{place:Nat->Option (Nat×Nat)}:∀(parts:List (Nat×AV)) (vparts:List (Nat×Value)) (cs res:List AV) (us:List Value),
  nL place cs parts=some res->vparts.length=parts.length->(∀(j:Nat) q,parts[j]? =some q->∃v,vparts[j]? =some (q.1,v)/\aW ρ C q.2 v)->bB ρ C cs us->gi us->
  ∃vs:List Value,Instr.fill place us.toArray vparts=some vs.toArray/\bB ρ C res vs/\gi vs
 |[],vparts,cs,res,us,h,hl,hp,hc,h1=>by
  simp[nL]at h;subst h;have:vparts=[] :=by grind
  subst this;exact⟨us,rfl,hc,h1⟩
 |(i,x)::rest,vparts,cs,res,us,h,hl,hp,hc,h1=>by
  obtain⟨v,hv0,hv⟩:=hp 0 (i,x) rfl;cases vparts with
  |nil=>simp at hl
  |cons q vparts=>
   simp at hv0;subst hv0;unfold nL at h;split at h
   .rename_i off size l hpl hcl;split at h
    .obtain⟨c1,c2⟩:=Dm hcl hv;have hlen:=c1.length;have hcs:=hc.length;obtain⟨s1,s2⟩:=LZ l v.cells.toList cs us off 0 c1 hc c2 h1;obtain⟨vs,f1,f2,f3⟩:=ER rest vparts _ res _ h (by grind) (λj q hj=>hp (j+1) q (by grind)) s1 s2;refine⟨vs,?_,f2,f3⟩;unfold Instr.fill;rw[hpl];dsimp only;simp only[ym]at hlen;have e1:¬(v.cells.size≠size||decide (off+v.cells.size>us.toArray.size))=true:=by simp;omega
     rw[if_neg e1];rw[<-f1];have e2:∀(a:Array Value),a.zipIdx.foldl (λ(cs:Array Value) (x:Value×Nat)=>match x with|(c,j)=>cs.setIfInBounds (off+j) c) us.toArray=(a.toList.zipIdx 0).foldl (λ(cs:Array Value) (x:Value×Nat)=>match x with|(c,j)=>cs.setIfInBounds (off+j) c) us.toArray:=by intro a;rw[<-Array.foldl_toList,Array.toList_zipIdx]
     rw[e2]
    .cases h
   .cases h
def GT(P:Program)(t:TypeId):Nat->Option (Nat×Nat):=match P.underlying t with
 |some (.struct fs)=>λi=>(fs[i]?).map λf=>(f.offset,af P f.type)
 |some (.array _ e)=>λi=>some (i*af P e,af P e)
 |_=>λ_=>none
def Fl(P:Program)(t:TypeId):Bool:=match P.underlying t with
 |some (.struct fs)=>fs.toList.all λf=>(P.info? f.type).isSome
 |some (.array _ e)=>(P.info? e).isSome
 |_=>false
def mmA(f:Int->Int->Int)(x y:AV)(K:AV->Prop):Prop:=match x,y with
 | .p (.int .i64 a),.p (.int .i64 b)=>K (.p (.int .i64 (f a b)))
 |_,_=>False
def Pk{P:Program}(ts:Array TypeId)(t:TypeId)(x y:Int)(w:World):(Builtin.min_ ts t #[.int .i64 x,.int .i64 y]).run P w= .ok (.int .i64 (min x y)) w/\(Builtin.max_ ts t #[.int .i64 x,.int .i64 y]).run P w= .ok (.int .i64 (max x y)) w:=by have h:= @run_min_int2 P w ts t .i64 .i64 x y;have h2:= @run_max_int2 P w ts t .i64 .i64 x y;grind
def Zh{x y:Operand}{ts:Array TypeId}(ho:o.op= .call {callee:= .builtin .min,args:= #[x,y],argTypes:=ts}){K:AV->Prop}(h:mmA min (E x) (E y) K):∃r,bR P o E σ n r [] []/\K r:=by
 unfold mmA at h;split at h
 .rename_i a b ea eb;refine⟨_,bR.val ?_,h⟩;intro ρ C V w hE;have h1:=hE x (by rw[ho];simp[ce,jY]);have h2:=hE y (by rw[ho];simp[ce,jY]);rw[ea]at h1;rw[eb]at h2;unfold aW aX at h1 h2;refine⟨.int .i64 (min a b),?_,by rfl⟩;unfold execOp;rw[ho];simp[resolve,invoke,builtin,h1,h2,(Pk _ _ _ _ _).1]
 grind
def Zj{x y:Operand}{ts:Array TypeId}(ho:o.op= .call {callee:= .builtin .max,args:= #[x,y],argTypes:=ts}){K:AV->Prop}(h:mmA max (E x) (E y) K):∃r,bR P o E σ n r [] []/\K r:=by
 unfold mmA at h;split at h
 .rename_i a b ea eb;refine⟨_,bR.val ?_,h⟩;intro ρ C V w hE;have h1:=hE x (by rw[ho];simp[ce,jY]);have h2:=hE y (by rw[ho];simp[ce,jY]);rw[ea]at h1;rw[eb]at h2;unfold aW aX at h1 h2;refine⟨.int .i64 (max a b),?_,by rfl⟩;unfold execOp;rw[ho];simp[resolve,invoke,builtin,h1,h2,(Pk _ _ _ _ _).2]
 grind
end
end
section
section
variable {P:Program} {o:Oper} {E:Operand->AV} {σ:Nat->Option Ob} {n:Nat}
def PH(P:Program)(t:TypeId)(parts:List (Nat×AV))(K:AV->Prop):Prop:=∃z,pu P t=some z/\pq P t=true/\Fl P t=true/\∃l,nL (GT P t) z parts=some l/\K (eR l)
def Ka:∀(fs:List Field),fs.all (λf=>(P.info? f.type).isSome)=true->fs.mapM (λf=>(P.info? f.type).map λi=>(f.offset,i.size))=some (fs.map λf=>(f.offset,af P f.type))
 |[],_=>rfl
 |f::fs,h=>by
  simp only[List.all_cons,bw]at h;obtain⟨i,hi⟩:=pJ.1 h.1;simp[List.mapM_cons,hi,Ka fs h.2,af]
def wZ{t:TypeId}{z:List AV}(h:pu P t=some z)(h1:pq P t=true):∃i zv,P.info? t=some i/\i.zero=some zv/\zv.cells.size=i.size/\gi zv.cells.toList/\z=zv.cells.toList.map kT:=by unfold pu at h;simp only[qQ,l5]at h;obtain⟨i,hi,zv,hz,rfl⟩:=h;unfold pq at h1;simp only[hi,qP,hz,eO,lH,bw,beq_iff_eq,bk]at h1;exact⟨i,zv,hi,hz,h1.2,h1.1,rfl⟩
def W5{t:TypeId}{parts:Array (Nat×Operand)}(ho:o.op= .build t parts){K:AV->Prop}(h:PH P t (parts.toList.map λq=>(q.1,E q.2)) K):∃r,bR P o E σ n r [] []/\K r:=by
 obtain⟨z,hz,hz1,hpo,l,hl,hK⟩:=h;refine⟨_,bR.val ?_,hK⟩;intro ρ C V w hE;obtain⟨i,zv,hi,hiz,hsz,hone,rfl⟩:=wZ hz hz1;have hp:∀(j:Nat) q,(parts.toList.map λq=>(q.1,E q.2))[j]? =some q->∃v,(parts.toList.map λq=>(q.1,bK V q.2))[j]? =some (q.1,v)/\aW ρ C q.2 v:=by
  intro j q hj;rw[gW]at hj|-;cases hq:parts.toList[j]? with
  |none=>grind
  |some q'=>
   rw[hq]at hj;simp only[eO,fc]at hj;subst hj;refine⟨bK V q'.2,rfl,hE q'.2 ?_⟩;simp only[ce];grind
 obtain⟨vs,f1,f2,f3⟩:=ER _ (parts.toList.map λq=>(q.1,bK V q.2)) _ l zv.cells.toList hl (by simp) hp (tn _) hone;have hb:P.built t (parts.map λq=>(q.1,bK V q.2)).toList=some vs.toArray:=by
  unfold Program.built;rw[hi];unfold Fl at hpo;unfold GT at f1;cases hu:P.underlying t with
  |none=>grind
  |some d=>
   rw[hu]at hpo f1;cases d<;>first|(cases hpo;done)|skip
   case struct fs=>
    dsimp only at hpo f1|-;rw[hiz,Ka _ hpo];simp_all
   case array m e=>
    dsimp only at hpo f1|-;obtain⟨ie,hie⟩:=pJ.1 hpo;rw[hiz,hie];rw[<-f1];simp[af,hie]
 refine⟨.agg vs.toArray,?_,z6 f2 f3⟩;unfold execOp;rw[ho];simp only[cp,run_build w t _ _ hb,ct,db]
def xd.mono{C0:bG}{B:Nat}{ρ ρ':Ren}{C C':bG}{w w':World}{c:Nat}{o:Ob}(h:xd C0 B ρ C w c o)(hext:∀s q,ρ s=some q->ρ' s=some q)(hC:∀b o x,C b o x->C' b o x)
  (hm:∀es clock,o.ty=1->w.heap[c]? =some (vm es clock)->w'.heap[c]? =w.heap[c]?):xd C0 B ρ' C' w' c o:=by
 rcases h with⟨h0,h1,h2⟩|⟨h0,hB,es,clock,h1,h2⟩
 .exact .inl ⟨h0,λi x hi v hv=>aW.mono hext hC x v (h1 i x hi v hv),h2⟩
 .exact .inr ⟨h0,hB,es,clock,by grind,bB.mono hext hC _ _ h2⟩
def StR.stepG{C0:bG}{ρ ρ':Ren}{g:Nat->Option Ob}{w w':World}{B:Nat}{W:List (Nat×Option Ob)}(hs:StR C0 ρ g w B)
  (hρ:∀s o,W.lookup s=none->g s=some o->ρ' s=ρ s) (hext:∀s q,ρ s=some q->ρ' s=some q)
  (hmono:∀b o x,bF C0 B w ρ g b o x->bF C0 B w' ρ' (bC g W) b o x)
  (hold:∀s o b c,W.lookup s=none->g s=some o->ρ s=some (some b,c)->w'.heap[b]? =w.heap[b]?)
  (hmap:∀(s:Nat) (o:Ob) (c:Nat) es clock,W.lookup s=none->g s=some o->o.esz=0->o.ty=1->ρ s=some (none,c)->w.heap[c]? =some (vm es clock)->w'.heap[c]? =w.heap[c]?)
  (hnew:∀s o,W.lookup s=some (some o)->∃q c,ρ' s=some (q,c)/\((q=none/\o.esz≠0/\o.cells=[]/\c=0)\/(q=none/\o.esz=0/\xd C0 B ρ' (bF C0 B w' ρ' (bC g W)) w' c o/\
     (∀s' o' c',s'≠s->bC g W s'=some o'->o'.esz=0->ρ' s'=some (none,c')->¬rP o c o' c'))\/∃b arr,q=some b/\B<=b/\ObRep ρ' (bF C0 B w' ρ' (bC g W)) w' b c o arr/\
    ∀s' o' c',s'≠s->bC g W s'=some o'->ρ' s'≠some (some b,c'))):StR C0 ρ' (bC g W) w' B:=by
 refine⟨?_,?_,?_⟩
 .intro s ob hob;unfold bC at hob;split at hob
  .grind
  .rename_i hx;obtain⟨q,c,h1,⟨h2,h3|⟨h3,h4⟩⟩|⟨b,arr,h2,h3,h4⟩⟩:=hs.ob s ob hob
   .grind
   .refine⟨q,c,by grind,.inl ⟨h2,.inr ⟨h3,h4.mono hext hmono ?_⟩⟩⟩;grind
   .refine⟨q,c,by grind,.inr ⟨b,arr,h2,h3,?_,h4.box,h4.row,?_⟩⟩
    .subst h2;rw[hold s ob b c hx hob h1];exact h4.blk
    .intro i x hi;obtain⟨v,g1,g2,g3⟩:=h4.cells i x hi;exact⟨v,g1,g2,aW.mono hext hmono x v g3⟩
 .intro s s' ob ob' b c c' h1 h2 h3 h4;by_cases hss:s=s'
  .exact hss
  have k1:=h1;have k2:=h2;unfold bC at h1 h2;split at h1
  .grind
  .rename_i hx;split at h2
   .grind
   .rename_i hx2;exact hs.inj s s' ob ob' b c c' h1 h2 (by grind) (by grind)
 .intro s s' ob ob' c c' h1 h2 m1 m2 h3 h4 hT;by_cases hss:s=s'
  .exact hss
  have k1:=h1;have k2:=h2;unfold bC at h1 h2;split at h1
  .grind
  .rename_i hx;split at h2
   .rename_i x hx2;subst h2;obtain⟨q,c2,e1,⟨_,e2,_⟩|⟨e2,_,_,e5⟩|⟨b2,arr,e2,_,_,_⟩⟩:=hnew s' ob' hx2
    .omega
    .rw[h4]at e1;cases e1;exact absurd hT.symm (by grind)
    grind
   .rename_i hx2;exact hs.mpi s s' ob ob' c c' h1 h2 m1 m2 (by grind) (by grind) hT
def StR.step{C0:bG}{ρ ρ':Ren}{g:Nat->Option Ob}{w w':World}{B:Nat}{W:List (Nat×Option Ob)}(hs:StR C0 ρ g w B)
  (hρ:∀s o,W.lookup s=none->g s=some o->ρ' s=ρ s) (hext:∀s q,ρ s=some q->ρ' s=some q)
  (hmono:∀b o x,bF C0 B w ρ g b o x->bF C0 B w' ρ' (bC g W) b o x)
  (hold:∀s o b c,W.lookup s=none->g s=some o->ρ s=some (some b,c)->w'.heap[b]? =w.heap[b]?)
  (hnew:∀s o,W.lookup s=some (some o)->∃q c,ρ' s=some (q,c)/\((q=none/\o.esz≠0/\o.cells=[]/\c=0)\/∃b arr,q=some b/\B<=b/\ObRep ρ' (bF C0 B w' ρ' (bC g W)) w' b c o arr/\
    ∀s' o' c',s'≠s->bC g W s'=some o'->ρ' s'≠some (some b,c')))
  (hmap:∀(c:Nat) es clock,w.heap[c]? =some (vm es clock)->w'.heap[c]? =w.heap[c]?):StR C0 ρ' (bC g W) w' B:=
 hs.stepG hρ hext hmono hold (by grind) (by grind)
def qz{w:World}{c:Nat}{es:Array MapEntry}{clock:Nat}(h:w.heap[c]? =some (vm es clock)):c<w.heap.size:=by grind
def uj{w:World}{b c:Nat}{es:Array MapEntry}{clock:Nat}{arr:Array Value}{t:TypeId}{q:Nat×Nat}(h:w.heap[c]? =some (vm es clock))(hb:w.heap[b]? =some (.cells arr t q)):c≠b:=by grind
def bR.alloc{r:AV}{ob:Ob}(h:∀(ρ:Ren) (C:bG) (V:Nat->Value) (w:World),(∀x∈o.op.operands.toList,aW ρ C (E x) (bK V x))->
  ∃v arr c,(execOp (bK V) o).run P w= .ok (.value v) (w.alloc (.cells arr ob.ty))/\(ob.esz=0->arr.size=ob.cells.length)/\(ob.esz≠0->arr.size=c*ob.esz/\ob.cells.length<=arr.size/\c<=maxLen)/\
   bB ρ C ob.cells (arr.toList.take ob.cells.length)/\gi arr.toList/\∀(ρ':Ren) (C':bG),ρ' (sit n 0)=some (some w.heap.size,c)->aW ρ' C' r v):bR P o E σ n r [] [(sit n 0,some ob)] :=by
 intro C0 ρ g V w B hs hB _ hn hgn hE;have hcl:∀s,cls s≠n->s≠sit n 0:=λs h e=>h (by rw[e];exact iH n 0);generalize sit n 0=m at*;obtain⟨v,arr,c,hrun,h1,h2,h3,h4,h5⟩:=h ρ _ V w hE;unfold cN;rw[hrun];have hblk:(w.alloc (.cells arr ob.ty)).heap[w.heap.size]? =some (.cells arr ob.ty (0,0)):=heap_alloc_new w _
 let ρ':Ren:=λs=>if s=m then some (some w.heap.size,c)else ρ s
 have hext:∀s q,ρ s=some q->ρ' s=some q:=by intro s q hq;show(if s=m then _ else _)=_;rw[if_neg (by grind)];exact hq
 have hlt:∀s ob b c,g s=some ob->ρ s=some (some b,c)->b<w.heap.size:=by intro s ob b c e1 e2;obtain⟨_,arr,e3⟩:=hs.at e1 e2;exact e3.lt
 have hold:∀b,b<w.heap.size->(w.alloc (.cells arr ob.ty)).heap[b]? =w.heap[b]? :=λb hb=>Below.heap_alloc w _ b hb;have hlk:∀s,s≠m->[(m,some ob)].lookup s=none:=by intro s hs;simp[iE,beq_eq_false_iff_ne.2 hs]
 have hup:∀s,s≠m->bC g [(m,some ob)] s=g s:=by intro s hs;unfold bC;rw[hlk s hs]
 have hmono:∀b o' x,bF C0 B w ρ g b o' x->bF C0 B (w.alloc (.cells arr ob.ty)) ρ' (bC g [(m,some ob)]) b o' x:=by
  intro b o' x ⟨e1,e2,e0⟩;have hb:b<w.heap.size:=jz w ⟨b,o',none⟩ e1;refine⟨(jI (hold b hb)).trans e1,?_,e0⟩;intro s c' e3;by_cases e:s=m
  .grind
  .grind
 refine⟨ρ',by grind,hmono,?_,by grind,(Below.refl B w).alloc hB _⟩;refine hs.step ?_ hext hmono ?_ ?_ (by grind)
 .grind
 .grind
 .intro s ob' e;have e1:s=m:=by
   rcases pO s m with h|h
   .grind
   .exact h
  subst e1;have e2:ob'=ob:=by simp[iE]at e;exact e.symm
  subst e2;refine⟨some w.heap.size,c,by simp[ρ'],.inr ⟨w.heap.size,arr,rfl,hB,⟨hblk,h1,h2,?_⟩,?_⟩⟩
  .intro i x hi;obtain⟨u,g1,g2⟩:=h3.get _ _ i x hi;rw[pD]at g1;split at g1
   .refine⟨u,by grind,h4 u (by grind),aW.mono hext hmono x u g2⟩
   .cases g1
  grind
def PO(P:Program)(n:Nat)(t:TypeId)(K:Res):Prop:=∃z,pu P t=some z/\pq P t=true/\K (.ptr (sit n 0) 0) [] [(sit n 0,some ⟨t,0,z⟩)]
def XC{t:TypeId}(ho:o.op= .alloc t){K:Res}(h:PO P n t K):∃r R W,bR P o E σ n r R W/\K r R W:=by
 obtain⟨z,hz,hz1,hK⟩:=h;refine⟨_,_,_,bR.alloc ?_,hK⟩;intro ρ C V w hE;obtain⟨i,zv,hi,hiz,hsz,hone,rfl⟩:=wZ hz hz1;refine⟨.pointer (some ⟨w.heap.size,0,none⟩),zv.cells,0,?_,λ_=>by simp,by grind,?_,hone,λρ' C' h=> ?_⟩
 .unfold execOp;rw[ho];simp[Instr.alloc,zeroValue,typeInfo,hi,hiz,newVar,newRow]
 .rw[fT (by simp)];exact tn _
 .unfold aW;grind
def SB(n:Nat)(t:TypeId)(x:AV)(K:Res):Prop:=∃l,lg x=some l/\K (.ptr (sit n 0) 0) [] [(sit n 0,some ⟨t,0,l⟩)]
def aAg{t:TypeId}{x:Operand}(ho:o.op= .box t x){K:Res}(h:SB n t (E x) K):∃r R W,bR P o E σ n r R W/\K r R W:=by
 obtain⟨l,hl,hK⟩:=h;refine⟨_,_,_,bR.alloc ?_,hK⟩;intro ρ C V w hE;obtain⟨h1,h2⟩:=Dm hl (hE x (by rw[ho];simp[ce]));have h3:=h1.length;refine⟨.pointer (some ⟨w.heap.size,0,none⟩),(bK V x).cells,0,?_,λ_=>by omega,by grind,?_,h2,λρ' C' h=> ?_⟩
 .unfold execOp;rw[ho];simp[Instr.box,newVar,newRow]
 .grind
 .unfold aW;grind
def mU:Nat->List AV->List AV
 |0,_=>[]
 |m+1,z=>z++mU m z
def OS(P:Program)(n:Nat)(t:TypeId)(len:Nat)(parts:List (Nat×AV))(K:Res):Prop:=∃e z,dD P t=some e/\pu P e=some z/\pq P e=true/\z≠[]/\len*af P e<=1000000/\
 ∃l,nL (λi=>some (i*af P e,af P e)) (mU len z) parts=some l/\K (.own (sit n 0) 0 len) [] [(sit n 0,some ⟨e,af P e,l⟩)]
def DJ(z:List AV):∀m,(mU m z).length=m*z.length
 |0=>by simp[mU]
 |m+1=>by simp[mU,DJ z m,yn];omega
def Lp(zv:Array Value)(_hz:0<zv.size)(m:Nat):((IM (m*zv.size)).map (λj=>zv[j % zv.size]!)).toList=(cS m zv.toList).flatten:=by
 apply List.ext_getElem?;induction m with
 |zero=>simp
 |succ m ih=>
  intro i;rw[vn,mc];by_cases hi:i<zv.size
  .rw[mb (by omega)];have h1:i<(m+1)*zv.size:=by rw[yn];omega
   simp[h1,dZ hi,hi]
  .rw[kZ (by simp;omega)];have e1:(i-zv.size) % zv.size=i % zv.size:=by
    conv=>rhs;rw[show i=(i-zv.size)+zv.size by omega,pB]
   grind
def D5{ρ:Ren}{C:bG}(zs:List Value):∀m,bB ρ C (mU m (zs.map kT)) (cS m zs).flatten
 |0=>by rfl
 |m+1=>by
  rw[vn,mc,mU];have ih:=D5 (ρ:=ρ) (C:=C) zs m;refine bB.of _ _ (by simp[ih.length]) λi x hi=> ?_;by_cases h:i<(zs.map kT).length
  .rw[mb h]at hi;rw[mb (by simpa using h)];exact(tn zs).get _ _ i x hi
  .rw[kZ (by omega)]at hi;have:=ih.get _ _ _ x hi;grind
def VX{t:TypeId}{len:Nat}{parts:Array (Nat×Operand)}(ho:o.op= .buildSlice t len parts){K:Res}(h:OS P n t len (parts.toList.map λq=>(q.1,E q.2)) K):∃r R W,bR P o E σ n r R W/\K r R W:=by
 obtain⟨e,z,he,hz,hz1,hne,hlen,l,hl,hK⟩:=h;refine⟨_,_,_,bR.alloc ?_,hK⟩;intro ρ C V w hE;obtain⟨i,zv,hi,hiz,hsz,hone,rfl⟩:=wZ hz hz1;have hsize:af P e=zv.cells.size:=by simp[af,hi,hsz]
 have hpos:0<zv.cells.size:=by
  rcases qN zv.cells.size with h|h
  .grind
  .exact h
 have hp:∀(j:Nat) q,(parts.toList.map λq=>(q.1,E q.2))[j]? =some q->∃v,(parts.toList.map λq=>(q.1,bK V q.2))[j]? =some (q.1,v)/\aW ρ C q.2 v:=by
  intro j q hj;rw[gW]at hj|-;cases hq:parts.toList[j]? with
  |none=>grind
  |some q'=>
   rw[hq]at hj;simp only[eO,fc]at hj;subst hj;refine⟨bK V q'.2,rfl,hE q'.2 ?_⟩;simp only[ce];grind
 have hones:gi (cS len zv.cells.toList).flatten:=by intro u hu;simp only[k9,SX]at hu;obtain⟨l',⟨_,rfl⟩,hu⟩:=hu;exact hone u hu
 obtain⟨vs,f1,f2,f3⟩:=ER _ (parts.toList.map λq=>(q.1,bK V q.2)) _ l _ hl (by simp) hp (D5 _ len) hones;have hl2:=f2.length;have hl3:l.length=len*af P e:=by
  have:∀(parts:List (Nat×AV)) (cs res:List AV),nL (λi=>some (i*af P e,af P e)) cs parts=some res->res.length=cs.length:=by
   intro parts;induction parts with
   |nil=>intro cs res h;simp[nL]at h;rw[h]
   |cons q parts ih=>
    intro cs res h;unfold nL at h;split at h
    .split at h
     .rw[ih _ _ h,zI]
     .cases h
    .cases h
  rw[this _ _ _ hl,DJ,da,ym,hsize]
 refine⟨.slice (some ⟨w.heap.size,0,none⟩) len len,vs.toArray,len,?_,λh=>by omega,λ_=> ?_,?_,by omega,λρ' C' h=> ?_⟩
 .unfold execOp;rw[ho];have e1:¬(len*af P e>2^24):=by omega
  have e2:((parts.map λq=>(q.1,bK V q.2)).toList)=(parts.toList.map λq=>(q.1,bK V q.2)):=by simp
  have e3:∀w:World,(sizeOf e).run P w= .ok (af P e) w:=λw=>by simp[sizeOf,typeInfo,hi,af]
  have e4:∀w:World,(zeroValue e).run P w= .ok zv w:=λw=>by simp[zeroValue,typeInfo,hi,hiz]
  by_cases h0:len*af P e=0
  .have hl0:len=0:=by
    rcases IK.1 h0 with h|h
    .exact h
    .omega
   subst hl0;simp only[List.replicate_zero,List.flatten_nil]at f1;simp only[Instr.buildSlice,cp,run_underlying (lO he),ct,e3,Nat.zero_mul,if_neg (show¬(0:Nat)>2^24 by omega),if_true,db];have e6:(IM 0).map (λx=>(#[] :Array Value)[x % (#[] :Array Value).size]!)= #[] :=by simp
   rw[e6,e2];rw[f1];simp[newRow]
  .have e5:(IM (len*af P e)).map (λj=>zv.cells[j % zv.cells.size]!)=(cS len zv.cells.toList).flatten.toArray:=by rw[hsize];apply pN.1;rw[Lp zv.cells hpos len]
   simp only[Instr.buildSlice,cp,run_underlying (lO he),ct,e3,if_neg e1,if_neg h0,e4,db,e5,e2,f1];simp[newRow]
 .refine⟨?_,?_,?_⟩
  .simp;omega
  .simp;omega
  .have:len<=len*af P e:=SY _ (by omega);unfold maxLen;omega
 .grind
 .unfold aW;grind
end
end
section
section
variable {P:Program} {o:Oper} {E:Operand->AV} {σ:Nat->Option Ob} {n:Nat}
def Lb:∀(l cs:List AV) (off:Nat),off+l.length<=cs.length->∀(i:Nat) x,(gZ cs off l)[i]? =some x->(off<=i/\l[i-off]? =some x)\/((i<off\/off+l.length<=i)/\cs[i]? =some x)
 |[],cs,off,_,i,x,h=>by
  simp only[gZ]at h;grind
 |y::l,cs,off,hl,i,x,h=>by
  simp only[gk]at hl;rcases Lb l (cs.set off y) (off+1) (by simp;omega) i x h with⟨h1,h2⟩|⟨h1,h2⟩
  .grind
  grind
def uf(P:Program)(t:TypeId)(σ:Nat->Option Ob)(a v:AV)(K:Res):Prop:=match a with
 | .ptr s off=>∃ob l,σ s=some ob/\lg v=some l/\l.length=af P t/\(P.info? t).isSome=true/\off+l.length<=ob.cells.length/\K .undef [s] [(s,some ⟨ob.ty,ob.esz,gZ ob.cells off l⟩)]
 |_=>False
def Vi{t:TypeId}{a x:Operand}(ho:o.op= .store t a x){K:Res}(h:uf P t σ (E a) (E x) K):∃r R W,bR P o E σ n r R W/\K r R W:=by
 unfold uf at h;split at h
 case h_2=>exact h.elim
 rename_i s off ea;obtain⟨ob,l,hob,hl,hsz,ht,hoff,hK⟩:=h;refine⟨_,_,_,?_,hK⟩;intro C0 ρ g V w B hs hB hR hn hgn hE;have g1:=hE a (by rw[ho];simp[ce]);rw[ea]at g1;obtain⟨b,c,hρ,hv⟩:=g1;have hgs:g s=some ob:=by grind
 obtain⟨hBb,arr,hO⟩:=hs.at hgs hρ;obtain⟨r1,r2⟩:=Dm hl (hE x (by rw[ho];simp[ce]));have hlen:=r1.length;have hle:ob.cells.length<=arr.size:=by
  by_cases hz:ob.esz=0
  .rw[hO.box hz];omega
  .exact(hO.row hz).2.1
 have hst:=run_storeCells_at P b off ob.ty (bK V x).cells.toList 0 arr w hO.blk (by omega) r2;obtain⟨i,hi⟩:=pJ.1 ht;have hsi:(bK V x).cells.size=i.size:=by
  have:af P t=i.size:=by simp[af,hi]
  rw[<-ym,hlen,hsz,this]
 unfold cN execOp;simp only[ho,hv,Instr.storeAt,Ch,storeVar,sizeOf,typeInfo,cp,db,ct,run_program,hi,if_neg (show¬(bK V x).cells.size≠i.size from λh=>h hsi),hst];simp only[Nat.add_zero];generalize hvs:(bK V x).cells.toList=vs at*;have hblk:(w.setRow b (arr.toList.take off++vs++arr.toList.drop (off+vs.length)).toArray).heap[b]? =some (.cells (arr.toList.take off++vs++arr.toList.drop (off+vs.length)).toArray ob.ty (0,0)):=setRow_heap w b arr _ ob.ty _ hO.blk;have hold:∀k,k≠b->(w.setRow b (arr.toList.take off++vs++arr.toList.drop (off+vs.length)).toArray).heap[k]? =w.heap[k]? :=by intro k hk;unfold World.setRow;simp only[IG];rw[if_neg (by grind)]
 have hsize:(w.setRow b (arr.toList.take off++vs++arr.toList.drop (off+vs.length)).toArray).heap.size=w.heap.size:=by unfold World.setRow;simp
 have hlk:∀s',s'≠s->[(s,some (⟨ob.ty,ob.esz,gZ ob.cells off l⟩:Ob))].lookup s'=none:=by intro s' hs';simp[iE,beq_eq_false_iff_ne.2 hs']
 have hup:∀s',s'≠s->bC g [(s,some ⟨ob.ty,ob.esz,gZ ob.cells off l⟩)] s'=g s':=by intro s' hs';unfold bC;rw[hlk s' hs']
 have hmono:∀b' o' x,bF C0 B w ρ g b' o' x->bF C0 B (w.setRow b (arr.toList.take off++vs++arr.toList.drop (off+vs.length)).toArray) ρ (bC g [(s,some ⟨ob.ty,ob.esz,gZ ob.cells off l⟩)]) b' o' x:=by
  intro b' o' x ⟨e1,e2,e0⟩;have hne:b'≠b:=λe=>by grind
  refine⟨(jI (hold b' hne)).trans e1,?_,e0⟩;intro s' c' e3;by_cases e:s'=s
  .grind
  .grind
 refine⟨ρ,λ_ _=>rfl,hmono,?_,by rfl,⟨rfl,rfl,rfl,by omega,by grind⟩⟩;refine hs.step (by grind) (λ_ _ h=>h) hmono ?_ ?_ λk es clock hk=>hold k (uj hk hO.blk)
 .intro s' o' b' c' e1 e2 e3;refine hold b' λe=> ?_;subst e;have:=hs.inj s s' ob o' b' c c' hgs e2 hρ e3;grind
 .intro s' o' e;have e1:s'=s:=by
   rcases pO s' s with h|h
   .grind
   .exact h
  subst e1;have e2:o'=⟨ob.ty,ob.esz,gZ ob.cells off l⟩:=by simp[iE]at e;exact e.symm
  subst e2;have hasz:(arr.toList.take off++vs++arr.toList.drop (off+vs.length)).toArray.size=arr.size:=by simp[l6];omega
  refine⟨some b,c,hρ,.inr ⟨b,_,rfl,hBb,⟨hblk,?_,?_,?_⟩,?_⟩⟩
  .intro hz;rw[hasz,hO.box hz];exact(zI _ _ _).symm
  .intro hz;obtain⟨k1,k2,k3⟩:=hO.row hz;rw[hasz];exact⟨k1,by rw[zI];exact k2,k3⟩
  .intro j y hj;rcases Lb l ob.cells off hoff j y hj with⟨h1,h2⟩|⟨h1,h2⟩
   .obtain⟨u,k1,k2⟩:=r1.get _ _ _ y h2;refine⟨u,?_,r2 u (by grind),aW.mono (λ_ _ h=>h) hmono y u k2⟩;grind
   .obtain⟨u,k1,k3,k2⟩:=hO.cells j y h2;refine⟨u,?_,k3,aW.mono (λ_ _ h=>h) hmono y u k2⟩;grind
  .intro s2 o' c' hne e3 e4;rw[hup s2 hne]at e3;exact hne (hs.inj s' s2 ob o' b c c' hgs e3 hρ e4).symm
def B6(P:Program)(e:TypeId):Bool:=((P.info? e).bind λi=>i.zero.map λz=>z.cells.size==i.size&&decide (0<i.size)&&decide (i.bytes<=1000000)).getD false
def HD(σ:Nat->Option Ob)(e:TypeId)(esz:Nat)(x:AV)(K:Nat->List AV->List Nat->Prop):Prop:=match x with
 | .nil=>K 0 [] []
 | .own s 0 k=>∃ob,σ s=some ob/\ob.ty=e/\ob.esz=esz/\ob.cells.length=k*esz/\K k ob.cells [s]
 |_=>False
def Bj(σ:Nat->Option Ob)(esz:Nat)(y:AV)(K:Nat->List AV->List Nat->Prop):Prop:=match y with
 | .nil=>K 0 [] []
 | .p (.sl m cs)=>cs.length=m*esz/\K m (cs.map .p) []
 | .own s o m=>∃ob l,σ s=some ob/\(ob.cells.drop o).take (m*esz)=l/\l.length=m*esz/\K m l [s]
 |_=>False
def yV(P:Program)(n:Nat)(t:TypeId)(σ:Nat->Option Ob)(x y:AV)(K:Res):Prop:=∃e,dD P t=some e/\B6 P e=true/\
 HD σ e (af P e) x λk cs R1=>Bj σ (af P e) y λm cs' R2=>k+m<=1000000/\
  K (.own (sit n 0) 0 (k+m)) (R1++R2) (R1.map (·,none)++[(sit n 0,some ⟨e,af P e,cs++cs'⟩)])
def cP.vals{C:bG}:∀(l:List PV) (b off:Nat),cP C l b off->∃vs:List Value,vs.length=l.length/\(∀(i:Nat) v,vs[i]? =some v->C b (off+i) v)/\az C l vs/\gi vs
 |[],b,off,_=>⟨[],rfl,(by grind),by rfl,λu hu=>by cases hu⟩
 |x::l,b,off,h=>by
  obtain⟨⟨v,h1,h2,h3⟩,h4⟩:=h;obtain⟨vs,g1,g2,g3,g4⟩:=cP.vals l b (off+1) h4;refine⟨v::vs,by simp[g1],?_,?_,λu hu=>by rcases bT.1 hu with rfl|hu;exact h2;exact g4 u hu⟩
  .grind
  .unfold az;grind
def ObRep.vals{ρ:Ren}{C:bG}{w:World}{b c:Nat}{ob:Ob}{arr:Array Value}(h:ObRep ρ C w b c ob arr):bB ρ C ob.cells (arr.toList.take ob.cells.length)/\gi (arr.toList.take ob.cells.length):=by
 have hle:ob.cells.length<=arr.size:=by
  by_cases hz:ob.esz=0
  .rw[h.box hz];omega
  .exact(h.row hz).2.1
 refine⟨bB.of _ _ (by simp;omega) λi x hi=> ?_,?_⟩
 .obtain⟨v,h1,_,h3⟩:=h.cells i x hi;grind
 .intro u hu;obtain⟨i,hi,he⟩:=List.getElem_of_mem hu;simp only[l6,ym]at hi;obtain⟨v,h1,h2,_⟩:=h.cells i ob.cells[i] (by grind);grind
def YQ{C0:bG}{ρ:Ren}{g:Nat->Option Ob}{w:World}{B:Nat}(hs:StR C0 ρ g w B){e:TypeId}{esz:Nat}{x:AV}{v:Value}(hz:esz≠0)(hx:aW ρ (bF C0 B w ρ g) x v){k:Nat}{cs:List AV}{R:List Nat}
  (hd:(x= .nil/\k=0/\cs=[]/\R=[])\/∃s ob,x= .own s 0 k/\R=[s]/\g s=some ob/\ob.ty=e/\ob.esz=esz/\ob.cells.length=k*esz/\cs=ob.cells):
  ∃xs,w.ownsRow B e esz v k xs/\bB ρ (bF C0 B w ρ g) cs xs/\gi xs/\((v.ownBlock=none/\∀s∈R,∀b c,ρ s≠some (some b,c))\/∃s b c ob,R=[s]/\g s=some ob/\ρ s=some (some b,c)/\v.ownBlock=some b):=by
 rcases hd with⟨rfl,rfl,rfl,rfl⟩|⟨s,ob,rfl,rfl,h1,h2,h3,h4,rfl⟩
 .subst hx;exact⟨[],IN _ _ _ _,by rfl,(λu hu=>by cases hu),.inl ⟨rfl,by grind⟩⟩
 .obtain⟨q,c,hq,⟨rfl,hv,rfl,_⟩|⟨b,o',c',rfl,hv,h5,h6,h7⟩⟩:=hx
  .subst hv;have hc:ob.cells=[] :=by grind
   rw[hc];exact⟨[],IN _ _ _ _,by rfl,(λu hu=>by cases hu),.inl ⟨rfl,by grind⟩⟩
  .obtain⟨rfl,rfl⟩:=h7 rfl;obtain⟨hB,arr,hO⟩:=hs.at h1 hq;obtain⟨r1,r2⟩:=hO.vals;obtain⟨k1,k2,k3⟩:=hO.row (by omega);refine⟨_,⟨?_,.inr ⟨b,c',arr,hv,hB,?_,h5,k3,?_,?_⟩⟩,r1,r2,.inr ⟨s,b,c',ob,rfl,h1,hq,by rw[hv];rfl⟩⟩
   .grind
   .have:=hO.blk;grind
   .rw[k1,h3]
   .rw[h4]
def XN{C0:bG}{ρ:Ren}{g:Nat->Option Ob}{w:World}{B:Nat}(hs:StR C0 ρ g w B){esz:Nat}{y:AV}{v:Value}(hy:aW ρ (bF C0 B w ρ g) y v){m:Nat}{cs:List AV}
  (hd:(y= .nil/\m=0/\cs=[])\/(∃l,y= .p (.sl m l)/\l.length=m*esz/\cs=l.map .p)\/∃s o ob,y= .own s o m/\g s=some ob/\(ob.cells.drop o).take (m*esz)=cs/\cs.length=m*esz):
  ∃a c us,v= .slice a m c/\us.length=m*esz/\Rd w a us/\(a=none->c=0)/\bB ρ (bF C0 B w ρ g) cs us/\gi us:=by
 rcases hd with⟨rfl,rfl,rfl⟩|⟨l,rfl,hl,rfl⟩|⟨s,oo,ob,rfl,h1,h2,h3⟩
 .exact⟨none,0,[],hy,by simp,(λi u hi=>by simp at hi),λ_=>rfl,by rfl,λu hu=>by cases hu⟩
 .obtain⟨a,c,hv,h1,h2,h3⟩:=hy;cases a with
  |none=>
   obtain⟨rfl,rfl⟩:=h2 rfl;exact⟨none,0,[],hv,hl,(λi u hi=>by simp at hi),λ_=>rfl,by rfl,λu hu=>by cases hu⟩
  |some ad=>
   obtain⟨b,off,sp⟩:=ad;obtain⟨h4,h5⟩:=h3 _ rfl;rcases qN m with hm0|hm0
   .subst hm0;have hl0:_=[] :=ni.1 (by simpa using hl);subst hl0;exact⟨_,c,[],hv,by simp,(λi u hi=>by simp at hi),(by grind),by rfl,λu hu=>by cases hu⟩
   have h4:=h4 hm0;subst h4;obtain⟨vs,k1,k2,k3,k4⟩:=h5.vals;refine⟨_,c,vs,hv,by omega,?_,(by grind),k3.toA,k4⟩;intro i u hi;have:=k2 i u hi;exact⟨b,off,rfl,jz w ⟨b,_,none⟩ this.1,this.1⟩
 .obtain⟨q,c,hq,⟨rfl,hv,rfl,rfl⟩|⟨b,o',c',rfl,hv,h5,h6,h7⟩⟩:=hy
  .have:cs=[] :=by grind
   subst this;exact⟨none,0,[],hv,by simp,(λi u hi=>by simp at hi),λ_=>rfl,by rfl,λu hu=>by cases hu⟩
  .obtain⟨hB,arr,hO⟩:=hs.at h1 hq;obtain⟨r1,r2⟩:=hO.vals;refine⟨_,c',((arr.toList.take ob.cells.length).drop oo).take (m*esz),hv,?_,?_,(by grind),by rw[<-h2];exact(r1.drop _).take _,λu hu=>r2 u (by grind)⟩
   .have:=r1.length;grind
   .intro i u hi;rw[pD]at hi;split at hi
    .rename_i hlt;have hm:m≠0:=by intro h;subst h;simp at hlt
     have e:=h6 hm;rw[vX,pD]at hi;split at hi
     .refine⟨b,o',rfl,hO.lt,?_⟩;rw[hO.cell];grind
     .cases hi
    .cases hi
def Te{t t' ty e e':TypeId}(ht:P.underlying t=some (.slice e))(ht':P.underlying t'=some (.slice e'))(s x:Value)(w:World):
  (Builtin.append_ #[t,t'] ty #[s,x]).run P w=(Builtin.append_ #[t,t] ty #[s,x]).run P w:=by
 cases s<;>simp[Builtin.append_,run_underlying ht,run_underlying ht']
def aAj{x y:Operand}{t t':TypeId}(ht':(dD P t').isSome=true)(ho:o.op= .call {callee:= .builtin .append,args:= #[x,y],argTypes:= #[t,t']}){K:Res}(h:yV P n t σ (E x) (E y) K):∃r R W,bR P o E σ n r R W/\K r R W:=by
 obtain⟨e,he,hta,h⟩:=h;unfold B6 at hta;have hx:x∈o.op.operands.toList:=by rw[ho];simp[ce,jY]
 have hy:y∈o.op.operands.toList:=by rw[ho];simp[ce,jY]
 cases hi:P.info? e with
 |none=>grind
 |some i=>
 rw[hi]at hta;simp only[qP]at hta;cases hz:i.zero with
 |none=>grind
 |some z=>
 rw[hz]at hta;simp only[eO,lH,bw,beq_iff_eq,decide_eq_true_eq]at hta;obtain⟨⟨t1,t2⟩,t3⟩:=hta;have hesz:af P e=i.size:=by simp[af,hi]
 have hh:∃k cs R1 m cs' R2,((E x= .nil/\k=0/\cs=[]/\R1=[])\/∃s ob,E x= .own s 0 k/\R1=[s]/\σ s=some ob/\ob.ty=e/\ob.esz=af P e/\ob.cells.length=k*af P e/\cs=ob.cells)/\
   ((E y= .nil/\m=0/\cs'=[]/\R2=[])\/(∃l,E y= .p (.sl m l)/\l.length=m*af P e/\cs'=l.map .p/\R2=[])\/∃s o ob,E y= .own s o m/\σ s=some ob/\(ob.cells.drop o).take (m*af P e)=cs'/\cs'.length=m*af P e/\R2=[s])/\
   k+m<=1000000/\K (.own (sit n 0) 0 (k+m)) (R1++R2) (R1.map (·,none)++[(sit n 0,some ⟨e,af P e,cs++cs'⟩)]):=by
  have tl:∀k cs R1,Bj σ (af P e) (E y) (λm cs' R2=>k+m<=1000000/\K (.own (sit n 0) 0 (k+m)) (R1++R2) (R1.map (·,none)++[(sit n 0,some ⟨e,af P e,cs++cs'⟩)]))->
    ∃m cs' R2,((E y= .nil/\m=0/\cs'=[]/\R2=[])\/(∃l,E y= .p (.sl m l)/\l.length=m*af P e/\cs'=l.map .p/\R2=[])\/∃s o ob,E y= .own s o m/\σ s=some ob/\(ob.cells.drop o).take (m*af P e)=cs'/\cs'.length=m*af P e/\R2=[s])/\
    k+m<=1000000/\K (.own (sit n 0) 0 (k+m)) (R1++R2) (R1.map (·,none)++[(sit n 0,some ⟨e,af P e,cs++cs'⟩)]):=by
   intro k cs R1 h;unfold Bj at h;split at h
   .rename_i ey;exact⟨0,[],[],by grind,h⟩
   .grind
   .grind
   .exact h.elim
  unfold HD at h;split at h
  .rename_i ex;obtain⟨m,cs',R2,h1,h2⟩:=tl _ _ _ h;exact⟨0,[],[],m,cs',R2,by grind,h1,h2⟩
  .obtain⟨ob,g1,g2,g3,g4,g5⟩:=h;obtain⟨m,cs',R2,h1,h2⟩:=tl _ _ _ g5;grind
  .exact h.elim
 obtain⟨k,cs,R1,m,cs',R2,hd1,hd2,hkm,hK⟩:=hh;refine⟨_,_,_,?_,hK⟩;intro C0 ρ g V w B hs hB hR hn hgn hE;have hn:=hn _ (iH n 0);have hgn:=hgn _ (iH n 0);have hcl:∀s,cls s≠n->s≠sit n 0:=λs h e=>h (by rw[e];exact iH n 0);have hd1':(E x= .nil/\k=0/\cs=[]/\R1=[])\/∃s ob,E x= .own s 0 k/\R1=[s]/\g s=some ob/\ob.ty=e/\ob.esz=af P e/\ob.cells.length=k*af P e/\cs=ob.cells:=by
  rcases hd1 with h|⟨s,ob,h1,h2,h3,h4⟩
  .exact .inl h
  .grind
 have hd2':(E y= .nil/\m=0/\cs'=[])\/(∃l,E y= .p (.sl m l)/\l.length=m*af P e/\cs'=l.map .p)\/∃s o ob,E y= .own s o m/\g s=some ob/\(ob.cells.drop o).take (m*af P e)=cs'/\cs'.length=m*af P e:=by
  rcases hd2 with⟨h1,h2,h3,_⟩|⟨l,h1,h2,h3,_⟩|⟨s,oo,ob,h1,h2,h3,h4,h5⟩
  .grind
  .grind
  .grind
 obtain⟨xs,hown,q1,q2,hsep⟩:=YQ hs (by omega) (hE x hx) hd1';obtain⟨a,c,us,hyv,p1,p2,p3,p4,p5⟩:=XN hs (hE y hy) hd2';have hlenx:xs.length=k*af P e:=hown.1;have hsuff:∀K0:Value->World->Prop,cN P {o with op:= .call {callee:= .builtin .append,args:= #[x,y],argTypes:= #[t,t]}} V w K0->cN P o V w K0:=by intro K0 h;obtain⟨e',he'⟩:=pJ.1 ht';have hr:=Te (ty:=o.type) (lO he) (lO he') (bK V x) (bK V y) w;unfold cN execOp at*;simp only[ho,resolve,invoke,builtin,cp,db,ct,IJ,dB,lC]at*;rw[hr];exact h
 refine hsuff _ ?_;refine D8 x y t rfl B e z (af P e) i.bytes (lO he) (by grind) (by rw[t1,hesz]) (by omega) _ k xs rfl hown a m c us hyv p1 p2 p3 p5 hkm t3 hB ?_;intro v' w' hown' hbel hgrow hblk;obtain⟨q',c',hq',hq2⟩:∃(q':Option Nat) (c':Nat),((q'=none/\v'= .slice none 0 0/\k+m=0/\c'=0/\xs++us=[])\/∃b' arr,q'=some b'/\v'= .slice (some ⟨b',0,none⟩) (k+m) c'/\B<=b'/\w'.heap[b']? =some (.cells arr e (0,0))/\k+m<=c'/\c'<=maxLen/\arr.size=c'*af P e/\arr.toList.take ((k+m)*af P e)=xs++us)/\True:=by
  obtain⟨o1,⟨h1,h2⟩|⟨b',c',arr,h1,h2,h3,h4,h5,h6,h7⟩⟩:=hown'
  .exact⟨none,0,.inl ⟨rfl,h1,h2,rfl,ni.1 (by grind)⟩,trivial⟩
  .exact⟨some b',c',by grind,trivial⟩
 clear hq2;generalize hnS:sit n 0=nS at*
 let ρ':Ren:=λs=>if s=nS then some (q',c')else ρ s
 let W:List (Nat×Option Ob):=R1.map (·,none)++[(nS,some ⟨e,af P e,cs++cs'⟩)]
 show∃ρ'':Ren,(∀s,cls s≠n->ρ'' s=ρ s)/\(∀b o' x,bF C0 B w ρ g b o' x->bF C0 B w' ρ'' (bC g W) b o' x)/\StR C0 ρ'' (bC g W) w' B/\aW ρ'' (bF C0 B w' ρ'' (bC g W)) (.own nS 0 (k+m)) v'/\Below B w w';have hext:∀s q,ρ s=some q->ρ' s=some q:=by intro s q hq;show(if s=nS then _ else _)=_;rw[if_neg (by grind)];exact hq
 have hR1:∀s∈R1,s≠nS:=by
  intro s hs' e;rcases hd1' with⟨_,_,_,h⟩|⟨s',ob,_,h1,h2,_⟩
  .grind
  .grind
 have hlkn:W.lookup nS=some (some ⟨e,af P e,cs++cs'⟩):=by
  rcases hd1' with⟨_,_,_,h⟩|⟨s',ob,_,h1,h2,_⟩
  .simp[W,h]
  .grind
 have hlkR:∀s,s∈R1->W.lookup s=some none:=by
  intro s hs';rcases hd1' with⟨_,_,_,h⟩|⟨s',ob,_,h1,h2,_⟩
  .grind
  .grind
 have hlk:∀s,s≠nS->s∉R1->W.lookup s=none:=by
  intro s h1 h2;rcases hd1' with⟨_,_,_,h⟩|⟨s',ob,_,h3,_⟩
  .grind
  .grind
 have hupR:∀s,s∈R1->bC g W s=none:=by intro s h;unfold bC;rw[hlkR s h]
 have hup:∀s,s≠nS->s∉R1->bC g W s=g s:=by intro s h1 h2;unfold bC;rw[hlk s h1 h2]
 have hrow:∀s ob b c,g s=some ob->ρ s=some (some b,c)->s∉R1->some b≠(bK V x).ownBlock:=by
  intro s ob b c e1 e2 e3 e4;rcases hsep with⟨h1,_⟩|⟨s',b',c2,ob',h1,h2,h3,h4⟩
  .grind
  .rw[h4]at e4;cases e4;have:=hs.inj s s' ob ob' b c c2 e1 h2 e2 h3;grind
 have hlt:∀s ob b c,g s=some ob->ρ s=some (some b,c)->b<w.heap.size:=by intro s ob b c e1 e2;obtain⟨_,arr,e3⟩:=hs.at e1 e2;exact e3.lt
 have hmono:∀b o' x,bF C0 B w ρ g b o' x->bF C0 B w' ρ' (bC g W) b o' x:=by
  intro b o' x' ⟨e1,e2,e0⟩;have hb:b<w.heap.size:=jz w ⟨b,o',none⟩ e1;have hnr:some b≠(bK V x).ownBlock:=by
   intro e4;rcases hsep with⟨h1,_⟩|⟨s',b',c2,ob',h1,h2,h3,h4⟩
   .grind
   .grind
  refine⟨(jI (hgrow.block b hb hnr)).trans e1,?_,e0⟩;intro s c2 e3;by_cases e:s=nS
  .subst e;simp only[ρ',if_true]at e3;cases e3;rcases hq' with⟨h1,_⟩|⟨b',arr,h1,h2,_⟩
   .cases h1
   .cases h1;rcases hblk b (by rw[h2];rfl)with h3|h3
    .grind
    .omega
  .grind
 refine⟨ρ',by grind,hmono,?_,?_,hbel⟩
 .refine hs.step ?_ hext hmono ?_ ?_ λk es clock hk=>hgrow.block k (qz hk) ?_
  rotate_left 3
  .intro e4;rcases hsep with⟨h1,_⟩|⟨s',b',c2,ob',h1,h2,h3,h4⟩
   .grind
   .rw[h4]at e4;cases e4;obtain⟨_,arr,e5⟩:=hs.at h2 h3;exact uj hk e5.blk rfl
  .grind
  .intro s ob' b c2 e1 e2 e3;have e4:s∉R1:=λh=>by grind
   exact hgrow.block b (by grind) (by grind)
  .intro s ob' e1;have e2:s=nS:=by
    by_cases h1:s=nS
    .exact h1
    .grind
   subst e2;rw[hlkn]at e1;simp only[fc]at e1;subst e1;refine⟨q',c',by simp[ρ'],?_⟩;rcases hq' with⟨h1,h2,h3,h4,h5⟩|⟨b',arr,h1,h2,h3,h4,h5,h6,h7,h8⟩
   .refine .inl ⟨h1,by grind,?_,h4⟩;have l1:=q1.length;have l2:=p4.length;have l3:=congrArg dA h5;simp only[eW,List.length_nil]at l3;rw[List.append_eq_nil_iff];exact⟨ni.1 (by omega),ni.1 (by omega)⟩
   .refine .inr ⟨b',arr,h1,h3,⟨h4,by grind,λ_=>⟨h7,?_,h6⟩,?_⟩,?_⟩
    .have l1:=q1.length;have l2:=p4.length;rw[h7,eW,<-l1,<-l2,hlenx,p1,<-yn];exact Nat.mul_le_mul_right _ h5
    .intro j u hj;have l1:=q1.length;have hjj:∃v,(xs++us)[j]? =some v/\v.oneCell'=true/\aW ρ (bF C0 B w ρ g) u v:=by
      by_cases hlt2:j<cs.length
      .rw[mb hlt2]at hj;obtain⟨v,g1,g2⟩:=q1.get _ _ j u hj;exact⟨v,by grind,q2 v (by grind),g2⟩
      .rw[kZ (by omega)]at hj;obtain⟨v,g1,g2⟩:=p4.get _ _ _ u hj;exact⟨v,by grind,p5 v (by grind),g2⟩
     obtain⟨v,g1,g2,g3⟩:=hjj;refine⟨v,?_,g2,aW.mono hext hmono u v g3⟩;grind
    .intro s' o' c2 hne e3 e4;have e5:s'∉R1:=λh=>by grind
     rcases hblk b' (by rw[h2];rfl)with h9|h9
     .grind
     grind
 .unfold aW;grind
end
end
section
def aBn(C0:bG)(B:Nat)(w:World):bG:=λb o v=>w.cell? ⟨b,o,none⟩=some v/\(B<=b\/C0 b o v)
def dj{α β:Type}(f:α->Option β):List α->Option (List β)
 |[] =>some []
 |x::l=>match f x,dj f l with
  |some y,some m=>some (y::m)
  |_,_=>none
def bO{α β:Type}(f:α->List β):List α->List β
 |[] =>[]
 |x::l=>f x++bO f l
def dH:Nat->(Nat->Option Ob)->AV->Option PV
 |_,_,.p x=>some x
 |_,_,.nil=>some (.sl 0 [])
 |d+1,σ,.own s o m=>(σ s).bind λob=>(dj (dH d σ) ob.cells).map λl=> .sl m ((l.drop o).take (m*ob.esz))
 |d+1,σ,.ptr s off=>(σ s).bind λob=>(dj (dH d σ) ob.cells).map λl=> .pro l off
 |d+1,σ,.agg l=>(dj (dH d σ) l).map .agg
 |d+1,σ,.fn f a b=>(dj (dH d σ) a).bind λx=>(dj (dH d σ) b).map λy=> .fn f x y
 |_,_,_=>none
def cO:Nat->(Nat->Option Ob)->AV->List Nat
 |0,_,_=>[]
 |d+1,σ,.own s _ _=>s::(match σ s with|some ob=>bO (cO d σ) ob.cells|none=>[])
 |d+1,σ,.ptr s _=>s::(match σ s with|some ob=>bO (cO d σ) ob.cells|none=>[])
 |d+1,σ,.agg l=>bO (cO d σ) l
 |d+1,σ,.fn _ a b=>bO (cO d σ) a++bO (cO d σ) b
 |_,_,_=>[]
def GN(d:Nat)(σ:Nat->Option Ob)(x:PV):dH d σ (.p x)=some x:=by cases d<;>rfl
def si(d:Nat)(σ:Nat->Option Ob):∀(l:List PV),dj (dH d σ) (l.map .p)=some l
 |[] =>rfl
 |x::l=>by simp only[dB,dj,GN,si d σ l]
def aAD(d:Nat)(σ:Nat->Option Ob)(x:PV):cO d σ (.p x)=[] :=by cases d<;>rfl
def pf(d:Nat)(σ:Nat->Option Ob):∀(l:List PV),bO (cO d σ) (l.map .p)=[]
 |[] =>rfl
 |x::l=>by simp only[dB,bO,aAD,pf d σ l,yg]
def ny{α β:Type}{f:α->List β}{x:α}{y:β}:∀{l:List α},x∈l->y∈f x->y∈bO f l
 |a::l,h,hy=>by
  rcases bT.1 h with rfl|h
  .exact iC _ hy
  .exact fb _ (ny h hy)
def oH{α β:Type}{f:α->Option β}:∀{l:List α} {m:List β},dj f l=some m->l.length=m.length/\∀(i:Nat) x,l[i]? =some x->∃y,m[i]? =some y/\f x=some y
 |[],m,h=>by simp[dj]at h;grind
 |a::l,m,h=>by
  unfold dj at h;split at h
  .rename_i y r h1 h2;obtain⟨g1,g2⟩:=oH h2;grind
  .cases h
section
variable {P:Program}
def Eh{C0:bG}{ρ:Ren}{g σ:Nat->Option Ob}{w:World}{B:Nat}(hs:StR C0 ρ g w B)(T:bG)(S:Nat->Prop)(hfull:∀b o v,bF C0 B w ρ g b o v->T b o v)(hT:∀s ob b c,S s->g s=some ob->ρ s=some (some b,c)->B<=b->∀o v,w.cell? ⟨b,o,none⟩=some v->T b o v):∀(d:Nat) (x:AV) (y:PV) (v:Value),dH d σ x=some y->(∀s∈cO d σ x,S s/\g s=σ s)->aW ρ (bF C0 B w ρ g) x v->aX T y v:=by
 intro d;induction d with
 |zero=>
  intro x y v h hr hx;unfold dH at h;split at h<;>first|(cases h;done)|skip
  .cases h;exact aX.mono hfull _ v hx
  .cases h;unfold aW at hx;unfold aX;grind
  all_goals (rename_i e;cases e)
 |succ d ih=>
  have ihL:∀(l:List AV) (m:List PV) (vs:List Value),dj (dH d σ) l=some m->(∀s∈bO (cO d σ) l,S s/\g s=σ s)->bB ρ (bF C0 B w ρ g) l vs->az T m vs:=by
   intro l m vs h hr hv;obtain⟨h1,h2⟩:=oH h;refine az.of _ _ (by rw[<-h1];exact hv.length) λi y hi=> ?_;have hlt:i<l.length:=by rw[h1];grind
   obtain⟨y',h3,h4⟩:=h2 i l[i] (by grind);rw[hi]at h3;cases h3;obtain⟨v,h5,h6⟩:=hv.get _ _ i l[i] (by grind);exact⟨v,h5,ih _ _ v h4 (λs hs'=>hr s (ny (by grind) hs')) h6⟩
  have ihC:∀(s b c:Nat) (ob:Ob) (m:List PV),S s->g s=some ob->ρ s=some (some b,c)->dj (dH d σ) ob.cells=some m->(∀s∈bO (cO d σ) ob.cells,S s/\g s=σ s)->cP T m b 0:=by
   intro s b c ob m hS h1 h2 h3 h4;obtain⟨hBb,arr,hO⟩:=hs.at h1 h2;obtain⟨g1,g2⟩:=oH h3;refine cP.of _ _ _ λi y hi=> ?_;have hlt:i<ob.cells.length:=by rw[g1];grind
   obtain⟨y',h5,h6⟩:=g2 i ob.cells[i] (by grind);rw[hi]at h5;cases h5;obtain⟨v,k1,k2,k3⟩:=hO.cells i ob.cells[i] (by grind);refine⟨v,?_,k2,ih _ _ v h6 (λs hs'=>h4 s (ny (by grind) hs')) k3⟩;refine hT s ob b c hS h1 h2 hBb _ _ ?_;rw[jy,hO.cell];exact k1
  intro x y v h hr hx;unfold dH at h;split at h
  .cases h;exact aX.mono hfull _ v hx
  .cases h;unfold aW at hx;unfold aX;grind
  .rename_i σ _ _ _ d' s o m e;cases e;simp only[qQ,l5]at h;obtain⟨ob,h1,l,h2,rfl⟩:=h;have hg:g s=some ob:=(hr s (by simp[cO])).2.trans h1;have hSs:=(hr s (by simp[cO])).1;have hr2:∀s'∈bO (cO d σ) ob.cells,S s'/\g s'=σ s':=λs' hs'=>hr s' (by simp only[cO,h1];grind);unfold aX;obtain⟨q,c,hq,⟨rfl,hv,rfl,rfl⟩|⟨b,o',c',rfl,hv,h5,h6,h7⟩⟩:=hx
   .grind
   .refine⟨_,c',hv,h5,(by grind),λad e=> ?_⟩;cases e;by_cases hm:m=0
    .subst hm;simp;trivial
    .have e:=h6 hm;have:=((ihC s b c ob l hSs hg hq h2 hr2).drop o').take (m*ob.esz);grind
  .rename_i σ _ _ _ d' s off e;simp only[qQ,l5]at h;obtain⟨ob,h1,l,h2,rfl⟩:=h;have hg:g s=some ob:=(hr s (by simp[cO])).2.trans h1;have hSs:=(hr s (by simp[cO])).1;have hr2:∀s'∈bO (cO d σ) ob.cells,S s'/\g s'=σ s':=λs' hs'=>hr s' (by simp only[cO,h1];grind);unfold aW at hx;unfold aX;grind
  .rename_i d' l e;cases e;simp only[l5]at h;obtain⟨m,h2,rfl⟩:=h;obtain⟨vs,h3,h4,h5⟩:=hx;exact⟨vs,h3,ihL l m vs h2 (λs hs'=>hr s hs') h4,h5⟩
  .rename_i d' f a b e;cases e;simp only[qQ,l5]at h;obtain⟨x1,h1,x2,h2,rfl⟩:=h;obtain⟨vs1,vs2,h3,h4,h5⟩:=hx;exact⟨vs1,vs2,h3,ihL a x1 vs1 h1 (λs hs'=>hr s (iC _ hs')) h4,ihL b x2 vs2 h2 (λs hs'=>hr s (fb _ hs')) h5⟩
  .cases h
def jo(P:Program)(f:FuncId):Bool:=((P.funcs[f]?).map λfn=> !(fn.name== "runtime.NumGoroutine")&& !fn.body.isNone).getD false
def Sat(P:Program)(fr:Bool)(f:FuncId)(A:List PV)(r:PV):Prop:=jo P f=true/\
 ∀(C:bG) (w:World) (vs:List Value),(∀b o v,C b o v->w.cell? ⟨b,o,none⟩=some v)->az C A vs->
  Calls P f vs.toArray w λe w'=>∃v,e= .returned v/\aX (λb o x=>(fr=false/\C b o x)\/(w.heap.size<=b/\w'.cell? ⟨b,o,none⟩=some x)) r v/\Below w.heap.size w w'
def lK{f:FuncId}(h:jo P f=true)(args:Array Value)(w:World):(callFunc f args).run P w= .ok (.enter f args) w:=by
 unfold jo at h;cases hf:P.funcs[f]? with
 |none=>grind
 |some fn=>
  rw[hf]at h;simp only[eO,lH,bw,CY]at h;simp only[callFunc,cp,run_program,ct,hf,h.1,h.2,qM,if_false,db]
structure Lent(C:bG)(w:World)(b c:Nat)(ty:TypeId)(esz:Nat)(cells:List PV)(arr:Array Value):Prop where
 blk:w.heap[b]? =some (.cells arr ty (0,0))
 box:esz=0->arr.size=cells.length
 row:esz≠0->arr.size=c*esz/\cells.length<=arr.size/\c<=maxLen
 cells:∀(i:Nat) x,cells[i]? =some x->∃v,arr[i]? =some v/\v.oneCell'=true/\aX C x v
def Po(n:Option Nat)(b c:Nat):Value:=match n with
 |none=> .pointer (some ⟨b,0,none⟩)
 |some n=> .slice (some ⟨b,0,none⟩) n c
def mX(P:Program)(f:FuncId)(n:Option Nat)(A:List PV)(ty:TypeId)(esz:Nat)(cells cells':List PV):Prop:=jo P f=true/\cells'.length=cells.length/\
 (∀(C:bG) (w:World) (b c:Nat) (arr:Array Value) (vs:List Value),(∀b' o v,C b' o v->w.cell? ⟨b',o,none⟩=some v/\b'≠b)->Lent C w b c ty esz cells arr->(∀m,n=some m->m<=c)->az C A vs->
   Calls P f (Po n b c::vs).toArray w λe w'=>∃arr',e= .returned Go.undef/\Lent C w' b c ty esz cells' arr'/\w.grownBy w' (some b))/\
 (n=some 0->∀(C:bG) (w:World) (vs:List Value),(∀b' o v,C b' o v->w.cell? ⟨b',o,none⟩=some v)->az C A vs->
   Calls P f (.slice none 0 0::vs).toArray w λe w'=>e= .returned Go.undef/\Below w.heap.size w w')
def Fu(P:Program)(σ:Nat->Option Ob)(f:FuncId)(avs:List AV)(K:Res):Prop:=match avs with
 | .ptr s 0::rest=>∃ty cells,σ s=some ⟨ty,0,cells.map .p⟩/\∃A cells',bM rest=some A/\mX P f none A ty 0 cells cells'/\K .undef [s] [(s,some ⟨ty,0,cells'.map .p⟩)]
 | .own s 0 n::rest=>∃ty esz cells,σ s=some ⟨ty,esz,cells.map .p⟩/\esz≠0/\∃A cells',bM rest=some A/\mX P f (some n) A ty esz cells cells'/\K .undef [s] [(s,some ⟨ty,esz,cells'.map .p⟩)]
 |_=>False
def Zv(P:Program)(σ:Nat->Option Ob)(f:FuncId)(avs:List AV)(K:Res):Prop:=
 ∃A,dj (dH 3 σ) avs=some A/\∃fr r,Sat P fr f A r/\(((fr=true\/bM avs=some A)/\K (.p r) (bO (cO 3 σ) avs) [])\/K (.p r) (bO (cO 3 σ) avs) ((bO (cO 3 σ) avs).map (·,none)))
def pj(P:Program)(σ:Nat->Option Ob)(f:FuncId)(avs:List AV)(K:Res):Prop:=Zv P σ f avs K\/Fu P σ f avs K
def B5(P:Program)(σ:Nat->Option Ob)(fv:AV)(args:List AV)(K:Res):Prop:=match fv with
 | .fn (.func f) first caps=>pj P σ f (first++args++caps) K
 | .p (.fn (.func f) first caps)=>pj P σ f (first.map .p++args++caps.map .p) K
 |_=>False
variable {o:Oper} {E:Operand->AV} {σ:Nat->Option Ob} {n:Nat}
def bB.append{ρ:Ren}{C:bG}{l m:List AV}{vs us:List Value}(h:bB ρ C l vs)(k:bB ρ C m us):bB ρ C (l++m) (vs++us):=
 bB.of _ _ (by simp[h.length,k.length]) λi x hi=>by
  have hl:=h.length;by_cases hlt:i<l.length
  .rw[mb hlt]at hi;rw[mb (by omega)];exact h.get _ _ i x hi
  .rw[kZ (by omega)]at hi;rw[kZ (by omega),hl];exact k.get _ _ _ x hi
def K7{s n0:Nat}{nn:Option Nat}{f:FuncId}{A:List PV}{ty esz:Nat}{cells cells':List PV}(hob:σ s=some ⟨ty,esz,cells.map .p⟩)(hS:mX P f nn A ty esz cells cells')
  (hkind:(nn=none/\esz=0)\/(nn=some n0/\esz≠0))
  (hrun:∀(ρ:Ren) (C:bG) (V:Nat->Value) (w:World),(∀x∈o.op.operands.toList,aW ρ C (E x) (bK V x))->∃v us,(execOp (bK V) o).run P w= .ok (.enter f (v::us).toArray) w/\az C A us/\
    aW ρ C (match nn with|none=> .ptr s 0|some n0=> .own s 0 n0) v):bR P o E σ n .undef [s] [(s,some ⟨ty,esz,cells'.map .p⟩)] :=by
 obtain⟨_,hlen,hcall,hnil⟩:=hS;intro C0 ρ g V w B hs hB hR hn hgn hE;obtain⟨v,us,hr,hA,hv⟩:=hrun ρ _ V w hE;have hgs:g s=some ⟨ty,esz,cells.map .p⟩:=by grind
 unfold cN;rw[hr];dsimp only;have hlk:∀s',s'≠s->[(s,some (⟨ty,esz,cells'.map .p⟩:Ob))].lookup s'=none:=by intro s' hs';simp[iE,beq_eq_false_iff_ne.2 hs']
 have hup:∀s',s'≠s->bC g [(s,some ⟨ty,esz,cells'.map .p⟩)] s'=g s':=by intro s' hs';unfold bC;rw[hlk s' hs']
 have hat:∀s' o',[(s,some (⟨ty,esz,cells'.map .p⟩:Ob))].lookup s'=some (some o')->s'=s/\o'=⟨ty,esz,cells'.map .p⟩:=by
  intro s' o' e;have e1:s'=s:=by
   rcases pO s' s with h|h
   .grind
   .exact h
  subst e1;simp[iE]at e;exact⟨rfl,e.symm⟩
 have hlt:∀s ob b c,g s=some ob->ρ s=some (some b,c)->b<w.heap.size:=by intro s ob b c e1 e2;obtain⟨_,arr,e3⟩:=hs.at e1 e2;exact e3.lt
 have real:∀b c,ρ s=some (some b,c)->v=Po nn b c->(∀m,nn=some m->m<=c)->
   Calls P f (v::us).toArray w λe w''=>∃v,e= .returned v/\∃ρ':Ren,(∀s,cls s≠n->ρ' s=ρ s)/\(∀b o' x,bF C0 B w ρ g b o' x->bF C0 B w'' ρ' (bC g [(s,some ⟨ty,esz,cells'.map .p⟩)]) b o' x)/\
    StR C0 ρ' (bC g [(s,some ⟨ty,esz,cells'.map .p⟩)]) w'' B/\aW ρ' (bF C0 B w'' ρ' (bC g [(s,some ⟨ty,esz,cells'.map .p⟩)])) .undef v/\Below B w w'':=by
  intro b c hρ hv hnc;obtain⟨hBb,arr,hO⟩:=hs.at hgs hρ;subst hv;have hL:Lent (bF C0 B w ρ g) w b c ty esz cells arr:=by refine⟨hO.blk,λh=>by simpa using hO.box h,λh=>by simpa using hO.row h,λi x hi=> ?_⟩;obtain⟨u,h1,h2,h3⟩:=hO.cells i (.p x) (by grind);unfold aW at h3;grind
  refine(hcall _ w b c arr us (λb' o' x hx=>⟨hx.1,λe=>by subst e;have:=hx.2.1 s c hρ;grind⟩) hL hnc hA).mono ?_;rintro e w' ⟨arr',rfl,hL',hG⟩;have hold:∀k,k<w.heap.size->k≠b->w'.heap[k]? =w.heap[k]? :=λk h1 h2=>hG.block k h1 (by grind);have hmono:∀b' o' x,bF C0 B w ρ g b' o' x->bF C0 B w' ρ (bC g [(s,some ⟨ty,esz,cells'.map .p⟩)]) b' o' x:=by
   intro b' o' x ⟨e1,e2,e0⟩;have hne:b'≠b:=λe=>by grind
   refine⟨(jI (hold b' (jz w ⟨b',o',none⟩ e1) hne)).trans e1,?_,e0⟩;intro s' c' e3;by_cases e:s'=s
   .grind
   .grind
  refine⟨_,rfl,ρ,λ_ _=>rfl,hmono,?_,by rfl,⟨hG.os,hG.tape,hG.output,hG.size,by grind⟩⟩;refine hs.step (by grind) (λ_ _ h=>h) hmono ?_ ?_ λk es clock hk=>hold k (qz hk) (uj hk hO.blk)
  .intro s' o' b' c' e1 e2 e3;refine hold b' (by grind) λe=> ?_;subst e;have:=hs.inj s s' _ o' b' c c' hgs e2 hρ e3;grind
  .intro s' o' e;obtain⟨rfl,rfl⟩:=hat s' o' e;refine⟨some b,c,hρ,.inr ⟨b,arr',rfl,hBb,⟨hL'.blk,λh=>by simpa using hL'.box h,λh=>by simpa using hL'.row h,?_⟩,?_⟩⟩
   .intro i x hi;rw[gW]at hi;cases hc:cells'[i]? with
    |none=>grind
    |some y=>
     rw[hc]at hi;simp only[eO,fc]at hi;subst hi;obtain⟨u,h1,h2,h3⟩:=hL'.cells i y hc;exact⟨u,h1,h2,by exact aX.mono hmono y u h3⟩
   .intro s2 o' c' hne e3 e4;rw[hup s2 hne]at e3;exact hne (hs.inj s' s2 _ o' b c c' hgs e3 hρ e4).symm
 rcases hkind with⟨rfl,he⟩|⟨rfl,he⟩
 .obtain⟨b,c,hρ,hv⟩:=hv;exact real b c hρ hv (by grind)
 .obtain⟨q,c,hρ,⟨rfl,hv,rfl,_⟩|⟨b,o',c',rfl,hv,h5,h6,h7⟩⟩:=hv
  .subst hv;have hcn:cells'=[] :=by
    obtain⟨q,c2,h1,⟨_,h2|h2⟩|⟨b,arr,h2,_⟩⟩:=hs.ob s _ hgs
    rotate_left
    .grind
    rotate_left
    .have:(cells.map AV.p)=[] :=h2.2.1;have:cells.length=0:=by simpa using congrArg dA this
     grind
    .grind
   refine(hnil rfl _ w us (λb' o' x hx=>hx.1) hA).mono ?_;rintro e w' ⟨rfl,hb⟩;have hold:∀k,k<w.heap.size->w'.heap[k]? =w.heap[k]? :=λk hk=>hb.block k hk;have hmono:∀b' o' x,bF C0 B w ρ g b' o' x->bF C0 B w' ρ (bC g [(s,some ⟨ty,esz,cells'.map .p⟩)]) b' o' x:=by
    intro b' o' x ⟨e1,e2,e0⟩;refine⟨(jI (hold b' (jz w ⟨b',o',none⟩ e1))).trans e1,?_,e0⟩;intro s' c' e3;by_cases e:s'=s
    .grind
    .grind
   refine⟨_,rfl,ρ,λ_ _=>rfl,hmono,?_,by rfl,hb.mono hB⟩;refine hs.step (by grind) (λ_ _ h=>h) hmono (by grind) ?_ (by grind);intro s' o' e;obtain⟨rfl,rfl⟩:=hat s' o' e;obtain⟨q,c2,h1,⟨_,h2|h2⟩|⟨b,arr,h2,_⟩⟩:=hs.ob s' _ hgs
   .grind
   .grind
   grind
  .obtain⟨rfl,rfl⟩:=h7 rfl;exact real b c' hρ hv (by grind)
def W2{c:Call}{f:Operand}{fid:FuncId}{first caps:List AV}(hfm:f∈o.op.operands.toList)(ham:∀x∈c.args.toList,x∈o.op.operands.toList)(ho:o.op= .call c)(hc:c.callee= .value f)
  (hfv:∀ρ C v,aW ρ C (E f) v->∃vs1 vs2:List Value,v= .func (.func fid) vs1.toArray vs2.toArray/\bB ρ C first vs1/\bB ρ C caps vs2) {K:Res}
  (h:Fu P σ fid (first++c.args.toList.map E++caps) K):∃r R W,bR P o E σ n r R W/\K r R W:=by
 have hrun:jo P fid=true->∀(ρ:Ren) (C:bG) (V:Nat->Value) (w:World),(∀x∈o.op.operands.toList,aW ρ C (E x) (bK V x))->∃us,(execOp (bK V) o).run P w= .ok (.enter fid us.toArray) w/\bB ρ C (first++c.args.toList.map E++caps) us:=by
  intro hok ρ C V w hE;obtain⟨vs1,vs2,hv,q1,q2⟩:=hfv _ _ _ (hE f hfm);have hargs:∀l:List Operand,(∀x∈l,x∈o.op.operands.toList)->bB ρ C (l.map E) (l.map (bK V)):=by
   intro l;induction l with
   |nil=>intro _;rfl
   |cons x l ih=>
    unfold bB;grind
  refine⟨vs1++c.args.toList.map (bK V)++vs2,?_,(q1.append (hargs _ ham)).append q2⟩;unfold execOp;rw[ho];have e2:vs1.toArray++tZ (bK V) c.args++vs2.toArray=(vs1++c.args.toList.map (bK V)++vs2).toArray:=by apply pN.1;simp
  simp only[resolve,hc,hv,tc,cp,db,ct,invoke,lK hok,e2]
 generalize first++c.args.toList.map E++caps=avs at h hrun
 unfold Fu at h;split at h
 .obtain⟨ty,cells,hob,A,cells',hA,hS,hK⟩:=h;refine⟨_,_,_,K7 (n0:=0) hob hS (by grind) ?_,hK⟩;intro ρ C V w hE;obtain⟨us,h1,h2⟩:=hrun hS.1 ρ C V w hE;obtain⟨v,r,rfl,h3,h4⟩:=h2;exact⟨v,r,h1,qo hA h4,h3⟩
 .rename_i s k rest;obtain⟨ty,esz,cells,hob,he,A,cells',hA,hS,hK⟩:=h;refine⟨_,_,_,K7 (n0:=k) hob hS (by grind) ?_,hK⟩;intro ρ C V w hE;obtain⟨us,h1,h2⟩:=hrun hS.1 ρ C V w hE;obtain⟨v,r,rfl,h3,h4⟩:=h2;exact⟨v,r,h1,qo hA h4,h3⟩
 grind
def Ym{c:Call}{f:Operand}(ho:o.op= .call c)(hc:c.callee= .value f){K:Res}(h:B5 P σ (E f) (c.args.toList.map E) K):∃r R W,bR P o E σ n r R W/\K r R W:=by
 have hfm:f∈o.op.operands.toList:=by rw[ho];simp[ce,jY,hc]
 have ham:∀x∈c.args.toList,x∈o.op.operands.toList:=by intro x hx;rw[ho];simp[ce,jY];exact .inr (by grind)
 have key:∀(fid:FuncId) (first caps:List AV),(∀ρ C v,aW ρ C (E f) v->∃vs1 vs2:List Value,v= .func (.func fid) vs1.toArray vs2.toArray/\bB ρ C first vs1/\bB ρ C caps vs2)->
   pj P σ fid (first++c.args.toList.map E++caps) K->∃r R W,bR P o E σ n r R W/\K r R W:=by
  intro fid first caps hfv hgo
  refine Or.elim hgo ?_ (λhgo=>W2 hfm ham ho hc hfv hgo);rintro⟨A,hA,fr,r,hsat,hcase⟩;have sim:∀W:List (Nat×Option Ob),(W=[]/\(fr=true\/bM (first++c.args.toList.map E++caps)=some A))\/W=(bO (cO 3 σ) (first++c.args.toList.map E++caps)).map (·,none)->bR P o E σ n (.p r) (bO (cO 3 σ) (first++c.args.toList.map E++caps)) W:= ?_
  .grind
  intro W hW;intro C0 ρ g V w B hs hB hR hn hgn hE;obtain⟨vs1,vs2,hv,q1,q2⟩:=hfv _ _ _ (hE f hfm);have hargs:∀l:List Operand,(∀x∈l,x∈o.op.operands.toList)->bB ρ (bF C0 B w ρ g) (l.map E) (l.map (bK V)):=by
   intro l;induction l with
   |nil=>intro _;rfl
   |cons x l ih=>
    unfold bB;grind
  have hall:=(q1.append (hargs _ ham)).append q2;obtain⟨hok,hcalls⟩:=hsat;have hrun:(execOp (bK V) o).run P w= .ok (.enter fid (vs1++c.args.toList.map (bK V)++vs2).toArray) w:=by
   unfold execOp;rw[ho];have e2:vs1.toArray++tZ (bK V) c.args++vs2.toArray=(vs1++c.args.toList.map (bK V)++vs2).toArray:=by apply pN.1;simp
   simp only[resolve,hc,hv,tc,cp,db,ct,invoke,lK hok,e2]
  have hlive:∀s ob b c,g s=some ob->ρ s=some (some b,c)->b<w.heap.size:=by intro s ob b c e1 e2;obtain⟨_,arr,e3⟩:=hs.at e1 e2;exact e3.lt
  have hnone:∀s x,W.lookup s=some x->W.lookup s=some none:=by
   intro s x h;rcases hW with⟨rfl,_⟩|rfl
   .simp at h
   .have key:∀l:List Nat,(l.map (·,(none:Option Ob))).lookup s=some x->x=none:=by
     intro l;induction l with
     |nil=>grind
     |cons k l ih=>
      grind
    grind
  have hdrop:∀b o' x,bF C0 B w ρ g b o' x->bF C0 B w ρ (bC g W) b o' x:=by
   intro b o' x ⟨e1,e2,e0⟩;refine⟨e1,λs c' e3=> ?_,e0⟩;unfold bC;split
   .grind
   .grind
  unfold cN;rw[hrun];dsimp only;have fin:∀(C:bG),(∀b o v,C b o v->w.cell? ⟨b,o,none⟩=some v)->az C A (vs1++c.args.toList.map (bK V)++vs2)->(fr=false->∀b o v,C b o v->bF C0 B w ρ (bC g W) b o v)->
    Calls P fid (vs1++c.args.toList.map (bK V)++vs2).toArray w λe w''=>∃v,e= .returned v/\∃ρ':Ren,(∀s,cls s≠n->ρ' s=ρ s)/\(∀b o' x,bF C0 B w ρ g b o' x->bF C0 B w'' ρ' (bC g W) b o' x)/\StR C0 ρ' (bC g W) w'' B/\aW ρ' (bF C0 B w'' ρ' (bC g W)) (.p r) v/\Below B w w'':=by
   intro C hC hrep hCC;refine(hcalls C w _ hC hrep).mono ?_;rintro e w' ⟨v,rfl,hr,hbel⟩;have hold:∀b,b<w.heap.size->w'.heap[b]? =w.heap[b]? :=λb hb=>hbel.block b hb;have hmono:∀b o' x,bF C0 B w ρ (bC g W) b o' x->bF C0 B w' ρ (bC g W) b o' x:=by intro b o' x ⟨e1,e2,e0⟩;exact⟨(jI (hold b (jz w ⟨b,o',none⟩ e1))).trans e1,e2,e0⟩
   refine⟨v,rfl,ρ,λ_ _=>rfl,by grind,?_,?_,hbel.mono hB⟩
   .refine hs.step (by grind) (λ_ _ h=>h) (by grind) ?_ (by grind) (by grind);grind
   .refine aX.mono ?_ r v hr;rintro b o' x (⟨h1,h2⟩|⟨h1,h2⟩)
    .grind
    .refine⟨h2,?_,by grind⟩;intro s c' e3;unfold bC;split
     .grind
     .cases hgs:g s with
      |none=>rfl
      |some ob=>grind
  have hsnap:∀(T:bG),(∀b o v,bF C0 B w ρ g b o v->T b o v)->(∀s ob b c2,s∈bO (cO 3 σ) (first++c.args.toList.map E++caps)->g s=some ob->ρ s=some (some b,c2)->B<=b->∀o v,w.cell? ⟨b,o,none⟩=some v->T b o v)->
    az T A (vs1++c.args.toList.map (bK V)++vs2):=by
   intro T hT1 hT2;obtain⟨g1,g2⟩:=oH hA;refine az.of _ _ (by rw[<-g1];exact hall.length) λi y hi=> ?_;have hlt:i<(first++c.args.toList.map E++caps).length:=by rw[g1];grind
   obtain⟨y',h5,h6⟩:=g2 i _ (dp hlt);rw[hi]at h5;cases h5;obtain⟨v,k1,k2⟩:=hall.get _ _ i _ (dp hlt);exact⟨v,k1,Eh hs T (λs=>s∈bO (cO 3 σ) (first++c.args.toList.map E++caps)) hT1 hT2 3 _ _ v h6 (λs hs'=>⟨ny (by grind) hs',hR s (ny (by grind) hs')⟩) k2⟩
  rcases hW with⟨rfl,h⟩|rfl
  .cases fr with
   |true=>exact fin (aBn C0 B w) (λb o v h=>h.1) (hsnap _ (λb o v h=>⟨h.1,h.2.2⟩) (λs ob b c _ _ _ hb o v h=>⟨h,.inl hb⟩)) (by grind)
   |false=>
    rcases h with h|h
    .cases h
    .exact fin (bF C0 B w ρ g) (λb o v h=>h.1) (qo h hall) (by grind)
  .refine fin (bF C0 B w ρ (bC g ((bO (cO 3 σ) (first++c.args.toList.map E++caps)).map (·,none)))) (λb o v h=>h.1) (hsnap _ hdrop ?_) (by grind);intro s ob b c' hsm e1 e2 hb o' v e3;have hmem:∀l:List Nat,s∈l->(l.map (·,(none:Option Ob))).lookup s=some none:=by
    intro l;induction l with
    |nil=>grind
    |cons k l ih=>
     grind
   refine⟨e3,λs' c2 e4=> ?_,.inl hb⟩;unfold bC;split
   .grind
   .cases hg':g s' with
    |none=>rfl
    |some ob'=>
     have:=hs.inj s s' ob ob' b c' c2 e1 hg' e2 e4;grind
 unfold B5 at h;split at h
 .rename_i fid first caps e
  refine key fid first caps (λρ C v hv=> ?_) h
  rw[e]at hv;exact hv
 .rename_i fid first caps e
  refine key fid _ _ (λρ C v hv=> ?_) h;rw[e]at hv;obtain⟨vs1,vs2,h1,h2,h3⟩:=hv;exact⟨vs1,vs2,h1,h2.toA,h3.toA⟩
 grind
end
def yO(v:Value)(us:List Value):Value:=match us with
 |[] =>v
 |us=> .tuple (v::us).toArray
def oc(C:bG)(N:Nat)(q:Option Nat)(w':World):bG:=λb o x=>C b o x\/(N<=b/\q≠some b/\w'.cell? ⟨b,o,none⟩=some x)
def vS(P:Program)(f:FuncId)(A:List PV)(ty esz:Nat)(cells:List PV)(m:Nat)(ys:List PV):Prop:=jo P f=true/\esz≠0/\
 ∀(C:bG) (w:World) (vs:List Value),(∀b o v,C b o v->w.cell? ⟨b,o,none⟩=some v)->az C A vs->
  Calls P f vs.toArray w λe w'=>∃v us q c,e= .returned (yO v us)/\Below w.heap.size w w'/\az (oc C w.heap.size q w') ys us/\
   ((q=none/\v= .slice none 0 0/\m=0/\cells=[]/\c=0)\/∃b arr,q=some b/\v= .slice (some ⟨b,0,none⟩) m c/\m<=c/\w.heap.size<=b/\w'.heap[b]? =some (.cells arr ty (0,0))/\
     arr.size=c*esz/\cells.length<=arr.size/\c<=maxLen/\∀(i:Nat) x,cells[i]? =some x->∃u,arr[i]? =some u/\u.oneCell'=true/\aX (oc C w.heap.size q w') x u)
def CD(n m:Nat)(ys:List PV):AV:=match ys with
 |[] => .own (sit n 0) 0 m
 |ys=> .tup (.own (sit n 0) 0 m::ys.map .p)
def Hv(P:Program)(f:FuncId)(A:List PV)(ty esz:Nat)(cells:List PV)(m:Nat)(ys:List PV):Prop:=jo P f=true/\esz≠0/\
 ∀(C:bG) (w:World) (vs:List Value),(∀b o v,C b o v->w.cell? ⟨b,o,none⟩=some v)->az C A vs->
  Calls P f (Value.slice none 0 0::vs).toArray w λe w'=>∃v us q c,e= .returned (yO v us)/\Below w.heap.size w w'/\az (oc C w.heap.size q w') ys us/\
   ((q=none/\v= .slice none 0 0/\m=0/\cells=[]/\c=0)\/∃b arr,q=some b/\v= .slice (some ⟨b,0,none⟩) m c/\m<=c/\w.heap.size<=b/\w'.heap[b]? =some (.cells arr ty (0,0))/\
     arr.size=c*esz/\cells.length<=arr.size/\c<=maxLen/\∀(i:Nat) x,cells[i]? =some x->∃u,arr[i]? =some u/\u.oneCell'=true/\aX (oc C w.heap.size q w') x u)
def At(P:Program)(n:Nat)(f:FuncId)(avs:List AV)(K:Res):Prop:=
 ∃A ty esz cells m ys,((bM avs=some A/\vS P f A ty esz cells m ys)\/∃r,avs= .nil::r/\bM r=some A/\Hv P f A ty esz cells m ys)/\K (CD n m ys) [] [(sit n 0,some ⟨ty,esz,cells.map .p⟩)]
def B0(P:Program)(n:Nat)(fv:AV)(args:List AV)(K:Res):Prop:=match fv with
 | .fn (.func f) first caps=>At P n f (first++args++caps) K
 | .p (.fn (.func f) first caps)=>At P n f (first.map .p++args++caps.map .p) K
 |_=>False
section
variable {P:Program} {o:Oper} {E:Operand->AV} {σ:Nat->Option Ob} {n:Nat}
def az.Pm{ρ:Ren}{C:bG}:∀{l:List PV} {vs:List Value},az C l vs->bB ρ C (l.map .p) vs
 |[],vs,h=>by exact h
 |x::l,vs,h=>by
  obtain⟨v,r,rfl,h2,h3⟩:=h;exact⟨v,r,rfl,by exact h2,az.Pm h3⟩
def Wz{c:Call}{f:Operand}(ho:o.op= .call c)(hc:c.callee= .value f){K:Res}(h:B0 P n (E f) (c.args.toList.map E) K):∃r R W,bR P o E σ n r R W/\K r R W:=by
 have hfm:f∈o.op.operands.toList:=by rw[ho];simp[ce,jY,hc]
 have ham:∀x∈c.args.toList,x∈o.op.operands.toList:=by intro x hx;rw[ho];simp[ce,jY];exact .inr (by grind)
 have key:∀(fid:FuncId) (first caps:List AV),(∀ρ C v,aW ρ C (E f) v->∃vs1 vs2:List Value,v= .func (.func fid) vs1.toArray vs2.toArray/\bB ρ C first vs1/\bB ρ C caps vs2)->
   At P n fid (first++c.args.toList.map E++caps) K->∃r R W,bR P o E σ n r R W/\K r R W:=by
  intro fid first caps hfv ⟨A,ty,esz,cells,m,ys,hA,hK⟩
  obtain⟨hok,he,hcalls⟩:jo P fid=true/\esz≠0/\∀(ρ:Ren) (C:bG) (w:World) (vs:List Value),(∀b o v,C b o v->w.cell? ⟨b,o,none⟩=some v)->bB ρ C (first++c.args.toList.map E++caps) vs->
   Calls P fid vs.toArray w λe w'=>∃v us q c,e= .returned (yO v us)/\Below w.heap.size w w'/\az (oc C w.heap.size q w') ys us/\
    ((q=none/\v= .slice none 0 0/\m=0/\cells=[]/\c=0)\/∃b arr,q=some b/\v= .slice (some ⟨b,0,none⟩) m c/\m<=c/\w.heap.size<=b/\w'.heap[b]? =some (.cells arr ty (0,0))/\
      arr.size=c*esz/\cells.length<=arr.size/\c<=maxLen/\∀(i:Nat) x,cells[i]? =some x->∃u,arr[i]? =some u/\u.oneCell'=true/\aX (oc C w.heap.size q w') x u):=by
   rcases hA with⟨hA,h1,h2,h3⟩|⟨r,hr,hA,h1,h2,h3⟩
   .exact⟨h1,h2,λρ C w vs hC h=>h3 C w vs hC (qo hA h)⟩
   .refine⟨h1,h2,λρ C w vs hC h=> ?_⟩;rw[hr]at h;obtain⟨v,vs',rfl,h4,h5⟩:=h;subst h4;exact h3 C w vs' hC (qo hA h5)
  refine⟨_,_,_,?_,hK⟩;intro C0 ρ g V w B hs hB hR hn hgn hE;have hn:=hn _ (iH n 0);have hgn:=hgn _ (iH n 0);have hcl:∀s,cls s≠n->s≠sit n 0:=λs h e=>h (by rw[e];exact iH n 0);obtain⟨vs1,vs2,hv,q1,q2⟩:=hfv _ _ _ (hE f hfm);have hargs:∀l:List Operand,(∀x∈l,x∈o.op.operands.toList)->bB ρ (bF C0 B w ρ g) (l.map E) (l.map (bK V)):=by
   intro l;induction l with
   |nil=>intro _;rfl
   |cons x l ih=>
    unfold bB;grind
  have hall:=(q1.append (hargs _ ham)).append q2;have hrun:(execOp (bK V) o).run P w= .ok (.enter fid (vs1++c.args.toList.map (bK V)++vs2).toArray) w:=by
   unfold execOp;rw[ho];have e2:vs1.toArray++tZ (bK V) c.args++vs2.toArray=(vs1++c.args.toList.map (bK V)++vs2).toArray:=by apply pN.1;simp
   simp only[resolve,hc,hv,tc,cp,db,ct,invoke,lK hok,e2]
  have hlive:∀s ob b c,g s=some ob->ρ s=some (some b,c)->b<w.heap.size:=by intro s ob b c e1 e2;obtain⟨_,arr,e3⟩:=hs.at e1 e2;exact e3.lt
  unfold cN;rw[hrun];dsimp only;refine(hcalls ρ (bF C0 B w ρ g) w _ (λb o v h=>h.1) hall).mono ?_;rintro e w' ⟨v,us,q,c,rfl,hbel,hys,hrow⟩;have hqb:∀b,q=some b->w.heap.size<=b:=by
   intro b hb;rcases hrow with⟨h1,_⟩|⟨b',arr,h1,_,_,h4,_⟩
   .grind
   .grind
  have hold:∀b,b<w.heap.size->w'.heap[b]? =w.heap[b]? :=λb hb=>hbel.block b hb;unfold CD;generalize hnS:sit n 0=nS at*
  let ρ':Ren:=λs=>if s=nS then some (q,c)else ρ s
  have hρn:ρ' nS=some (q,c):=if_pos rfl;have hρs:∀s,s≠nS->ρ' s=ρ s:=by grind
  have hup:∀s,s≠nS->bC g [(nS,some ⟨ty,esz,cells.map .p⟩)] s=g s:=by intro s h;unfold bC;simp[iE,beq_eq_false_iff_ne.2 h]
  have hmono:∀b o' x,bF C0 B w ρ g b o' x->bF C0 B w' ρ' (bC g [(nS,some ⟨ty,esz,cells.map .p⟩)]) b o' x:=by
   intro b o' x ⟨e1,e2,e0⟩;have hlt:=jz w ⟨b,o',none⟩ e1;refine⟨(jI (hold b hlt)).trans e1,λs c' e3=> ?_,e0⟩;by_cases hsn:s=nS
   .grind
   .grind
  have hkeep:∀b o' x,oc (bF C0 B w ρ g) w.heap.size q w' b o' x->bF C0 B w' ρ' (bC g [(nS,some ⟨ty,esz,cells.map .p⟩)]) b o' x:=by
   rintro b o' x (h1|⟨h1,h2,h3⟩)
   .grind
   .refine⟨h3,λs c' e3=> ?_,by grind⟩;by_cases hsn:s=nS
    .grind
    .rw[hup s hsn];cases hgs:g s with
     |none=>rfl
     |some ob=>grind
  refine⟨_,rfl,ρ',by grind,hmono,?_,?_,hbel.mono hB⟩
  .refine hs.step (by grind) (by grind) hmono ?_ ?_ (by grind)
   .grind
   .intro s o' hso;have hsn:s=nS:=by
     rcases pO s nS with h|h
     .grind
     .exact h
    subst hsn;simp[iE]at hso;subst hso;refine⟨q,c,hρn,?_⟩;rcases hrow with⟨h1,h2,h3,h4,h5⟩|⟨b,arr,h1,h2,h3,h4,h5,h6,h7,h8,h9⟩
    .grind
    .refine .inr ⟨b,arr,h1,by grind,⟨h5,by grind,by grind,λi x hi=> ?_⟩,λs' o2 c' hne hg' hr'=> ?_⟩
     .rw[gW]at hi;cases hci:cells[i]? with
      |none=>grind
      |some y=>
       rw[hci]at hi;simp only[eO,fc]at hi;subst hi;obtain⟨u,k1,k2,k3⟩:=h9 i y hci;exact⟨u,k1,k2,by exact aX.mono hkeep y u k3⟩
     grind
  .have hown:aW ρ' (bF C0 B w' ρ' (bC g [(nS,some ⟨ty,esz,cells.map .p⟩)])) (.own nS 0 m) v:=by
    unfold aW;refine⟨q,c,hρn,?_⟩;rcases hrow with⟨h1,h2,h3,_⟩|⟨b,arr,h1,h2,h3,_⟩
    .grind
    .grind
   have hys2:bB ρ' (bF C0 B w' ρ' (bC g [(nS,some ⟨ty,esz,cells.map .p⟩)])) (ys.map .p) us:=(az.mono hkeep ys us hys).Pm;cases ys with
   |nil=>
    have:us=[] :=by have:=hys.length;simpa using this
    subst this;exact hown
   |cons y ys=>
    have hne:us≠[] :=λh=>by have:=hys.length;grind
    cases us with
    |nil=>grind
    |cons u us=>
     refine⟨v::u::us,rfl,?_⟩;unfold bB;grind
 unfold B0 at h;split at h
 .rename_i fid first caps e
  refine key fid first caps (λρ C v hv=> ?_) h
  rw[e]at hv;exact hv
 .rename_i fid first caps e
  refine key fid _ _ (λρ C v hv=> ?_) h;rw[e]at hv;obtain⟨vs1,vs2,h1,h2,h3⟩:=hv;exact⟨vs1,vs2,h1,h2.toA,h3.toA⟩
 grind
end
end
section
section
variable {P:Program} {o:Oper} {E:Operand->AV} {σ:Nat->Option Ob} {n:Nat}
def Pn(P:Program)(n:Nat)(t:TypeId)(x y:AV)(K:Res):Prop:=∃(k1 k2:IntKind) (m:Nat) (e:TypeId) (z:List AV) (i:TypeInfo),x= .p (.int k1 m)/\y= .p (.int k2 m)/\dD P t=some e/\P.info? e=some i/\
 pu P e=some z/\pq P e=true/\z≠[]/\m*af P e<=1000000/\m*i.bytes<=1000000000/\K (.own (sit n 0) 0 m) [] [(sit n 0,some ⟨e,af P e,mU m z⟩)]
def Lj{t e:TypeId}{i:TypeInfo}{zv:Value}{m:Nat}{k1 k2:IntKind}(he:dD P t=some e)(hi:P.info? e=some i)(hiz:i.zero=some zv)(hsz:af P e=zv.cells.size)(hpos:0<zv.cells.size)(h1:m*af P e<=1000000)(h2:m*i.bytes<=1000000000)(w:World):
  (Instr.makeSlice t (.int k1 m) (.int k2 m)).run P w= .ok (.slice (some ⟨w.heap.size,0,none⟩) m m) (w.alloc (.cells (cS m zv.cells.toList).flatten.toArray e)):=by
 have hm:m<=1000000:=by have:m<=m*af P e:=SY _ (by omega);omega
 have wl:i7.wrap (m:Int)=m:=by rw[IntKind.wrap_i64];omega
 have n1:¬(m:Int)<0:=by omega
 have n2:¬(281474976710656<(i.bytes:Int)*m):=by have h3:((m*i.bytes:Nat):Int)<=((1000000000:Nat):Int):=Int.ofNat_le.2 h2;rw[Nat.mul_comm,Int.natCast_mul]at h3;omega
 have n4:¬(m:Int)<m:=by omega
 have e3:∀w:World,(sizeOf e).run P w= .ok (af P e) w:=λw=>by simp[sizeOf,typeInfo,hi,af]
 have e4:∀w:World,(zeroValue e).run P w= .ok zv w:=λw=>by simp[zeroValue,typeInfo,hi,hiz]
 have e5:(if m*af P e=0 then #[]else(IM (m*af P e)).map (λj=>zv.cells[j % zv.cells.size]!))=(cS m zv.cells.toList).flatten.toArray:=by
  split
  .rename_i h0;have:m=0:=by
    rcases IK.1 h0 with h|h
    .exact h
    .omega
   grind
  .rw[hsz];apply pN.1;rw[Lp zv.cells hpos m]
 rw[<-e5];by_cases h0:m*af P e=0
 .have:m=0:=by
   rcases IK.1 h0 with h|h
   .exact h
   .omega
  subst this;have w0:i7.wrap 0=0:=by simpa using wl
  simp[w0,Instr.makeSlice,asInt,asIntOf,run_underlying (lO he),typeInfo,hi,askRoom,newRow,sizeOf];grind
 .simp[Instr.makeSlice,asInt,asIntOf,run_underlying (lO he),typeInfo,hi,wl,n1,n2,n4,askRoom,e3,e4,h0,newRow]
def YC{t:TypeId}{a b:Operand}(ho:o.op= .makeSlice t a b){K:Res}(h:Pn P n t (E a) (E b) K):∃r R W,bR P o E σ n r R W/\K r R W:=by
 obtain⟨k1,k2,m,e,z,i0,ha,hb,he,hi0,hz,hz1,hne,h1,h2,hK⟩:=h;refine⟨_,_,_,bR.alloc ?_,hK⟩;intro ρ C V w hE;obtain⟨i,zv,hi,hiz,hsz,hone,rfl⟩:=wZ hz hz1;rw[hi0]at hi;cases hi;have hsize:af P e=zv.cells.size:=by simp[af,hi0,hsz]
 have hpos:0<zv.cells.size:=by
  rcases qN zv.cells.size with h|h
  .grind
  .exact h
 have hones:gi (cS m zv.cells.toList).flatten:=by intro u hu;simp only[k9,SX]at hu;obtain⟨l',⟨_,rfl⟩,hu⟩:=hu;exact hone u hu
 have va:bK V a= .int k1 m:=by have:=hE a (by rw[ho];simp[ce]);rw[ha]at this;unfold aW at this;unfold aX at this;exact this
 have vb:bK V b= .int k2 m:=by have:=hE b (by rw[ho];simp[ce]);rw[hb]at this;unfold aW at this;unfold aX at this;exact this
 have hlen:(cS m zv.cells.toList).flatten.length=m*af P e:=by rw[hsize];simp
 have hl2:(mU m (zv.cells.toList.map kT)).length=m*af P e:=by rw[DJ,da,ym,hsize]
 refine⟨.slice (some ⟨w.heap.size,0,none⟩) m m,(cS m zv.cells.toList).flatten.toArray,m,?_,λh=>by grind,λ_=> ?_,?_,hones,λρ' C' h=> ?_⟩
 .unfold execOp;rw[ho];dsimp only;rw[va,vb];have:=Lj (k1:=k1) (k2:=k2) he hi0 hiz hsize hpos h1 h2 w;simp[this]
 .refine⟨?_,?_,?_⟩
  .omega
  .grind
  .have:m<=m*af P e:=SY _ (by omega);unfold maxLen;omega
 .rw[fT (by grind)];exact D5 _ m
 .unfold aW;grind
def DA{α:Type}(g0:Nat->Nat)(x:α)(s:Nat):∀l:List Nat,(l.map λi=>(g0 i,x)).lookup s=if s∈l.map g0 then some x else none
 |[] =>rfl
 |i::l=>by
  rw[dB,dV,DA g0 x s l,dB];grind
def bR.fam{r:AV}{ob iob:Ob}{g0:Nat->Nat}{m0:Nat}(hi1:iob.esz≠0)(hi2:iob.cells=[])(hg0:∀i,cls (g0 i)=n)(hg1:∀i,g0 i≠sit n 0)
  (h:∀(ρ:Ren) (C:bG) (V:Nat->Value) (w:World),(∀x∈o.op.operands.toList,aW ρ C (E x) (bK V x))->
  ∃v arr c,(execOp (bK V) o).run P w= .ok (.value v) (w.alloc (.cells arr ob.ty))/\(ob.esz=0->arr.size=ob.cells.length)/\(ob.esz≠0->arr.size=c*ob.esz/\ob.cells.length<=arr.size/\c<=maxLen)/\
   gi arr.toList/\∀(ρ':Ren) (C':bG),ρ' (sit n 0)=some (some w.heap.size,c)->(∀i,i<m0->ρ' (g0 i)=some (none,0))->bB ρ' C' ob.cells (arr.toList.take ob.cells.length)/\aW ρ' C' r v):
  bR P o E σ n r [] ((sit n 0,some ob)::(bQ m0).map λi=>(g0 i,some iob)):=by
 intro C0 ρ g V w B hs hB _ hn hgn hE;have hcl:∀s,cls s≠n->s≠sit n 0:=λs h e=>h (by rw[e];exact iH n 0);have hcl2:∀s,s∈(bQ m0).map g0->cls s=n:=λs hs=>by grind
 have hmem:∀i,i<m0->g0 i∈(bQ m0).map g0:=λi hi=>List.mem_map_of_mem (cG.2 hi);have hm:cls (sit n 0)=n:=iH n 0;generalize sit n 0=m at*;obtain⟨v,arr,c,hrun,h1,h2,h4,h5⟩:=h ρ _ V w hE;unfold cN;rw[hrun];dsimp only;have hblk:(w.alloc (.cells arr ob.ty)).heap[w.heap.size]? =some (.cells arr ob.ty (0,0)):=heap_alloc_new w _;generalize hM:(bQ m0).map g0=M at*
 let ρ':Ren:=λs=>if s=m then some (some w.heap.size,c)else if s∈M then some (none,0)else ρ s
 have hext:∀s q,ρ s=some q->ρ' s=some q:=by intro s q hq;show(if s=m then _ else _)=_;rw[if_neg (λe=>by grind),if_neg (λe=>by grind)];exact hq
 have hlt:∀s ob b c,g s=some ob->ρ s=some (some b,c)->b<w.heap.size:=by intro s ob b c e1 e2;obtain⟨_,arr,e3⟩:=hs.at e1 e2;exact e3.lt
 have hold:∀b,b<w.heap.size->(w.alloc (.cells arr ob.ty)).heap[b]? =w.heap[b]? :=λb hb=>Below.heap_alloc w _ b hb;generalize hW:((m,some ob)::(bQ m0).map λi=>(g0 i,some iob))=W;have hlk:∀s,W.lookup s=if s=m then some (some ob)else if s∈M then some (some iob)else none:=by
  intro s;rw[<-hW,dV,DA,hM];by_cases e:s=m
  .grind
  .grind
 have hup:∀s,s≠m->s∉M->bC g W s=g s:=by intro s h1 h2;unfold bC;rw[hlk,if_neg h1,if_neg h2]
 have hmono:∀b o' x,bF C0 B w ρ g b o' x->bF C0 B (w.alloc (.cells arr ob.ty)) ρ' (bC g W) b o' x:=by
  intro b o' x ⟨e1,e2,e0⟩;have hb:b<w.heap.size:=jz w ⟨b,o',none⟩ e1;refine⟨(jI (hold b hb)).trans e1,?_,e0⟩;intro s c' e3;by_cases e:s=m
  .grind
  .grind
 have k5:=λC'=>h5 ρ' C' (by simp[ρ']) (λi hi=>by grind)
 refine⟨ρ',λs hs=> ?_,hmono,?_,(k5 _).2,(Below.refl B w).alloc hB _⟩
 .grind
 refine hs.step ?_ hext hmono ?_ ?_ λc es clock hc=>hold c (qz hc)
 .grind
 .grind
 .intro s ob' e;rw[hlk]at e;by_cases e1:s=m
  .rw[if_pos e1]at e;subst e1;have e2:ob'=ob:=by cases e;rfl
   subst e2;refine⟨some w.heap.size,c,by simp[ρ'],.inr ⟨w.heap.size,arr,rfl,hB,⟨hblk,h1,h2,?_⟩,?_⟩⟩
   .intro i x hi;obtain⟨u,g1,g2⟩:=(k5 _).1.get _ _ i x hi;rw[pD]at g1;split at g1
    .exact⟨u,by grind,h4 u (List.mem_of_getElem? g1),g2⟩
    .cases g1
   grind
  .rw[if_neg e1]at e;by_cases e':s∈M
   .rw[if_pos e']at e;cases e;exact⟨none,0,by grind,.inl ⟨rfl,hi1,hi2,rfl⟩⟩
   grind
def Ow(P:Program)(n:Nat)(t:TypeId)(x y:AV)(K:Res):Prop:=∃(g0:Nat->Nat) (ity:TypeId) (wd:Nat) (k1 k2:IntKind) (m:Nat) (e:TypeId) (i:TypeInfo),x= .p (.int k1 m)/\y= .p (.int k2 m)/\dD P t=some e/\P.info? e=some i/\
 pu P e=some [.nil]/\pq P e=true/\wd≠0/\(∀i,cls (g0 i)=n)/\(∀i,g0 i≠sit n 0)/\m<=1000000/\m*i.bytes<=1000000000/\
 K (.own (sit n 0) 0 m) [] ((sit n 0,some ⟨e,1,(bQ m).map λj=> .own (g0 j) 0 0⟩)::(bQ m).map λj=>(g0 j,some ⟨ity,wd,[]⟩))
def UH{α:Type}(v:α):∀m,(cS m [v]).flatten=cS m v
 |0=>rfl
 |m+1=>by simp_all
def WN{t:TypeId}{a b:Operand}(ho:o.op= .makeSlice t a b){K:Res}(h:Ow P n t (E a) (E b) K):∃r R W,bR P o E σ n r R W/\K r R W:=by
 obtain⟨g0,ity,wd,k1,k2,m,e,i0,ha,hb,he,hi0,hz,hz1,hwd,hg0,hg1,h1,h2,hK⟩:=h;refine⟨_,_,_,bR.fam (iob:=⟨ity,wd,[]⟩) hwd rfl hg0 hg1 ?_,hK⟩;intro ρ C V w hE;obtain⟨i,zv,hi,hiz,hsz,hone,hzv⟩:=wZ hz hz1;rw[hi0]at hi;cases hi;have hnil:zv.cells.toList=[.slice none 0 0] :=by have h3:bB ρ C (zv.cells.toList.map kT) zv.cells.toList:=tn _;rw[show zv.cells.toList.map kT=[.nil]from hzv.symm]at h3;unfold bB at h3;obtain⟨v,r,h4,h5,h6⟩:=h3;unfold bB at h6;unfold aW at h5;rw[h4,h5,h6]
 have hsize:af P e=zv.cells.size:=by simp[af,hi0,hsz]
 have hs1:zv.cells.size=1:=by rw[<-ym,hnil];rfl
 have va:bK V a= .int k1 m:=by have:=hE a (by rw[ho];simp[ce]);rw[ha]at this;unfold aW at this;unfold aX at this;exact this
 have vb:bK V b= .int k2 m:=by have:=hE b (by rw[ho];simp[ce]);rw[hb]at this;unfold aW at this;unfold aX at this;exact this
 have hlist:(cS m zv.cells.toList).flatten=cS m (.slice none 0 0):=by rw[hnil,UH]
 refine⟨.slice (some ⟨w.heap.size,0,none⟩) m m,(cS m zv.cells.toList).flatten.toArray,m,?_,(λh=>absurd h Nat.one_ne_zero),λ_=> ?_,?_,λρ' C' h h'=>⟨?_,?_⟩⟩
 .unfold execOp;rw[ho];dsimp only;rw[va,vb];have:=Lj (k1:=k1) (k2:=k2) he hi0 hiz hsize (by omega) (by grind) h2 w;simp[this]
 .rw[hlist];refine⟨by simp,by simp,?_⟩;unfold maxLen;omega
 .intro u hu;simp only[k9,SX]at hu;obtain⟨l',⟨_,rfl⟩,hu⟩:=hu;exact hone u hu
 .rw[hlist];rw[fT (by simp)];refine bB.of _ _ (by simp) λj x hj=> ?_;rw[gW]at hj;by_cases hjm:j<m
  .rw[List.getElem?_range hjm]at hj;cases hj;refine⟨.slice none 0 0,by simp[hjm],?_⟩;unfold aW;grind
  grind
 .unfold aW;grind
end
end
abbrev Sto:=Nat->Option Ob
def AOp(P:Program)(n:Nat)(o:Oper)(E:Operand->AV)(σ:Nat->Option Ob)(K:Res):Prop:=match o.op with
 | .move x=>K (E x) [] []
 | .assign x=>K (E x) [] []\/(E x= .nil/\K (.p (.sl 0 [])) [] [])
 | .pick c a b=>uw (E c) (E a) (E b) λr=>K r [] []
 | .alloc t=>PO P n t K
 | .box t x=>SB n t (E x) K
 | .build t parts=>PH P t (parts.toList.map λq=>(q.1,E q.2)) λr=>K r [] []
 | .buildSlice t len parts=>OS P n t len (parts.toList.map λq=>(q.1,E q.2)) K
 | .load t x=>(match E x with
   | .p (.pro cs off)=>G8 P t cs off λr=>K (.p r) [] []
   | .ptr s off=>∃ob,σ s=some ob/\rD P t ob.cells off λr=>K r [s] []
   |_=>False)
 | .store t a x=>uf P t σ (E a) (E x) K
 | .nilCheck x=>CI (E x)=true/\K (E x) [] []
 | .binOp op t x y _=>vO P op t (E x) (E y) λr=>K r [] []
 | .unOp op _ x=>unA op (E x) λr=>K r [] []
 | .convert s d x=>Bx P s d (E x) λr=>K r [] []
 | .makeFunc f first caps=>K (.fn f (first.toList.map E) (caps.toList.map E)) [] []
 | .slice t x lo hi none=>ug P t (E x) (loA E lo 0) (loA E hi (BV (E x))) λr=>K r [] []
 | .fieldAddr t x f=>Ge P t f (E x) λr=>K r [] []
 | .field t x f=>Gc P t f (E x) λr=>K r [] []
 | .indexAddr t x i=>BY P t (E x) (E i) λr=>K r [] []
 | .extract x i=>yJ (E x) i λr=>K r [] []
 | .call {callee:= .value f,args, .. }=>B5 P σ (E f) (args.toList.map E) K\/B0 P n (E f) (args.toList.map E) K
 | .call {callee:= .builtin .len,args:=⟨[x]⟩,argTypes:=⟨[t]⟩}=>CK P t (E x) λr=>K r [] []
 | .call {callee:= .builtin .append,args:=⟨[x,y]⟩,argTypes:=⟨[t,t']⟩}=>(dD P t').isSome=true/\yV P n t σ (E x) (E y) K
 | .call {callee:= .builtin .min,args:=⟨[x,y]⟩, .. }=>mmA min (E x) (E y) λr=>K r [] []
 | .call {callee:= .builtin .max,args:=⟨[x,y]⟩, .. }=>mmA max (E x) (E y) λr=>K r [] []
 | .makeSlice t a b=>Pn P n t (E a) (E b) K\/Ow P n t (E a) (E b) K
 |_=>False
def XA{P:Program}{n:Nat}{o:Oper}{E:Operand->AV}{σ:Nat->Option Ob}{K:Res}(h:AOp P n o E σ K):∃r R W,bR P o E σ n r R W/\K r R W:=by
 have lift:∀{K':AV->Prop} {R:List Nat},(∃r,bR P o E σ n r R []/\K' r)->(∀r,K' r->K r R [])->∃r R W,bR P o E σ n r R W/\K r R W:=by grind
 unfold AOp at h;split at h
 .rename_i x ho;exact⟨_,_,_,MB (.inl ho),h⟩
 .rename_i x ho;exact Or.elim h (λh=>⟨_,_,_,MB (.inr ho),h⟩) (λh=>⟨_,_,_,Wf (.inr ho) h.1,h.2⟩)
 .rename_i ho;exact lift (Xs ho h) λ_ h=>h
 .rename_i ho;exact XC ho h
 .rename_i ho;exact aAg ho h
 .rename_i ho;exact lift (W5 ho h) λ_ h=>h
 .rename_i ho;exact VX ho h
 .rename_i ho;split at h
  .rename_i e;obtain⟨r,h1,h2⟩:=WO (o:=o) (σ:=σ) (n:=n) ho e h;grind
  .rename_i e;obtain⟨ob,h1,h2⟩:=h;obtain⟨r,h3,h4⟩:=WP (o:=o) (n:=n) ho e h1 h2;grind
  grind
 .rename_i ho;exact Vi ho h
 .rename_i ho;exact⟨_,_,_,Zb ho h.1,h.2⟩
 .rename_i ho;exact lift (aAh ho h) λ_ h=>h
 .rename_i ho;exact lift (aAn ho h) λ_ h=>h
 .rename_i ho;exact lift (Yj ho h) λ_ h=>h
 .rename_i ho;exact⟨_,_,_,X9 ho,h⟩
 .rename_i ho;exact lift (Vo ho h) λ_ h=>h
 .rename_i ho;exact lift (Wd ho h) λ_ h=>h
 .rename_i ho;exact lift (Wb ho h) λ_ h=>h
 .rename_i ho;exact lift (WV ho h) λ_ h=>h
 .rename_i ho;exact lift (Ya ho h) λ_ h=>h
 .rename_i ho;exact Or.elim h (Ym ho rfl) (Wz ho rfl)
 .rename_i ho;exact lift (Zn ho h) λ_ h=>h
 .rename_i ho;exact aAj h.1 ho h.2
 .rename_i ho;exact lift (Zh ho h) λ_ h=>h
 .rename_i ho;exact lift (Zj ho h) λ_ h=>h
 .rename_i ho;exact Or.elim h (YC ho) (WN ho)
 grind
structure St(C0:bG)(B:Nat)(wI:World)(F:List AV)(σ:Nat->Option Ob)(N:Nat)(a:Act)(w:World):Prop where
 ex:∃ρ:Ren,StR C0 ρ σ w B/\(∀s,N<=cls s->ρ s=none)/\∀t,aW ρ (bF C0 B w ρ σ) (F.getD t .any) (a.tmps.getD t Go.undef)
 le:B<=w.heap.size
 defers:a.defers=[]
 size:a.tmps.size=F.length
 below:Below B wI w
def PB(ops:List Oper)(j:Nat):((ops.map (·.dst))[j]?).join=(ops[j]?).bind (·.dst):=by grind
def gdA(ds:List (Option Nat))(F:List AV)(j:Nat):Option (Option Bool):=match(ds[j]?).join with
 |some d=>(match F.getD d .any with| .p (.bool b)=>some (some b)| .undef=>some none|_=>none)
 |none=>none
def eT(F:List AV)(d:Option Nat)(r:AV):List AV:=match d with|some d=>F.set d r|none=>F
abbrev jE:=List (List Nat×List Nat)
def inC(R Rc:List Nat):Prop:=∀s∈R,cls s∈Rc
def fA(P:Program)(N:Nat)(ds:List (Option Nat)):List Oper->Nat->List AV->Sto->jE->(List AV->Sto->jE->Prop)->Prop
 |[],_,F,L,log,K=>K F L log
 |o::rest,i,F,L,log,K=>match o.guard with
  |none=>∃r R W Rc Wc,bR P o (kC F) L (N+i) r R W/\inC R Rc/\inC (W.map (·.1)) Wc/\fA P N ds rest (i+1) (eT F o.dst r) (bC L W) (log++[(Rc,Wc)]) K
  |some (j,want)=>(match gdA ds F j with
   |some (some b)=>if b=want then∃r R W Rc Wc,bR P o (kC F) L (N+i) r R W/\inC R Rc/\inC (W.map (·.1)) Wc/\fA P N ds rest (i+1) (eT F o.dst r) (bC L W) (log++[(Rc,Wc)]) K
    else fA P N ds rest (i+1) (eT F o.dst .undef) L (log++[([],[])]) K
   |some none=>fA P N ds rest (i+1) (eT F o.dst .undef) L (log++[([],[])]) K
   |none=>False)
structure Tr where
 r:AV
 R:List Nat
 W:List (Nat×Option Ob)
 Rc:List Nat
 Wc:List Nat
instance:Inhabited Tr:=⟨⟨.any,[],[],[],[]⟩⟩
def i6(ops:List Oper)(tr:Nat->Tr)(F0:List AV):Nat->List AV
 |0=>F0
 |k+1=>eT (i6 ops tr F0 k) ((ops[k]?).bind (·.dst)) (tr k).r
def sgD(tr:Nat->Tr)(σ0:Nat->Option Ob)(D:Nat->Bool):Nat->Nat->Option Ob
 |0=>σ0
 |k+1=>if D k=true then bC (sgD tr σ0 D k) (tr k).W else sgD tr σ0 D k
def pm(tr:Nat->Tr)(n:Nat):jE:=(bQ n).map λk=>((tr k).Rc,(tr k).Wc)
def pp(P:Program)(N:Nat)(ops:List Oper)(F0:List AV)(σ0:Nat->Option Ob)(tr:Nat->Tr)(k:Nat):Prop:=
 ∀o,ops[k]? =some o->(((o.guard=none\/∃j b,o.guard=some (j,b)/\gdA (ops.map (·.dst)) (i6 ops tr F0 k) j=some (some b))/\
   bR P o (kC (i6 ops tr F0 k)) (sgD tr σ0 (λ_=>true) k) (N+k) (tr k).r (tr k).R (tr k).W/\inC (tr k).R (tr k).Rc/\inC ((tr k).W.map (·.1)) (tr k).Wc)\/
  (∃j want q,o.guard=some (j,want)/\gdA (ops.map (·.dst)) (i6 ops tr F0 k) j=some q/\q≠some want/\tr k=⟨.undef,[],[],[],[]⟩))
def wX(ops:List Oper)(F0:List AV){tr tr':Nat->Tr}:∀k,(∀j,j<k->tr j=tr' j)->i6 ops tr F0 k=i6 ops tr' F0 k
 |0,_=>rfl
 |k+1,h=>by simp only[i6];rw[wX ops F0 k (λj hj=>h j (by omega)),h k (by omega)]
def uB(σ0:Nat->Option Ob){tr tr':Nat->Tr}{D D':Nat->Bool}:∀k,(∀j,j<k->tr j=tr' j)->(∀j,j<k->D j=D' j)->sgD tr σ0 D k=sgD tr' σ0 D' k
 |0,_,_=>rfl
 |k+1,h,h2=>by simp only[sgD];rw[uB σ0 k (λj hj=>h j (by omega)) (λj hj=>h2 j (by omega)),h k (by omega),h2 k (by omega)]
def Tf{P:Program}{N:Nat}{ops:List Oper}{F0:List AV}{σ0:Nat->Option Ob}{tr tr':Nat->Tr}{k:Nat}(h:∀j,j<=k->tr j=tr' j)(hg:pp P N ops F0 σ0 tr k):pp P N ops F0 σ0 tr' k:=by unfold pp at*;rw[wX ops F0 k (λj hj=>(h j (by omega)).symm),uB (D':=λ_=>true) σ0 k (λj hj=>(h j (by omega)).symm) (λ_ _=>rfl),<-h k (bI _)];exact hg
def nD(tr:Nat->Tr)(i:Nat)(x:Tr):Nat->Tr:=λk=>if k=i then x else tr k
def LN{tr:Nat->Tr}{i:Nat}{x:Tr}{k:Nat}(h:k<i):tr k=nD tr i x k:=by unfold nD;grind
def J2{P:Program}{N:Nat}{ops:List Oper}{F0:List AV}{L0:Sto}{K:List AV->Sto->jE->Prop}:
  ∀(rest:List Oper) (i:Nat) (F:List AV) (L:Sto) (log:jE) (tr:Nat->Tr),i<=ops.length->ops.drop i=rest->F=i6 ops tr F0 i->L=sgD tr L0 (λ_=>true) i->log=pm tr i->
   (∀k,k<i->pp P N ops F0 L0 tr k)->fA P N (ops.map (·.dst)) rest i F L log K->
   ∃(tr':Nat->Tr) (L':Sto),(∀k,k<ops.length->pp P N ops F0 L0 tr' k)/\L'=sgD tr' L0 (λ_=>true) ops.length/\K (i6 ops tr' F0 ops.length) L' (pm tr' ops.length)
 |[],i,F,L,log,tr,hil,hd,hF,hL,hlog,hg,h=>by
  have hi:i=ops.length:=by have:=congrArg dA hd;simp at this;omega
  subst hi;unfold fA at h;grind
 |o::rest,i,F,L,log,tr,hil,hd,hF,hL,hlog,hg,h=>by
  have hlt:i<ops.length:=by have:=congrArg dA hd;simp at this;omega
  have ho:ops[i]? =some o:=by have:=congrArg (λl=>l[0]?) hd;simpa using this
  have hd':ops.drop (i+1)=rest:=by have:=congrArg List.tail hd;simpa using this
  have step:∀(x:Tr),pp P N ops F0 L0 (nD tr i x) i->fA P N (ops.map (·.dst)) rest (i+1) (eT F o.dst x.r) (bC L x.W) (log++[(x.Rc,x.Wc)]) K->
    ∃(tr':Nat->Tr) (L':Sto),(∀k,k<ops.length->pp P N ops F0 L0 tr' k)/\L'=sgD tr' L0 (λ_=>true) ops.length/\K (i6 ops tr' F0 ops.length) L' (pm tr' ops.length):=by
   intro x hgx hx;have hc:∀j,j<i->tr j=nD tr i x j:=λj hj=>LN hj;have hxi:nD tr i x i=x:=by unfold nD;rw[if_pos rfl]
   refine J2 rest (i+1) _ _ _ (nD tr i x) hlt hd' ?_ ?_ ?_ ?_ hx
   .simp only[i6,ho,qP,hxi];rw[hF,wX ops F0 i hc]
   .simp only[sgD,if_true,hxi];rw[hL,uB (D':=λ_=>true) L0 i hc (λ_ _=>rfl)]
   .unfold pm at hlog|-;rw[List.range_succ,List.map_append,List.map_singleton,hxi,hlog];simp_all
   .intro k hk;by_cases e:k=i
    .grind
    .exact Tf (by grind) (hg k (by omega))
  have hc:∀x:Tr,∀j,j<i->nD tr i x j=tr j:=λx j hj=>(LN hj).symm;have hxi:∀x:Tr,nD tr i x i=x:=λx=>by unfold nD;grind
  have mkG:∀x:Tr,(o.guard=none\/∃j b,o.guard=some (j,b)/\gdA (ops.map (·.dst)) F j=some (some b))->bR P o (kC F) L (N+i) x.r x.R x.W->inC x.R x.Rc->inC (x.W.map (·.1)) x.Wc->pp P N ops F0 L0 (nD tr i x) i:=by intro x h1 h2 h3 h4 o' ho';rw[ho]at ho';cases ho';rw[wX ops F0 i (hc x),uB (D':=λ_=>true) L0 i (hc x) (λ_ _=>rfl),<-hF,<-hL,hxi];grind
  unfold fA at h;split at h
  .rename_i hgd;obtain⟨r,R,W,Rc,Wc,h1,i1,i2,h2⟩:=h;exact step ⟨r,R,W,Rc,Wc⟩ (by grind) h2
  .rename_i j want hgd;have skip:∀q,gdA (ops.map (·.dst)) F j=some q->q≠some want->fA P N (ops.map (·.dst)) rest (i+1) (eT F o.dst .undef) L (log++[([],[])]) K->
     ∃(tr':Nat->Tr) (L':Sto),(∀k,k<ops.length->pp P N ops F0 L0 tr' k)/\L'=sgD tr' L0 (λ_=>true) ops.length/\K (i6 ops tr' F0 ops.length) L' (pm tr' ops.length):=by
    intro q hq hne hx;refine step ⟨.undef,[],[],[],[]⟩ ?_ hx;intro o' ho';rw[ho]at ho';cases ho';rw[wX ops F0 i (hc _),<-hF,hxi];grind
   split at h
   .rename_i b hb;split at h
    .rename_i e;subst e;obtain⟨r,R,W,Rc,Wc,h1,i1,i2,h2⟩:=h;exact step ⟨r,R,W,Rc,Wc⟩ (by grind) h2
    simp_all
   .grind
   grind
def Gl(ops:List Oper):List (List Nat):=
 ops.foldl (λacc o=>acc++[(o.after.toList.filter (iD .any)).foldl (λs e=>s++(e.on::acc.getD e.on []).filter λx=> !s.contains x) []]) []
def GI(o:Oper):List Nat:=o.op.operands.toList.filterMap λx=>match x with| .tmp t=>some t|_=>none
def okE(l:List Oper)(anc:List (List Nat)):Bool:=
 (bQ l.length).all λi=>
  (((l[i]?).map λo=>(o.after.toList.all λe=> !iD .any e||(decide (e.on<i)&&(fk anc i).contains e.on))&&o.dst !=some 1000000).getD false)&&
  ((fk anc i).all λj=>decide (j<i)&&(((l[i]?).map λo=>o.after.toList.any λe=>iD .any e&&(e.on==j||(fk anc e.on).contains j)).getD false))&&
  ((bQ l.length).all λj=>j==i||de l j !=de l i||de l i==1000000)
def Br(ops:List Oper)(anc:List (List Nat)):Bool:=
 okE ops anc&&
 ((bQ ops.length).all λi=>((ops[i]?).map λo=>
   ((GI o).all λt=>(bQ ops.length).all λj=>j==i||de ops j !=t||(fk anc i).contains j||(fk anc j).contains i)&&
   (match o.guard with|none=>true|some (j,_)=>(fk anc i).contains j&&((ops[j]?).bind (·.dst)).isSome)).getD false)
def Bz(a b:List Nat×List Nat):Bool:=a.2.any (λs=>b.1.contains s||b.2.contains s)||a.1.any (λs=>b.2.contains s)
def xn(anc:List (List Nat))(log:jE):Bool:=(bQ log.length).all λi=>(bQ i).all λj=> !Bz (log.getD i ([],[])) (log.getD j ([],[]))||(fk anc i).contains j
def WJ{ops:List Oper}{anc:List (List Nat)}(h:okE ops anc=true):
  (∀(i:Nat) o,ops[i]? =some o->(∀e∈o.after.toList,iD .any e=true->e.on<i/\(fk anc i).contains e.on=true)/\
    (∀j,(fk anc i).contains j=true->j<i/\∃e∈o.after.toList,iD .any e=true/\(e.on=j\/(fk anc e.on).contains j=true))/\(∀d,o.dst=some d->de ops i=d/\d≠1000000)/\(o.dst=none->de ops i=1000000))/\
  ∀i j,i<ops.length->j<ops.length->j≠i->de ops j=de ops i->de ops i=1000000:=by
 unfold okE at h;rw[bk]at h;have hget:∀(i:Nat) o,ops[i]? =some o->i<ops.length:=by grind
 refine⟨?_,?_⟩
 .intro i o ho;have h1:=h i (cG.2 (hget i o ho));simp only[bw]at h1;obtain⟨⟨h2,h3⟩,_⟩:=h1;rw[ho]at h2;refine⟨?_,?_,?_,?_⟩
  .grind
  .intro j hj;rw[bk]at h3;have:=h3 j (by grind);simp only[bw,decide_eq_true_eq]at this;obtain⟨h4,h5⟩:=this;refine⟨h4,?_⟩;rw[ho]at h5;simp only[eO,lH,l0,bw,jv,beq_iff_eq]at h5;exact h5
  .intro d hd;refine⟨by unfold de;grind,?_⟩;grind
  .unfold de;grind
 .intro i j hi hj hne he;have h1:=h i (cG.2 hi);grind
def aAx{tr:Nat->Tr}{σ0:Nat->Option Ob}{D:Nat->Bool}{s i n:Nat}(hin:i<=n)
  (hlo:∀k,k<i->(tr k).W.lookup s≠none->D k=true) (hhi:∀k,i<=k->k<n->(tr k).W.lookup s≠none->D k=false):
  sgD tr σ0 D n s=sgD tr σ0 (λ_=>true) i s:=by
 have h1:∀m,m<=i->sgD tr σ0 D m s=sgD tr σ0 (λ_=>true) m s:=by
  intro m;induction m with
  |zero=>intro _;rfl
  |succ m ih=>
   intro hm;simp only[sgD,if_true];cases hD:D m with
   |true=>unfold bC;grind
   |false=>
    unfold bC;grind
 have h2:∀m,i<=m->m<=n->sgD tr σ0 D m s=sgD tr σ0 D i s:=by
  intro m;induction m with
  |zero=>grind
  |succ m ih=>
   intro hi hm;by_cases e:i=m+1
   .rw[e]
   .simp only[sgD];cases hD:D m with
    |false=>grind
    |true=>
     unfold bC;grind
 grind
def Jc{W:List (Nat×Option Ob)}{s:Nat}(h:W.lookup s≠none):s∈W.map (·.1):=by grind
def FO{g:Nat->Option Ob}{W:List (Nat×Option Ob)}{s:Nat}(h:W.lookup s=none):bC g W s=g s:=by unfold bC;rw[h]
def DK(F:List AV)(d:Option Nat)(r:AV):(eT F d r).length=F.length:=by cases d<;>simp[eT]
def wQ(ops:List Oper)(tr:Nat->Tr)(F0:List AV):∀k,(i6 ops tr F0 k).length=F0.length
 |0=>rfl
 |k+1=>by simp only[i6];rw[DK,wQ ops tr F0 k]
def DE{ops:List Oper}{tr:Nat->Tr}{F0:List AV}{t j:Nat}(hj:(ops[j]?).bind (·.dst)=some t)(ht:t<F0.length)(hu:∀k,k≠j->(ops[k]?).bind (·.dst)≠some t):∀m,j<m->(i6 ops tr F0 m).getD t .any=(tr j).r
 |0,h=>by omega
 |m+1,h=>by
  simp only[i6];by_cases e:m=j
  .subst e;rw[hj];have:=wQ ops tr F0 m;simp[eT,du,this,ht]
  .have ih:=DE (tr:=tr) hj ht hu m (by omega);cases hd:(ops[m]?).bind (·.dst)with
   |none=>simpa[eT]using ih
   |some d=>
    have:d≠t:=by grind
    simp only[eT,du,SZ this]at ih|-;exact ih
def C2{ops:List Oper}{tr:Nat->Tr}{F0:List AV}{t:Nat}:∀m,(∀k,k<m->(ops[k]?).bind (·.dst)≠some t)->(i6 ops tr F0 m).getD t .any=F0.getD t .any
 |0,_=>rfl
 |m+1,h=>by
  simp only[i6];have ih:=C2 (tr:=tr) (F0:=F0) m λk hk=>h k (by omega);cases hd:(ops[m]?).bind (·.dst)with
  |none=>simpa[eT]using ih
  |some d=>
   have:d≠t:=by grind
   simp only[eT,du,SZ this]at ih|-;exact ih
def AI{ρ:Ren}{C:bG}{F:List AV}{V:Nat->Value}{x:Operand}(h:∀t,x= .tmp t->aW ρ C (F.getD t .any) (V t)):aW ρ C (kC F x) (bK V x):=by
 cases x with
 |tmp t=>exact h t rfl
 |const v=>exact Tz v
 |global g=>trivial
 |func f=>
  exact⟨[],[],rfl,by rfl,by rfl⟩
def zV{P:Program}{o:Oper}{V:Nat->Value}{w:World}{K K':Value->World->Prop}(h:cN P o V w K)(hk:∀v w,K v w->K' v w):cN P o V w K':=by
 unfold cN at h|-;split at h
 .grind
 .grind
 .exact h.mono (by grind)
 omega
def Ua{o:Oper}{t:Nat}(h: .tmp t∈o.op.operands.toList):t∈GI o:=IR.2 (by grind)
def StR.drew{C0:bG}{ρ:Ren}{g:Nat->Option Ob}{w:World}{B:Nat}(h:StR C0 ρ g w B):StR C0 ρ g w.drew B:=by
 refine⟨λs o hg=> ?_,h.inj,h.mpi⟩;obtain⟨q,c,h1,h2|⟨b,arr,h2,h3,h4⟩⟩:=h.ob s o hg
 .exact⟨q,c,h1,.inl h2⟩
 .exact⟨q,c,h1,.inr ⟨b,arr,h2,h3,⟨h4.blk,h4.box,h4.row,h4.cells⟩⟩⟩
def TU{P:Program}{id N:Nat}{ops:List Oper}{Q:Exit->Act->World->Prop}{a0:Act}{w0:World}{C0:bG}{B:Nat}{wI:World}{F0:List AV}{L0:Sto}{K:List AV->Sto->Prop}
  (hm:P.follows .mixedOrders=true) (anc:List (List Nat)) (hok:Br ops anc=true) (hds:((bQ ops.length).all λi=>match(ops[i]?).bind (·.dst)with|some d=>decide (d<F0.length)|none=>true)=true)
  (hS:St C0 B wI F0 L0 N a0 w0) (h:fA P N (ops.map (·.dst)) ops 0 F0 L0 [] λF L log=>xn anc log=true/\K F L)
  (hK:∀F L a w,K F L->F.length=F0.length->St C0 B wI F L (N+ops.length) a w->Q .normal a w):(yh id ops.toArray true).wp P Q a0 w0:=by
 obtain⟨tr,L',hgood,hL',hfeet,hKK⟩:=J2 ops 0 F0 L0 [] default (iY _) rfl rfl rfl rfl (by grind) h;unfold Br at hok;rw[bw,bk]at hok;obtain⟨hokE,hokT⟩:=hok;obtain⟨hop,huq⟩:=WJ hokE;obtain⟨⟨ρ0,hs0,hn0,hf0⟩,hle0,hdf0,hsz0,hbl0⟩:=hS;have hget:∀(i:Nat) o,ops[i]? =some o->i<ops.length:=by grind
 have hat:∀(i:Nat),i<ops.length->∃o,ops[i]? =some o:=λi hi=>⟨_,dp hi⟩;have hdst:∀(j t:Nat),(ops[j]?).bind (·.dst)=some t->de ops j=t/\t≠1000000/\j<ops.length/\t<F0.length:=by intro j t hj;obtain⟨o,ho,hd⟩:=qQ.1 hj;have:=(hop j o ho).2.2.1 t hd;refine⟨this.1,this.2,hget j o ho,?_⟩;rw[bk]at hds;have h2:=hds j (cG.2 (hget j o ho));rw[hj]at h2;simpa using h2
 have huniq:∀(j t:Nat),(ops[j]?).bind (·.dst)=some t->∀(k:Nat),k≠j->(ops[k]?).bind (·.dst)≠some t:=by intro j t hj k hk e;obtain⟨h1,h2,h3,_⟩:=hdst j t hj;obtain⟨h4,_,h5,_⟩:=hdst k t e;exact h2 (h1▸huq j k h3 h5 hk (by grind))
 have hclash:∀i k,i<ops.length->k<ops.length->k≠i->∀s,s∈(tr i).R\/s∈(tr i).W.map (·.1)->(tr k).W.lookup s≠none->(k<i->(fk anc i).contains k=true)/\(i<k->(fk anc k).contains i=true):=by
  intro i k hi hk hne s hs hw;have hws:=Jc hw;have hin:∀j,j<ops.length->inC (tr j).R (tr j).Rc/\inC ((tr j).W.map (·.1)) (tr j).Wc:=λj hj=>by
   obtain⟨o,ho⟩:=hat j hj;rcases hgood j hj o ho with⟨_,_,h1,h2⟩|⟨_,_,_,_,_,_,h⟩
   .exact⟨h1,h2⟩
   .rw[h];exact⟨λs h=>(cn h).elim,λs h=>(cn h).elim⟩
  have hwc:=(hin k hk).2 s hws;have hsc:cls s∈(tr i).Rc\/cls s∈(tr i).Wc:=hs.imp ((hin i hi).1 s) ((hin i hi).2 s);have hfl:(pm tr ops.length).length=ops.length:=by simp[pm]
  have hfg:∀j,j<ops.length->(pm tr ops.length).getD j ([],[])=((tr j).Rc,(tr j).Wc):=by intro j hj;simp[pm,du,hj]
  unfold xn at hfeet;rw[bk]at hfeet;have hsym:∀a b:List Nat×List Nat,cls s∈b.2->(cls s∈a.1\/cls s∈a.2)->Bz a b=true/\Bz b a=true:=by
   intro a b hb ha;unfold Bz;refine⟨?_,?_⟩
   .rw[jv];rcases ha with ha|ha
    .exact .inr (l0.2 ⟨cls s,ha,by simpa using hb⟩)
    .exact .inl (l0.2 ⟨cls s,ha,by rw[jv];exact .inr (by simpa using hb)⟩)
   .rw[jv];refine .inl (l0.2 ⟨cls s,hb,?_⟩);rw[jv];rcases ha with ha|ha
    .exact .inl (by simpa using ha)
    .exact .inr (by simpa using ha)
  obtain⟨c1,c2⟩:=hsym ((tr i).Rc,(tr i).Wc) ((tr k).Rc,(tr k).Wc) hwc hsc;refine⟨λhlt=> ?_,λhlt=> ?_⟩
  .have:=hfeet i (cG.2 (by rw[hfl];exact hi));rw[bk]at this;have:=this k (cG.2 hlt);rw[hfg i hi,hfg k hk,c1]at this;simpa using this
  .have:=hfeet k (cG.2 (by rw[hfl];exact hk));rw[bk]at this;have:=this i (cG.2 hlt);rw[hfg i hi,hfg k hk,c2]at this;simpa using this
 let dsts:List Nat:=(bQ ops.length).filterMap λi=>(ops[i]?).bind (·.dst)
 have hdm:∀(t:Nat),t∈dsts↔∃(j:Nat),(ops[j]?).bind (·.dst)=some t:=by intro t;simp only[dsts,IR,cG];exact⟨λ⟨j,_,h⟩=>⟨j,h⟩,λ⟨j,h⟩=>⟨j,(hdst j t h).2.2.1,h⟩⟩
 let G:(Nat->Bool)->(Nat->Value)->World->Prop:=λD V w=>∃ρ:Ren,
  (∀i j,D i=true->(fk anc i).contains j=true->D j=true)/\(∀i,D i=true->i<ops.length)/\
  StR C0 ρ (sgD tr L0 D ops.length) w B/\B<=w.heap.size/\Below B wI w/\
  (∀(j t:Nat),D j=true->(ops[j]?).bind (·.dst)=some t->aW ρ (bF C0 B w ρ (sgD tr L0 D ops.length)) (tr j).r (V t))/\
  (∀(t:Nat),(∀(j:Nat),D j=true->(ops[j]?).bind (·.dst)≠some t)->V t=a0.tmps.getD t Go.undef)/\
  (∀t,aW ρ (bF C0 B w ρ (sgD tr L0 D ops.length)) (F0.getD t .any) (a0.tmps.getD t Go.undef))/\
  (∀k s,D k=false->cls s=N+k->ρ s=none)
 refine Th hm dsts ?_ ?_ G ?_ ?_ ?_
 .rw[bk];intro i hi;have hi':=cG.1 hi;obtain⟨o,ho⟩:=hat i hi';obtain⟨q1,q3,q4,q5⟩:=hop i o ho;simp only[List.getElem?_toArray,ho,eO,lH,bw];refine⟨?_,?_⟩
  .rw[bk];intro e he;cases hb:iD .any e with
   |false=>simp
   |true=>simpa using(q1 e he hb).1
  .cases hd:o.dst with
   |none=>rfl
   |some d=>simpa using(hdm d).2 ⟨i,by rw[ho];exact hd⟩
 .intro s hs;obtain⟨j,hj⟩:=(hdm s).1 hs;rw[hsz0];exact(hdst j s hj).2.2.2
 .have e0:sgD tr L0 (λ_=>false) ops.length=L0:=by
   have:∀m,sgD tr L0 (λ_=>false) m=L0:=by
    intro m;induction m with
    |zero=>rfl
    |succ m ih=>exact ih
   exact this _
  refine⟨ρ0,(by grind),(by grind),?_,hle0,hbl0.drew,(by grind),(λt _=>rfl),?_,λk s _ hs=>hn0 s (by omega)⟩
  .rw[e0];exact hs0.drew
  .rw[e0];exact hf0
 .intro i o D V w ho ⟨ρ,g1,g2,g3,g4,g5,g6,g7,g8,g9⟩ hD hpre _;have ho':ops[i]? =some o:=by simpa using ho
  have hi:=hget i o ho';obtain⟨q1,q3,q4,q5⟩:=hop i o ho';have hanc:∀j,(fk anc i).contains j=true->D j=true:=by
   intro j hj;obtain⟨_,e,he,hb,h⟩:=q3 j hj;have:=hpre e he hb;rcases h with rfl|h
   .exact this
   .exact g1 _ _ this h
  have hdesc:∀j,(fk anc j).contains i=true->D j=false:=by
   intro j hj;cases hx:D j with
   |false=>rfl
   |true=>rw[g1 _ _ hx hj]at hD;cases hD
  have hT:=hokT i (cG.2 hi);rw[ho']at hT;simp only[eO,lH,bw]at hT;obtain⟨hT1,hT2⟩:=hT
  let Fi:=i6 ops tr F0 i
  have hslot:∀t,t∈GI o\/(∃(j:Nat) (b:Bool),o.guard=some (j,b)/\(ops[j]?).bind (·.dst)=some t)->aW ρ (bF C0 B w ρ (sgD tr L0 D ops.length)) (Fi.getD t .any) (V t):=by
   intro t ht;have hdone:∀(j:Nat),j<i->(ops[j]?).bind (·.dst)=some t->D j=true:=by
    intro j hji hj;rcases ht with ht|⟨j',b,hg,hj'⟩
    .rw[bk]at hT1;have:=hT1 t ht;rw[bk]at this;have:=this j (cG.2 (by omega));simp only[jv,beq_iff_eq,bne_iff_ne,ne_eq]at this;rcases this with((h|h)|h)|h
     .omega
     .exact absurd (hdst j t hj).1 h
     .exact hanc j h
     .have h1:=(hop j _ (dp (by omega))).2.1 i h;omega
    .have:j=j':=by
      rcases pO j j' with h|h
      .exact absurd hj (huniq j' t hj' j h)
      .exact h
     subst this;rw[hg]at hT2;simp only[bw]at hT2;exact hanc j hT2.1
   have hnot:∀(j:Nat),i<=j->(ops[j]?).bind (·.dst)=some t->D j=false:=by
    intro j hij hj;by_cases e:j=i
    .rw[e];exact hD
    rcases ht with ht|⟨j',b,hg,hj'⟩
    .rw[bk]at hT1;have:=hT1 t ht;rw[bk]at this;have:=this j (cG.2 (hdst j t hj).2.2.1);simp only[jv,beq_iff_eq,bne_iff_ne,ne_eq]at this;rcases this with((h|h)|h)|h
     .omega
     .exact absurd (hdst j t hj).1 h
     .have:=(q3 j h).1;omega
     .exact hdesc j h
    .have:j=j':=by
      rcases pO j j' with h|h
      .exact absurd hj (huniq j' t hj' j h)
      .exact h
     subst this;rw[hg]at hT2;simp only[bw]at hT2;have:=(q3 j hT2.1).1;omega
   by_cases hw:∃(j:Nat),j<i/\(ops[j]?).bind (·.dst)=some t
   .obtain⟨j,hji,hj⟩:=hw;have:=DE (tr:=tr) hj (hdst j t hj).2.2.2 (huniq j t hj) i hji;rw[this];exact g6 j t (hdone j hji hj) hj
   .have:=C2 (ops:=ops) (tr:=tr) (F0:=F0) (t:=t) i λk hk e=>hw ⟨k,hk,e⟩;rw[this,g7 t λj hDj e=> ?_]
    .exact g8 t
    .rcases nY j i with h|h
     .exact hw ⟨j,h,e⟩
     .rw[hnot j h e]at hDj;cases hDj
  have hgi:=hgood i hi o ho';have hDset:∀s,sgD tr L0 (λj=>if j=i then true else D j) ops.length s=bC (sgD tr L0 D ops.length) (tr i).W s:=by
   intro s;have hlt:∀m,m<=i->sgD tr L0 (λj=>if j=i then true else D j) m=sgD tr L0 D m:=λm hm=>uB _ m (λ_ _=>rfl) (λj hj=>by rw[if_neg (by omega)]);cases hl:(tr i).W.lookup s with
   |none=>
    rw[FO hl];have:∀m,i<m->sgD tr L0 (λj=>if j=i then true else D j) m s=sgD tr L0 D m s:=by
     intro m;induction m with
     |zero=>omega
     |succ m ih=>
      intro hm;by_cases e:m=i
      .subst e;simp only[sgD,if_true,hD,qM,if_false];rw[FO hl,hlt m (bI _)]
      .simp only[sgD,if_neg e];cases hDm:D m with
       |false=>exact ih (by omega)
       |true=>simp only[if_true];unfold bC;rw[ih (by omega)]
    exact this _ hi
   |some x=>
    have:∀m,i<m->m<=ops.length->sgD tr L0 (λj=>if j=i then true else D j) m s=x:=by
     intro m;induction m with
     |zero=>omega
     |succ m ih=>
      intro hm hmn;by_cases e:m=i
      .subst e;simp only[sgD,if_true];unfold bC;rw[hl]
      .simp only[sgD,if_neg e];have hlm:D m=true->(tr m).W.lookup s=none:=by
        intro hDm;cases hl2:(tr m).W.lookup s with
        |none=>rfl
        |some y=>
         have:=(hclash i m hi (by omega) e s (.inr (Jc (by rw[hl];simp))) (by rw[hl2];simp)).2 (by omega);rw[hdesc m this]at hDm;cases hDm
       cases hDm:D m with
       |false=>exact ih (by omega) (by omega)
       |true=>simp only[if_true];rw[FO (hlm hDm)];exact ih (by omega) (by omega)
    rw[this _ hi (bI _)];unfold bC;rw[hl]
  have key:∀(ρ':Ren) (v:Value) (w':World),(∀s,cls s≠N+i->ρ' s=ρ s)->
    (∀b o' x,bF C0 B w ρ (sgD tr L0 D ops.length) b o' x->bF C0 B w' ρ' (bC (sgD tr L0 D ops.length) (tr i).W) b o' x)->
    StR C0 ρ' (bC (sgD tr L0 D ops.length) (tr i).W) w' B->aW ρ' (bF C0 B w' ρ' (bC (sgD tr L0 D ops.length) (tr i).W)) (tr i).r v->Below B w w'->
    G (λj=>if j=i then true else D j) (match o.dst with|some d=>λs=>if s=d then v else V s|none=>V) w':=by
   intro ρ' v w' k1 k2 k3 k4 k5;have hsg:sgD tr L0 (λj=>if j=i then true else D j) ops.length=bC (sgD tr L0 D ops.length) (tr i).W:=funext hDset;have hext:∀s q,ρ s=some q->ρ' s=some q:=by intro s q hq;rw[k1 s (λe=>by rw[g9 i s hD e]at hq;cases hq)];exact hq
   have hVd:∀(t:Nat),(ops[i]?).bind (·.dst)=some t->(match o.dst with|some d=>λs=>if s=d then v else V s|none=>V) t=v:=by intro t ht;rw[ho']at ht;have:o.dst=some t:=ht;rw[this];simp
   have hVn:∀(t:Nat),(ops[i]?).bind (·.dst)≠some t->(match o.dst with|some d=>λs=>if s=d then v else V s|none=>V) t=V t:=by
    intro t ht;rw[ho']at ht;cases hd:o.dst with
    |none=>rfl
    |some d=>
     have:t≠d:=λe=>ht (by rw[e];exact hd);simp[this]
   show G _ _ _;refine⟨ρ',?_,?_,by rw[hsg];exact k3,cF g4 k5.size,g5.trans k5,?_,?_,?_,?_⟩
   .intro i' j h1 h2;dsimp only at h1|-;by_cases e:j=i
    .rw[if_pos e]
    .rw[if_neg e];by_cases e':i'=i
     .subst e';exact hanc j h2
     .rw[if_neg e']at h1;exact g1 _ _ h1 h2
   .intro i' h1;dsimp only at h1;by_cases e':i'=i
    .rw[e'];exact hi
    .rw[if_neg e']at h1;exact g2 _ h1
   .intro j t h1 h2;dsimp only at h1;rw[hsg];by_cases e:j=i
    .subst e;rw[hVd t h2];exact k4
    .rw[if_neg e]at h1;rw[hVn t (huniq j t h2 i (λh=>e h.symm))];exact aW.mono hext k2 _ _ (g6 j t h1 h2)
   .intro t ht;rw[hVn t (ht i (by simp))];refine g7 t λj hj=>ht j ?_;dsimp only;by_cases e:j=i
    .rw[if_pos e]
    .rw[if_neg e];exact hj
   .intro t;rw[hsg];exact aW.mono hext k2 _ _ (g8 t)
   .intro k s hk hs;dsimp only at hk;by_cases e:k=i
    .rw[if_pos e]at hk;cases hk
    .rw[if_neg e]at hk;rw[k1 _ (by omega)];exact g9 k s hk hs
  have hgv:∀j b q,o.guard=some (j,b)->gdA (ops.map (·.dst)) Fi j=some q->gdV ops.toArray V j=q:=by
   intro j b q hg hq;unfold gdA at hq;rw[PB]at hq;cases hd:(ops[j]?).bind (·.dst)with
   |none=>rw[hd]at hq;cases hq
   |some d=>
    rw[hd]at hq;have hrep:=hslot d (.inr ⟨j,b,hg,hd⟩);unfold gdV;rw[show(ops.toArray[j]?).bind (·.dst)=some d by simpa using hd];dsimp only at hq|-;split at hq
    .rename_i bb e;rw[e]at hrep;cases hq;rw[hrep]
    .rename_i e;rw[e]at hrep;cases hq;rw[hrep];rfl
    .cases hq
  rcases hgi with⟨hgd,hsim,_,_⟩|⟨j,want,q,hgd,hq,hne,htr⟩
  .have hwant:ia o (gdV ops.toArray V)=true:=by
    unfold ia;rcases hgd with h|⟨j,b,h,hq⟩
    .rw[h]
    .rw[h];dsimp only;rw[hgv j b _ h hq];simp
   rw[if_pos hwant];have hsg:∀s,s∈(tr i).R\/s∈(tr i).W.map (·.1)->sgD tr L0 D ops.length s=sgD tr L0 (λ_=>true) i s:=by
    intro s hs;refine aAx (Nat.le_of_lt hi) ?_ ?_
    .intro k hk hw;exact hanc k ((hclash i k hi (by omega) (by omega) s hs hw).1 hk)
    .intro k hk1 hk2 hw;by_cases e:k=i
     .rw[e];exact hD
     .exact hdesc k ((hclash i k hi hk2 e s hs hw).2 (by omega))
   have hgn:∀s,cls s=N+i->sgD tr L0 D ops.length s=none:=by
    intro s hs;cases hx:sgD tr L0 D ops.length s with
    |none=>rfl
    |some ob=>obtain⟨q,c,h1,_⟩:=g3.ob _ _ hx;rw[g9 i s hD hs]at h1;cases h1
   refine zV (hsim C0 ρ _ V w B g3 g4 (λs hs=>hsg s (.inl hs)) (λs hs=>g9 i s hD hs) hgn ?_) ?_
   .intro x hx;refine AI λt e=> ?_;subst e;exact hslot t (.inl (Ua hx))
   .rintro v w' ⟨ρ',k1,k2,k3,k4,k5⟩;exact key ρ' v w' k1 k2 k3 k4 k5
  .have hwant:ia o (gdV ops.toArray V)=false:=by unfold ia;rw[hgd];dsimp only;rw[hgv j want _ hgd hq];simpa using hne
   rw[hwant,if_neg (by simp)];have e1:(tr i).W=[] :=by rw[htr]
   have e2:(tr i).r= .undef:=by rw[htr]
   refine key ρ Go.undef w (λ_ _=>rfl) ?_ ?_ ?_ (Below.refl _ _)
   .rw[e1];exact λ_ _ _ h=>h
   .rw[e1];exact g3
   .rw[e2];rfl
 .intro D V w ⟨ρ,g1,g2,g3,g4,g5,g6,g7,g8,g9⟩ hall;simp only[List.size_toArray]at hall;have hsg:sgD tr L0 D ops.length=L':=by rw[hL'];exact uB _ _ (λ_ _=>rfl) (λj hj=>hall j hj)
  obtain⟨p1,p2,p3⟩:=zC V dsts a0 (λs hs=>by obtain⟨j,hj⟩:=(hdm s).1 hs;rw[hsz0];exact(hdst j s hj).2.2.2)
  refine hK _ L' _ w hKK (wQ _ _ _ _) ⟨⟨ρ,by rw[<-hsg];exact g3,?_,?_⟩,g4,p1.trans hdf0,by rw[p2,hsz0,wQ],g5⟩
  .intro s hs;have:D (cls s-N)=false:=by
    cases hx:D (cls s-N)with
    |false=>rfl
    |true=>have:=g2 _ hx;omega
   exact g9 _ s this (by omega)
  .intro t;rw[<-hsg];by_cases ht:t<a0.tmps.size
   .rw[p3 t ht];by_cases hm:t∈dsts
    .rw[if_pos hm];obtain⟨j,hj⟩:=(hdm t).1 hm;obtain⟨_,_,h3,h4⟩:=hdst j t hj;rw[DE hj h4 (huniq j t hj) _ h3];exact g6 j t (hall j h3) hj
    .rw[if_neg hm,C2 _ λk _ e=>hm ((hdm t).2 ⟨k,e⟩)];exact g8 t
   .have:(i6 ops tr F0 ops.length).getD t .any= .any:=by rw[du,l7 (by rw[wQ];omega)];rfl
    rw[this];trivial
attribute [irreducible] fA
section
abbrev oh:=Exit->List AV->Sto->Nat->Prop
def Ij{P:Program}{ops:Array Oper}{Q:Exit->Act->World->Prop}{i:Nat}{o:Oper}{a:Act}{w:World}{next:Act->World->Prop}(ho:ops[i]? =some o)
  (h:if ia o (gdV ops λs=>a.tmps.getD s Go.undef)=true then cN P o (λs=>a.tmps.getD s Go.undef) w λv w'=>next (a.put o.dst v) w' else next (a.put o.dst Go.undef) w):wpOp P ops Q i next a w:=by
 unfold wpOp;rw[ho];simp only[];rw[DF];by_cases hw:ia o (gdV ops λs=>a.tmps.getD s undef)=true
 .rw[if_pos hw]at h|-;refine .inl ?_;unfold Oper.wp;rw[Act.eval_evalV];unfold cN at h;cases hr:(execOp (bK λs=>a.tmps.getD s undef) o).run P w with
  |halt x w'=>grind
  |ok n w'=>
   rw[hr]at h;cases n<;>simp only[]at h<;>first|exact h.elim|skip
   .exact h
   .exact h
   .rename_i f args;refine h.mono ?_;grind
 grind
def Ls(a:Act)(d:Option Nat)(v:Value)(t:Nat):(a.put d v).tmps.getD t Go.undef=if d=some t/\t<a.tmps.size then v else a.tmps.getD t Go.undef:=by
 cases d with
 |none=>simp[mh]
 |some d=>
  simp only[mh,fy,vh,fc];grind
def KQ(F:List AV)(d:Option Nat)(r:AV)(t:Nat):(eT F d r).getD t .any=if d=some t/\t<F.length then r else F.getD t .any:=by
 cases d with
 |none=>simp[eT]
 |some d=>
  simp only[eT,du,yl,fc];grind
section
variable {P:Program} {C0:bG} {B:Nat} {wI:World}
def St.mono{F:List AV}{σ:Nat->Option Ob}{N N':Nat}{a:Act}{w:World}(h:St C0 B wI F σ N a w)(hN:N<=N'):St C0 B wI F σ N' a w:=by obtain⟨⟨ρ,h1,h2,h3⟩,h4,h5,h6,h7⟩:=h;exact⟨by grind,h4,h5,h6,h7⟩
def zu{ops tail:List Oper}{m N:Nat}{Q:Exit->Act->World->Prop}{K:List AV->Sto->jE->Prop}(hm:m+tail.length=ops.length)(hK:∀F L log a w,K F L log->St C0 B wI F L (N+m) a w->wpOps P ops.toArray Q (Cn m tail.length) a w):
  ∀(rest:List Oper) (i:Nat) (F:List AV) (L:Sto) (log:jE) (a:Act) (w:World),i<=ops.length->ops.drop i=rest++tail->fA P N (ops.map (·.dst)) rest i F L log K->St C0 B wI F L (N+i) a w->wpOps P ops.toArray Q (Cn i (rest.length+tail.length)) a w
 |[],i,F,L,log,a,w,hil,hd,h,hS=>by
  have hi:i=m:=by have:=congrArg dA hd;simp at this;omega
  subst hi;unfold fA at h;grind
 |o::rest,i,F,L,log,a,w,hil,hd,h,hS=>by
  have hlt:i<ops.length:=by have:=congrArg dA hd;simp at this;omega
  have ho:ops[i]? =some o:=by have:=congrArg (λl=>l[0]?) hd;simpa using this
  have hd':ops.drop (i+1)=rest++tail:=by have:=congrArg List.tail hd;simpa using this
  rw[gk,show rest.length+1+tail.length=(rest.length+tail.length)+1 by omega];refine Ij (by simpa using ho) ?_;obtain⟨⟨ρ,s1,s2,s3⟩,s4,s5,s6,s7⟩:=hS;have fin:∀(ρ':Ren) (W:List (Nat×Option Ob)) (r:AV) (v:Value) (w':World) (K':Prop),(∀s,cls s≠N+i->ρ' s=ρ s)->(∀b o' x,bF C0 B w ρ L b o' x->bF C0 B w' ρ' (bC L W) b o' x)->StR C0 ρ' (bC L W) w' B->
    aW ρ' (bF C0 B w' ρ' (bC L W)) r v->Below B w w'->St C0 B wI (eT F o.dst r) (bC L W) (N+(i+1)) (a.put o.dst v) w':=by
   intro ρ' W r v w' _ k1 k2 k3 k4 k5;have hext:∀s q,ρ s=some q->ρ' s=some q:=by intro s q hq;rw[k1 s (by grind)];exact hq
   refine⟨⟨ρ',k3,by grind,λt=> ?_⟩,cF s4 k5.size,by cases hd2:o.dst<;>exact s5,by rw[DK];cases hd2:o.dst<;>simpa[mh]using s6,s7.trans k5⟩;rw[KQ,Ls,s6];by_cases e:o.dst=some t/\t<F.length
   .grind
   .rw[if_neg e,if_neg e];exact aW.mono hext k2 _ _ (s3 t)
  have run:(∃r R W Rc Wc,bR P o (kC F) L (N+i) r R W/\inC R Rc/\inC (W.map (·.1)) Wc/\fA P N (ops.map (·.dst)) rest (i+1) (eT F o.dst r) (bC L W) (log++[(Rc,Wc)]) K)->
    cN P o (λs=>a.tmps.getD s Go.undef) w λv w'=>wpOps P ops.toArray Q (Cn (i+1) (rest.length+tail.length)) (a.put o.dst v) w':=by
   rintro⟨r,R,W,Rc,Wc,hsim,_,_,hk⟩;have hgn:∀s,cls s=N+i->L s=none:=by
    intro s hs;cases hx:L s with
    |none=>rfl
    |some ob=>obtain⟨q,c,h1,_⟩:=s1.ob _ _ hx;grind
   refine zV (hsim C0 ρ L _ w B s1 s4 (λ_ _=>rfl) (by grind) hgn (λx _=>AI λt _=>s3 t)) ?_;rintro v w' ⟨ρ',k1,k2,k3,k4,k5⟩;exact zu hm hK rest (i+1) _ _ _ _ w' hlt hd' hk (fin ρ' W r v w' True k1 k2 k3 k4 k5)
  have skip:fA P N (ops.map (·.dst)) rest (i+1) (eT F o.dst .undef) L (log++[([],[])]) K->wpOps P ops.toArray Q (Cn (i+1) (rest.length+tail.length)) (a.put o.dst Go.undef) w:=by intro h;exact zu hm hK rest (i+1) _ _ _ _ w hlt hd' h (fin ρ [] .undef Go.undef w True (λ_ _=>rfl) (λ_ _ _ h=>h) s1 (by rfl) (Below.refl _ _))
  have hgv:∀j b q,o.guard=some (j,b)->gdA (ops.map (·.dst)) F j=some q->gdV ops.toArray (λs=>a.tmps.getD s Go.undef) j=q:=by
   intro j b q hgd hq;unfold gdA at hq;rw[PB]at hq;cases hd:(ops[j]?).bind (·.dst)with
   |none=>grind
   |some d=>
    rw[hd]at hq;have hrep:=s3 d;unfold gdV;rw[show(ops.toArray[j]?).bind (·.dst)=some d by grind];dsimp only at hq|-;split at hq
    .rename_i bb e;unfold aW aX at hrep;grind
    .rename_i e;rw[e]at hrep;cases hq;rw[hrep];rfl
    .cases hq
  unfold fA at h;split at h
  .rename_i hgd;have hw:ia o (gdV ops.toArray λs=>a.tmps.getD s Go.undef)=true:=by unfold ia;rw[hgd]
   grind
  .rename_i j want hgd;split at h
   .rename_i b hb;split at h
    .rename_i e;subst e;have hw:ia o (gdV ops.toArray λs=>a.tmps.getD s Go.undef)=true:=by unfold ia;rw[hgd];dsimp only;rw[hgv j b _ hgd hb];simp
     grind
    .rename_i e;have hw:ia o (gdV ops.toArray λs=>a.tmps.getD s Go.undef)=false:=by unfold ia;rw[hgd];dsimp only;rw[hgv j want _ hgd hb];simpa using e
     grind
   .rename_i hb;have hw:ia o (gdV ops.toArray λs=>a.tmps.getD s Go.undef)=false:=by unfold ia;rw[hgd];dsimp only;rw[hgv j want _ hgd hb];rfl
    grind
   grind
def TT{id N:Nat}{ops:List Oper}{Q:Exit->Act->World->Prop}{a:Act}{w:World}{F:List AV}{L:Sto}{K:List AV->Sto->Prop}
  (hS:St C0 B wI F L N a w) (h:fA P N (ops.map (·.dst)) ops 0 F L [] λF L _=>K F L)
  (hK:∀F L a w,K F L->St C0 B wI F L (N+ops.length) a w->Q .normal a w):(yh id ops.toArray false).wp P Q a w:=by
 refine wp_region ?_;have:=zu (P:=P) (C0:=C0) (B:=B) (wI:=wI) (Q:=Q) (tail:=[]) (m:=ops.length) rfl (λF L _ a w h hS=>hK F L a w h hS) ops 0 F L [] a w (iY _) (by simp) h (by omega);rw[List.range_eq_range'];omega
def tQ(P:Program)(o:Oper)(F:List AV)(L:Sto)(N:Nat)(K:List AV->Sto->Nat->Prop):Prop:=∀(C0:bG) (B:Nat) (wI:World) (a:Act) (w:World),St C0 B wI F L N a w->
 cN P o (λs=>a.tmps.getD s Go.undef) w λv w'=>∃F' L' N',K F' L' N'/\St C0 B wI F' L' N' (a.put o.dst v) w'
def Tw{id N:Nat}{pre:List Oper}{o:Oper}{Q:Exit->Act->World->Prop}{a:Act}{w:World}{F:List AV}{L:Sto}{K:List AV->Sto->Nat->Prop}(hgd:o.guard=none)
  (hS:St C0 B wI F L N a w) (h:fA P N ((pre++[o]).map (·.dst)) pre 0 F L [] λF L _=>tQ P o F L (N+pre.length) K)
  (hK:∀F L N a w,K F L N->St C0 B wI F L N a w->Q .normal a w):(yh id (pre++[o]).toArray false).wp P Q a w:=by
 refine wp_region ?_;have:=zu (P:=P) (C0:=C0) (B:=B) (wI:=wI) (Q:=Q) (ops:=pre++[o]) (tail:=[o]) (m:=pre.length) (by simp) (λF L _ a w h hS=>by
  refine Ij (o:=o) (by simp) ?_;have hw:ia o (gdV (pre++[o]).toArray λs=>a.tmps.getD s Go.undef)=true:=by unfold ia;rw[hgd]
  rw[if_pos hw];refine zV (h C0 B wI a w hS) ?_;rintro v w' ⟨F',L',N',h1,h2⟩;exact hK F' L' N' _ _ h1 h2) pre 0 F L [] a w (iY _) (by simp) h (by omega)
 rw[List.range_eq_range'];grind
end
def fa(F:List AV)(L:Sto)(N:Nat)(F':List AV)(L':Sto)(N':Nat):Prop:=∀(C0:bG) (B:Nat) (wI:World) (a:Act) (w:World),St C0 B wI F L N a w->St C0 B wI F' L' N' a w
def fa.rfl{F:List AV}{L:Sto}{N:Nat}:fa F L N F L N:=λ_ _ _ _ _ h=>h
def SD(P:Program)(draw:Bool)(ops:List Oper)(F:List AV)(L:Sto)(N:Nat)(K:List AV->Sto->Prop):Prop:=match draw with
 |true=>∃anc:List (List Nat),P.follows .mixedOrders=true/\Br ops anc=true/\((bQ ops.length).all λi=>match(ops[i]?).bind (·.dst)with|some d=>decide (d<F.length)|none=>true)=true/\fA P N (ops.map (·.dst)) ops 0 F L [] λF L log=>xn anc log=true/\K F L
 |false=>(ops.all (λo=>match o.guard with|none=>true|some (j,_)=>((ops[j]?).bind (·.dst)).isSome)=true)/\fA P N (ops.map (·.dst)) ops 0 F L [] λF L _=>K F L
def awp(P:Program):Code->oh->List AV->Sto->Nat->Prop
 | .skip,Q,F,L,N=>Q .normal F L N
 | .region _ ops draw,Q,F,L,N=>(SD P draw ops.toList F L N λF L=>Q .normal F L (N+ops.size))\/(draw=false/\∃pre o,ops.toList=pre++[o]/\o.guard=none/\fA P N (ops.toList.map (·.dst)) pre 0 F L [] λF L _=>tQ P o F L (N+pre.length) λF L N=>Q .normal F L N)
 | .seq a b,Q,F,L,N=>∃M:List AV->Sto->Nat->Prop,awp P a (λe F L N=>match e with| .normal=>M F L N|e=>Q e F L N) F L N/\∀F L N,M F L N->∃F' L' N',fa F L N F' L' N'/\awp P b Q F' L' N'
 | .cond c t e,Q,F,L,N=>∃b,kC F c= .p (.bool b)/\(b=true->awp P t Q F L N)/\(b=false->awp P e Q F L N)
 | .block id c,Q,F,L,N=>awp P c (λe F L N=>match e with| .exit id'=>if id'=id then Q .normal F L N else Q (.exit id') F L N|e=>Q e F L N) F L N
 | .loop c,Q,F,L,N=>∃(Inv:List AV->Sto->Nat->Prop) (μ:List AV->Sto->Nat->Nat),(∃F' L' N',fa F L N F' L' N'/\Inv F' L' N')/\
    ∀F L N,Inv F L N->awp P c (λe F1 L1 N1=>match e with| .normal=>∃F' L' N',fa F1 L1 N1 F' L' N'/\Inv F' L' N'/\μ F' L' N'<μ F L N|e=>Q e F1 L1 N1) F L N
 | .exit id,Q,F,L,N=>Q (.exit id) F L N
 | .ret,Q,F,L,N=>Q .ret F L N
 | .scope c,Q,F,L,N=>awp P c (λe F L N=>match e with| .goto _=>False|e=>Q e F L N) F L N
 | .label _,Q,F,L,N=>Q .normal F L N
 |_,_,_,_,_=>False
def I2{P:Program}{c:Code}{Q:Exit->Act->World->Prop}:∀{n:Nat} {a:Act} {w:World},Co P c Q n a w->Co P c Q (n+1) a w
 |0,_,_,h=>h.elim
 |n+1,a,w,h=>by
  refine wp_mono h ?_;intro e a w h;cases e<;>first|exact h|exact I2 h
def V2{P:Program}{c:Code}{Q:Exit->Act->World->Prop}{n m:Nat}(h:n<=m){a:Act}{w:World}(hr:Co P c Q n a w):Co P c Q m a w:=by
 induction h with
 |refl=>exact hr
 |step _ ih=>exact I2 ih
def Vc{P:Program}{c:Code}{Q:Exit->Act->World->Prop}{a:Act}{w:World}(I:Nat->Act->World->Prop){n:Nat}(h0:I n a w)
  (hr:∀n a w,I n a w->c.wp P (Exit.then (λa' w'=>∃m,m<n/\I m a' w') Q) a w):(Code.loop c).wp P Q a w:=by
 have key:∀n a w,I n a w->Co P c Q (n+1) a w:=by
  intro n;induction n using H5 with
  |ind n ih=>
   intro a w h;refine wp_mono (hr n a w h) ?_;intro e a' w' h';cases e<;>first|exact h'|skip
   obtain⟨m,hm,hI⟩:=h';exact V2 (by grind) (ih m hm a' w' hI)
 exact wp_loop_rounds (n+1) (key n a w h0)
def EZ{P:Program}{C0:bG}{B:Nat}{wI:World}:∀(c:Code) (Q:oh) (F:List AV) (L:Sto) (N:Nat) (a:Act) (w:World),awp P c Q F L N->St C0 B wI F L N a w->
  c.wp P (λe a' w'=>∃F' L' N',Q e F' L' N'/\St C0 B wI F' L' N' a' w') a w:=by
 intro c;induction c with
 |skip=>intro Q F L N a w h hS;exact wp_skip ⟨F,L,N,h,hS⟩
 |region id ops draw=>
  intro Q F L N a w h hS;rcases h with h|⟨rfl,pre,o,h1,h2,h3⟩
  rotate_left
  .have e:ops=(pre++[o]).toArray:=by rw[<-h1]
   subst e;exact Tw h2 hS h3 (by grind)
  cases draw with
  |true=>
   obtain⟨anc,h1,h2,h3,h4⟩:=h;have:=TU (id:=id) (P:=P) (Q:=λe a' w'=>∃F' L' N',Q e F' L' N'/\St C0 B wI F' L' N' a' w') h1 anc h2 h3 hS h4 (by grind);omega
  |false=>
   obtain⟨h1,h4⟩:=h;have:=TT (id:=id) (P:=P) (Q:=λe a' w'=>∃F' L' N',Q e F' L' N'/\St C0 B wI F' L' N' a' w') hS h4 (by grind);omega
 |seq x y ihx ihy=>
  intro Q F L N a w h hS;obtain⟨M,h1,h2⟩:=h;refine wp_seq (wp_mono (ihx _ F L N a w h1 hS) ?_);rintro e a' w' ⟨F',L',N',hq,hs⟩;cases e<;>first|exact⟨F',L',N',hq,hs⟩|(obtain⟨F2,L2,N2,hw,hy⟩:=h2 _ _ _ hq;exact ihy Q F2 L2 N2 a' w' hy (hw C0 B wI a' w' hs))
 |cond c t e iht ihe=>
  intro Q F L N a w h hS;obtain⟨b,hb,h1,h2⟩:=h;obtain⟨⟨ρ,s1,s2,s3⟩,_⟩:=id hS;have hc:a.eval c= .bool b:=by rw[Act.eval_evalV];have:=AI (x:=c) (F:=F) (V:=λs=>a.tmps.getD s undef) (ρ:=ρ) (C:=bF C0 B w ρ L) (λt _=>s3 t);rw[hb]at this;unfold aW aX at this;exact this
  exact wp_cond_split hc (by grind) (by grind)
 |block id c ih=>
  intro Q F L N a w h hS;refine wp_block (wp_mono (ih _ F L N a w h hS) ?_);rintro e a' w' ⟨F',L',N',hq,hs⟩;cases e<;>first|exact⟨F',L',N',hq,hs⟩|skip
  rename_i id';unfold Exit.inBlock;grind
 |loop c ih=>
  intro Q F L N a w h hS;obtain⟨Inv,μ,⟨F0,L0,N0,hw0,hI0⟩,hround⟩:=h;refine Vc (λn a w=>∃F L N,Inv F L N/\St C0 B wI F L N a w/\μ F L N=n) ⟨F0,L0,N0,hI0,hw0 C0 B wI a w hS,rfl⟩ ?_;rintro n a' w' ⟨F1,L1,N1,hI1,hS1,rfl⟩;refine wp_mono (ih _ F1 L1 N1 a' w' (hround F1 L1 N1 hI1) hS1) ?_;rintro e a2 w2 ⟨F2,L2,N2,hq,hs⟩;cases e<;>first|exact⟨F2,L2,N2,hq,hs⟩|skip
  obtain⟨F3,L3,N3,hw,hI3,hlt⟩:=hq;exact⟨_,hlt,F3,L3,N3,hI3,hw C0 B wI a2 w2 hs,rfl⟩
 |exit id=>intro Q F L N a w h hS;exact wp_exit ⟨F,L,N,h,hS⟩
 |ret=>intro Q F L N a w h hS;exact wp_ret ⟨F,L,N,h,hS⟩
 |rangeFunc f params x y _ _=>intro Q F L N a w h;exact h.elim
 |scope c ih=>
  intro Q F L N a w h hS;refine wp_scope_straight (wp_mono (ih _ F L N a w h hS) ?_);rintro e a' w' ⟨F',L',N',hq,hs⟩;cases e<;>first|exact hq.elim|exact⟨F',L',N',hq,hs⟩
 |label l=>intro Q F L N a w h hS;exact wp_label ⟨F,L,N,h,hS⟩
 |goto l=>intro Q F L N a w h;exact h.elim
 |refuse s=>intro Q F L N a w h;exact h.elim
section
variable {P:Program} {y:Code} {Q:oh} {F:List AV} {L:Sto} {N:Nat}
def gOk(l:List Oper):Bool:=l.all λo=>match o.guard with|none=>true|some (j,_)=>((l[j]?).bind (·.dst)).isSome
def dOk(l:List Oper)(n:Nat):Bool:=(bQ l.length).all λi=>match(l[i]?).bind (·.dst)with|some d=>decide (d<n)|none=>true
def Tc{x:Code}(J:List AV->Sto->Nat->Prop)(h1:awp P x (λe F L N=>match e with| .normal=>∃F' L' N',fa F L N F' L' N'/\J F' L' N'|e=>Q e F L N) F L N)(h2:∀F L N,J F L N->awp P y Q F L N):awp P (.seq x y) Q F L N:=
 ⟨λF L N=>∃F' L' N',fa F L N F' L' N'/\J F' L' N',h1,by grind⟩
def Yr{c:Code}(Inv:List AV->Sto->Nat->Prop)(μ:List AV->Sto->Nat)(h0:∃F' L' N',fa F L N F' L' N'/\Inv F' L' N')
 (hr:∀F L N,Inv F L N->awp P c (λe F1 L1 N1=>match e with| .normal=>∃F' L' N',fa F1 L1 N1 F' L' N'/\Inv F' L' N'/\μ F' L'<μ F L|e=>Q e F1 L1 N1) F L N):awp P (.loop c) Q F L N:=⟨Inv,λF L _=>μ F L,h0,hr⟩
def W7{c:Code}(Inv:List AV->Sto->Nat->Prop)(μ:List AV->Sto->Nat->Nat)(h0:∃F' L' N',fa F L N F' L' N'/\Inv F' L' N')
 (hr:∀F L N,Inv F L N->awp P c (λe F1 L1 N1=>match e with| .normal=>∃F' L' N',fa F1 L1 N1 F' L' N'/\Inv F' L' N'/\μ F' L' N'<μ F L N|e=>Q e F1 L1 N1) F L N):awp P (.loop c) Q F L N:=⟨Inv,μ,h0,hr⟩
end
section
variable {P:Program} {N:Nat} {ds:List (Option Nat)} {K:List AV->Sto->jE->Prop}
end
end
section
def iz(P:Program):List ResultVar->List AV->(Nat->Option Ob)->(List AV->Prop)->Prop
 |[],_,_,K=>K []
 | .tmp t::rs,F,σ,K=>iz P rs F σ λl=>K (F.getD t .any::l)
 | .cell a t::rs,F,σ,K=>(match F.getD a .any with
   | .ptr s off=>∃ob,σ s=some ob/\rD P t ob.cells off λr=>iz P rs F σ λl=>K (r::l)
   |_=>False)
def vI:List PV->PV
 |[x] =>x
 |m=> .tup m
def CE(tmps:Array Value):ResultVar->Sem Value
 | .tmp t=>pure (tmps.getD t Go.undef)
 | .cell a t=>do loadVar t (<-asAddr (tmps.getD a Go.undef))
def C9(fn:Func)(tmps:Array Value):results fn tmps=(do let vs<-fn.results.mapM (CE tmps);pure (if h:vs.size=1 then vs[0]else .tuple vs)):=by
 congr 1
def Hb(P:Program)(rs:List ResultVar)(r:PV):oh:=λe F L _=>match e with
 | .normal| .ret=>iz P rs F L λl=>∃m,dj (dH 3 L) l=some m/\vI m=r
 |_=>False
section
variable {P:Program} {C0:bG} {B:Nat} {wI:World}
def xC{ρ:Ren}{σ:Nat->Option Ob}{a:Act}{w:World}{F:List AV}(hs:StR C0 ρ σ w B)(hf:∀t,aW ρ (bF C0 B w ρ σ) (F.getD t .any) (a.tmps.getD t Go.undef)):
  ∀(rs:List ResultVar) (K:List AV->Prop),iz P rs F σ K->∃l vs,K l/\(rs.mapM (CE a.tmps)).run P w= .ok vs w/\bB ρ (bF C0 B w ρ σ) l vs
 |[],K,h=>⟨[],[],h,by simp,by rfl⟩
 | .tmp t::rs,K,h=>by
   obtain⟨l,vs,h1,h2,h3⟩:=xC hs hf rs _ h;refine⟨_,_::vs,h1,?_,by exact⟨_,vs,rfl,hf t,h3⟩⟩;simp[List.mapM_cons,h2,CE]
 | .cell x t::rs,K,h=>by
   unfold iz at h;split at h
   .rename_i s off e;obtain⟨ob,hob,hl⟩:=h;obtain⟨r,hr,hv⟩:=Kd hl;obtain⟨l,vs,h1,h2,h3⟩:=xC hs hf rs _ hr;have hx:=hf x;rw[e]at hx;obtain⟨b,c,hq,hpt⟩:=hx;obtain⟨_,arr,hO⟩:=hs.at hob hq;obtain⟨v,hrun,hrep⟩:=hv _ _ w b c arr hO;have hrun':(loadVar t ⟨b,off,none⟩).run P w= .ok v w:=by simpa[Cg,Ch]using hrun
    refine⟨_,v::vs,h1,?_,by unfold bB;grind⟩;simp[List.mapM_cons,h2,CE,hpt,asAddr,hrun']
   grind
def yM:Sto:=λs=>if s=sit 0 0 then some ⟨0,0,[.undef]⟩else none
def sn(L:Sto)(N:Nat):Prop:=(L=(λ_=>none)/\N=0)\/(L=yM/\N=1)
def sn.st{L:Sto}{N:Nat}(h:sn L N){C:bG}{w:World}(hC:∀b o v,C b o v->w.cell? ⟨b,o,none⟩=some v):
  ∃ρ:Ren,StR C ρ L w w.heap.size/\(∀s,N<=cls s->ρ s=none)/\∀s b c,ρ s≠some (some b,c):=by
 rcases h with⟨rfl,rfl⟩|⟨rfl,rfl⟩
 .exact⟨λ_=>none,⟨by grind,by grind,by grind⟩,λ_ _=>rfl,by grind⟩
 .have hat:∀s o,yM s=some o->s=sit 0 0/\o=⟨0,0,[.undef]⟩:=by
   intro s o h;unfold yM at h;split at h
   .grind
   .cases h
  refine⟨λs=>if s=sit 0 0 then some (none,0)else none,⟨?_,?_,?_⟩,?_,?_⟩
  .intro s o h;obtain⟨rfl,rfl⟩:=hat s o h;have hno:∀i v,¬C w.heap.size i v:=λi v hv=>absurd (jz w ⟨w.heap.size,i,none⟩ (hC _ _ _ hv)) (Nat.lt_irrefl _);exact⟨none,0,by simp,.inl ⟨rfl,.inr ⟨rfl,.inl (by grind)⟩⟩⟩
  .grind
  .grind
  .intro s hs;try dsimp only
   split
   .rename_i e;rw[e,iH]at hs;omega
   .rfl
  grind
def Uk{f:FuncId}{fn:Func}{c:Code}{A:List PV}{r:PV}(hok:jo P f=true)(hf:P.funcs[f]? =some fn)(hb:fn.body=some c)
  {L0:Sto} {N0:Nat} (h0:sn L0 N0) (h:awp P c (Hb P fn.results.toList r) (A.map .p++cS (fn.ntmps-A.length) .undef) L0 N0):Sat P false f A r:=by
 refine⟨hok,λC w vs hC hrep=> ?_⟩;obtain⟨ρ0,z1,z2,z3⟩:=h0.st hC;have hlen:=hrep.length;refine calls_of_wp hf hb (wp_mono (EZ (C0:=C) (B:=w.heap.size) (wI:=w) c _ _ _ _ _ _ h ?_) ?_)
 .refine⟨⟨ρ0,z1,z2,λt=> ?_⟩,bI _,rfl,by simp[hlen],Below.refl _ _⟩;by_cases ht:t<A.length
  .have e1:(A.map AV.p++cS (fn.ntmps-A.length) AV.undef).getD t .any= .p A[t] :=by rw[du,mb (by grind)];simp[ht]
   obtain⟨v,h1,h2⟩:=hrep.get _ _ t A[t] (by grind);have e2:(vs.toArray++ng (fn.ntmps-vs.toArray.size) undef).getD t undef=v:=by rw[fy,Cd (by simp;omega)];simp[h1]
   rw[e1];rw[e2];refine aX.mono (λb o x hx=>⟨hC b o x hx,by grind,.inr hx⟩) _ v h2
  .by_cases ht2:t<A.length+(fn.ntmps-A.length)
   .have e1:(A.map AV.p++cS (fn.ntmps-A.length) AV.undef).getD t .any= .undef:=by rw[du,kZ (by simp;omega),yo,if_pos (by simp;omega)];rfl
    have e2:(vs.toArray++ng (fn.ntmps-vs.toArray.size) undef).getD t undef=undef:=by rw[fy,Sa (by simp;omega),Cf];split<;>rfl
    rw[e1];rw[e2];rfl
   .have e1:(A.map AV.p++cS (fn.ntmps-A.length) AV.undef).getD t .any= .any:=by rw[du,l7 (by simp;omega)];rfl
    rw[e1];trivial
 .rintro e a w' ⟨F,L,N,hq,⟨ρ,s1,s2,s3⟩,s4,s5,s6,s7⟩;have fin:iz P fn.results.toList F L (λl=>∃m,dj (dH 3 L) l=some m/\vI m=r)->a.defers=[]/\∃v,(results fn a.tmps).run P w'= .ok v w'/\∃v',Ending.returned v= .returned v'/\aX (λb o x=>((false:Bool)=false/\C b o x)\/(w.heap.size<=b/\w'.cell? ⟨b,o,none⟩=some x)) r v'/\Below w.heap.size w w':=by
   intro h;refine⟨s5,?_⟩;obtain⟨l,us,⟨m,hm,hr⟩,h2,h3⟩:=xC s1 s3 _ _ h;have hres:(results fn a.tmps).run P w'= .ok (if h:us.toArray.size=1 then us.toArray[0]else .tuple us.toArray) w':=by rw[C9,Sb];simp only[cp,Sem.run_map,h2,ct,db]
   refine⟨_,hres,_,rfl,?_,s7⟩;obtain⟨g1,g2⟩:=oH hm;have hrl:az (λb o x=>((false:Bool)=false/\C b o x)\/(w.heap.size<=b/\w'.cell? ⟨b,o,none⟩=some x)) m us:=by
    refine az.of _ _ (by rw[<-g1];exact h3.length) λi y hi=> ?_;have hlt:i<l.length:=by rw[g1];grind
    obtain⟨y',h5,h6⟩:=g2 i _ (dp hlt);rw[hi]at h5;cases h5;obtain⟨v,k1,k2⟩:=h3.get _ _ i _ (dp hlt);refine⟨v,k1,Eh s1 _ (λ_=>True) ?_ ?_ 3 _ _ v h6 (by grind) k2⟩
    .rintro b o x ⟨e1,e2,e3⟩;grind
    .grind
   rw[<-hr];cases m with
   |nil=>
    subst hrl;exact⟨[],rfl,by rfl⟩
   |cons x m=>
    cases m with
    |nil=>
     obtain⟨v,r',rfl,h7,h8⟩:=hrl;subst h8;unfold vI;grind
    |cons y m=>
     have hl:¬us.toArray.size=1:=by have:=hrl.length;simp at this;simp;omega
     unfold vI aX;grind
  cases e<;>first|exact fin hq|exact hq.elim
end
def i9:∀{l:List AV} {A:List PV},bM l=some A->l=A.map .p
 |[],A,h=>by simp[bM]at h;subst h;rfl
 |x::l,A,h=>by
  unfold bM at h;split at h
  .grind
  .rename_i y l' e;cases e;simp only[l5]at h;obtain⟨r,h1,rfl⟩:=h;rw[i9 h1];rfl
  .cases h
section
variable {P:Program} {σ:Nat->Option Ob} {f:FuncId} {fr:Bool} {A:List PV} {r:PV} {avs:List AV} {K:Res}
def DP(hs:Sat P fr f A r)(hA:bM avs=some A)(hK:K (.p r) [] []):pj P σ f avs K:=by have:=i9 hA;subst this;refine .inl ⟨A,si 3 σ A,fr,r,hs,.inl ⟨.inr hA,?_⟩⟩;rw[pf];exact hK
def Iu{R:List Nat}(hs:Sat P true f A r)(hA:dj (dH 3 σ) avs=some A)(hR:bO (cO 3 σ) avs=R)(hK:K (.p r) R []):pj P σ f avs K:=by subst hR;exact .inl ⟨A,hA,true,r,hs,by grind⟩
def UB{R:List Nat}(hs:Sat P fr f A r)(hA:dj (dH 3 σ) avs=some A)(hR:bO (cO 3 σ) avs=R)(hK:K (.p r) R (R.map (·,none))):pj P σ f avs K:=by subst hR;exact .inl ⟨A,hA,fr,r,hs,.inr hK⟩
def PV.flat:PV->Bool
 | .int .. | .bool _| .str _=>true
 | .agg l| .tup l=>l.all λx=>match x with| .int .. | .bool _| .str _=>true|_=>false
 |_=>false
def aX.flat1{C C':bG}{x:PV}{v:Value}(hf:(match x with| .int .. | .bool _| .str _=>true|_=>false)=true)(h:aX C x v):aX C' x v:=by cases x<;>first|(cases hf;done)|(unfold aX at*;exact h)
def az.flat{C C':bG}:∀{l:List PV} {vs:List Value},l.all (λx=>match x with| .int .. | .bool _| .str _=>true|_=>false)=true->az C l vs->az C' l vs
 |[],vs,_,h=>by exact h
 |x::l,vs,hf,h=>by
  obtain⟨v,r,rfl,h1,h2⟩:=h;simp only[List.all_cons,bw]at hf;exact⟨v,r,rfl,aX.flat1 hf.1 h1,az.flat hf.2 h2⟩
def aX.flat{C C':bG}{x:PV}{v:Value}(hf:x.flat=true)(h:aX C x v):aX C' x v:=by
 cases x<;>first|(cases hf;done)|(unfold aX at*;exact h)|skip
 .obtain⟨vs,h1,h2,h3⟩:=h;exact⟨vs,h1,az.flat hf h2,h3⟩
 .obtain⟨vs,h1,h2⟩:=h;exact⟨vs,h1,az.flat hf h2⟩
def Sat.fresh(hs:Sat P fr f A r)(hf:r.flat=true):Sat P true f A r:=
 ⟨hs.1,λC w vs hC hr=>(hs.2 C w vs hC hr).mono λ_e _w' ⟨v,h1,h2,h3⟩=>⟨v,h1,aX.flat hf h2,h3⟩⟩
end
def Hc(P:Program)(rs:List ResultVar)(ty esz:Nat)(cells:List PV)(m:Nat)(ys:List PV):oh:=λe F L _=>match e with
 | .normal| .ret=>iz P rs F L λl=>(∃s,l= .own s 0 m::ys.map .p/\L s=some ⟨ty,esz,cells.map .p⟩)\/(l= .nil::ys.map .p/\m=0/\cells=[])
 |_=>False
section
variable {P:Program} {C0:bG} {B:Nat} {wI:World}
def bB.Eu{ρ:Ren}{C:bG}:∀{l:List PV} {vs:List Value},bB ρ C (l.map .p) vs->az C l vs
 |[],vs,h=>by exact h
 |x::l,vs,h=>by
  obtain⟨v,r,rfl,h2,h3⟩:=h;exact⟨v,r,rfl,h2,bB.Eu h3⟩
def KC{f:FuncId}{fn:Func}{c:Code}{A:List PV}{Q:oh}{C:bG}{w:World}{vs:List Value}{R:Ending->World->Prop}(hf:P.funcs[f]? =some fn)(hb:fn.body=some c)(hC:∀b o v,C b o v->w.cell? ⟨b,o,none⟩=some v)(hrep:az C A vs)
  {L0:Sto} {N0:Nat} (h0:sn L0 N0) (h:awp P c Q (A.map .p++cS (fn.ntmps-A.length) .undef) L0 N0)
  (hR:∀e a w' F L N,Q e F L N->St C w.heap.size w F L N a w'->(match e with| .normal| .ret=>a.defers=[]/\∃v,(results fn a.tmps).run P w'= .ok v w'/\R (.returned v) w'|_=>False)):Calls P f vs.toArray w R:=by
 obtain⟨ρ0,z1,z2,z3⟩:=h0.st hC;have hlen:=hrep.length;refine calls_of_wp hf hb (wp_mono (EZ (C0:=C) (B:=w.heap.size) (wI:=w) c _ _ _ _ _ _ h ?_) ?_)
 .refine⟨⟨ρ0,z1,z2,λt=> ?_⟩,bI _,rfl,by simp[hlen],Below.refl _ _⟩;by_cases ht:t<A.length
  .have e1:(A.map AV.p++cS (fn.ntmps-A.length) AV.undef).getD t .any= .p A[t] :=by rw[du,mb (by grind)];simp[ht]
   obtain⟨v,h1,h2⟩:=hrep.get _ _ t A[t] (by grind);have e2:(vs.toArray++ng (fn.ntmps-vs.toArray.size) undef).getD t undef=v:=by rw[fy,Cd (by simp;omega)];simp[h1]
   rw[e1];rw[e2];refine aX.mono (λb o x hx=>⟨hC b o x hx,by grind,.inr hx⟩) _ v h2
  .by_cases ht2:t<A.length+(fn.ntmps-A.length)
   .have e1:(A.map AV.p++cS (fn.ntmps-A.length) AV.undef).getD t .any= .undef:=by rw[du,kZ (by simp;omega),yo,if_pos (by simp;omega)];rfl
    have e2:(vs.toArray++ng (fn.ntmps-vs.toArray.size) undef).getD t undef=undef:=by rw[fy,Sa (by simp;omega),Cf];split<;>rfl
    rw[e1];rw[e2];rfl
   .have e1:(A.map AV.p++cS (fn.ntmps-A.length) AV.undef).getD t .any= .any:=by rw[du,l7 (by simp;omega)];rfl
    rw[e1];trivial
 .rintro e a w' ⟨F,L,N,hq,hS⟩;have:=hR e a w' F L N hq hS;cases e<;>first|exact this|exact this.elim
def Tu{f:FuncId}{fn:Func}{c:Code}{A:List PV}{ty esz:Nat}{cells:List PV}{m:Nat}{ys:List PV}(hok:jo P f=true)(he:esz≠0)(hf:P.funcs[f]? =some fn)(hb:fn.body=some c)
  {L0:Sto} {N0:Nat} (h0:sn L0 N0) (h:awp P c (Hc P fn.results.toList ty esz cells m ys) (A.map .p++cS (fn.ntmps-A.length) .undef) L0 N0):vS P f A ty esz cells m ys:=by
 refine⟨hok,he,λC w vs hC hrep=>KC hf hb hC hrep h0 h ?_⟩;rintro e a w' F L N hq ⟨⟨ρ,s1,s2,s3⟩,s4,s5,s6,s7⟩;have fin:iz P fn.results.toList F L (λl=>(∃s,l= .own s 0 m::ys.map .p/\L s=some ⟨ty,esz,cells.map .p⟩)\/(l= .nil::ys.map .p/\m=0/\cells=[]))->a.defers=[]/\∃v,(results fn a.tmps).run P w'= .ok v w'/\∃v' us q c,Ending.returned v= .returned (yO v' us)/\Below w.heap.size w w'/\az (oc C w.heap.size q w') ys us/\
   ((q=none/\v'= .slice none 0 0/\m=0/\cells=[]/\c=0)\/∃b arr,q=some b/\v'= .slice (some ⟨b,0,none⟩) m c/\m<=c/\w.heap.size<=b/\w'.heap[b]? =some (.cells arr ty (0,0))/\
     arr.size=c*esz/\cells.length<=arr.size/\c<=maxLen/\∀(i:Nat) x,cells[i]? =some x->∃u,arr[i]? =some u/\u.oneCell'=true/\aX (oc C w.heap.size q w') x u):=by
  intro h;refine⟨s5,?_⟩;obtain⟨l,us,hl,h2,h3⟩:=xC s1 s3 _ _ h;have hres:(results fn a.tmps).run P w'= .ok (if h:us.toArray.size=1 then us.toArray[0]else .tuple us.toArray) w':=by rw[C9,Sb];simp only[cp,Sem.run_map,h2,ct,db]
  refine⟨_,hres,?_⟩;have hout:∀v us',us=v::us'->(if h:us.toArray.size=1 then us.toArray[0]else Value.tuple us.toArray)=yO v us':=by
   rintro v us' rfl;cases us' with
   |nil=>rfl
   |cons u us'=>rfl
  rcases hl with⟨s,rfl,hs⟩|⟨rfl,hm,hc⟩
  .obtain⟨v,us',rfl,hv,hys⟩:=h3;obtain⟨q,c,hρ,hcase⟩:=hv;have hkeep:∀b o x,bF C w.heap.size w' ρ L b o x->oc C w.heap.size q w' b o x:=by
    rintro b o x ⟨e1,e2,e3|e3⟩
    .refine .inr ⟨e3,λhq=> ?_,e1⟩;grind
    .exact .inl e3
   refine⟨v,us',q,c,by grind,s7,az.mono hkeep _ _ (bB.Eu hys),?_⟩;obtain⟨q2,c2,hρ2,hob⟩:=s1.ob s _ hs;rw[hρ]at hρ2;cases hρ2;rcases hcase with⟨h1,h4,h5,_⟩|⟨b,o',c',h1,h4,h5,h6,h7⟩
   .simp_all
   .obtain⟨rfl,rfl⟩:=h7 rfl;rcases hob with⟨h8,_⟩|⟨b2,arr,h8,h9,h10⟩
    .grind
    .rw[h1]at h8;cases h8;obtain⟨r1,r2,r3⟩:=h10.row he;refine .inr ⟨b,arr,h1,h4,h5,h9,h10.blk,r1,by grind,r3,λi x hi=> ?_⟩;obtain⟨u,k1,k2,k3⟩:=h10.cells i (.p x) (by grind);exact⟨u,k1,k2,aX.mono hkeep x u k3⟩
  .obtain⟨v,us',rfl,hv,hys⟩:=h3;refine⟨v,us',none,0,by grind,s7,az.mono ?_ _ _ (bB.Eu hys),.inl ⟨rfl,hv,hm,hc,rfl⟩⟩;rintro b o x ⟨e1,e2,e3|e3⟩
   .exact .inr (by grind)
   .exact .inl e3
 cases e<;>first|exact fin hq|exact hq.elim
end
end
section
def Yu{ρ:Ren}{C:bG}{A:List AV}{vs:List Value}{n:Nat}(h:bB ρ C A vs)(t:Nat):aW ρ C ((A++cS (n-A.length) AV.undef).getD t .any) ((vs.toArray++ng (n-vs.toArray.size) Go.undef).getD t Go.undef):=by
 have hlen:=h.length;by_cases ht:t<A.length
 .obtain⟨v,h1,h2⟩:=h.get _ _ t A[t] (dp ht);have e1:(A++cS (n-A.length) AV.undef).getD t .any=A[t] :=by rw[du,mb ht];simp[ht]
  have e2:(vs.toArray++ng (n-vs.toArray.size) Go.undef).getD t Go.undef=v:=by rw[fy,Cd (by simp;omega)];simp[h1]
  grind
 .by_cases ht2:t<A.length+(n-A.length)
  .have e1:(A++cS (n-A.length) AV.undef).getD t .any= .undef:=by rw[du,kZ (by omega),yo,if_pos (by omega)];rfl
   have e2:(vs.toArray++ng (n-vs.toArray.size) Go.undef).getD t Go.undef=Go.undef:=by rw[fy,Sa (by simp;omega),Cf];split<;>rfl
   rw[e1,e2];unfold aW;rfl
  .have e1:(A++cS (n-A.length) AV.undef).getD t .any= .any:=by rw[du,l7 (by simp;omega)];rfl
   rw[e1];unfold aW;trivial
abbrev eo:Nat:=sit 0 0
def Eg{C0:bG}{B:Nat}{ρ:Ren}{w:World}{L:Sto}{S:List AV}(h:StR C0 ρ L w B)(hL:L eo=some ⟨0,0,.undef::S⟩):
  ∃c,ρ eo=some (none,c)/\(∀(i:Nat) x,(AV.undef::S)[i]? =some x->∀v,C0 B i v->aW ρ (bF C0 B w ρ L) x v)/\∀i v,C0 B i v->i<(AV.undef::S).length:=by
 obtain⟨q,c,h1,⟨rfl,h2|⟨_,h2⟩⟩|⟨b,arr,_,_,h2⟩⟩:=h.ob _ _ hL
 .grind
 .rcases h2 with⟨_,h3,h4⟩|⟨h3,_⟩
  .grind
  .cases h3
 .obtain⟨v,_,h3,h4⟩:=h2.cells 0 .undef rfl;unfold aW at h4;subst h4;cases h3
def StR.stk{C0 C1:bG}{B:Nat}{ρ:Ren}{w:World}{L:Sto}{S T:List AV}(h:StR C0 ρ L w B)(hL:L eo=some ⟨0,0,.undef::S⟩)(h1:∀b,b<B->C1 b=C0 b)
  (h2:∀(i:Nat) x,T[i]? =some x->∀v,C1 B i v->aW ρ (bF C0 B w ρ L) x v) (h3:∀i v,C1 B i v->i<T.length):
  (∀b o x,bF C1 B w ρ (bC L [(eo,some ⟨0,0,T⟩)]) b o x↔bF C0 B w ρ L b o x)/\StR C1 ρ (bC L [(eo,some ⟨0,0,T⟩)]) w B:=by
 obtain⟨c0,k1,_,_⟩:=Eg h hL;have hup:∀s,s≠eo->bC L [(eo,some ⟨0,0,T⟩)] s=L s:=by intro s hs;unfold bC;simp[iE,beq_eq_false_iff_ne.2 hs]
 have hus:bC L [(eo,some ⟨0,0,T⟩)] eo=some ⟨0,0,T⟩:=by unfold bC;simp[iE]
 have hC:∀b o x,bF C1 B w ρ (bC L [(eo,some ⟨0,0,T⟩)]) b o x↔bF C0 B w ρ L b o x:=by
  intro b o x;have e:(B<=b\/C1 b o x)↔(B<=b\/C0 b o x):=by
   rcases nY b B with hb|hb
   .rw[h1 b hb]
   .omega
  unfold bF;rw[e];refine and_congr_right λ_=>and_congr_left λ_=>forall_congr' λs=>forall_congr' λc=> ?_;by_cases hs:s=eo
  .grind
  .rw[hup s hs]
 refine⟨hC,?_,?_,?_⟩
 .intro s o ho;by_cases hs:s=eo
  .subst hs;rw[hus]at ho;cases ho;exact⟨none,c0,k1,.inl ⟨rfl,.inr ⟨rfl,.inl ⟨rfl,λi x hi v hv=>aW.mono (λ_ _ h=>h) (λb o x h=>(hC b o x).2 h) x v (h2 i x hi v hv),h3⟩⟩⟩⟩
  .rw[hup s hs]at ho;obtain⟨q,c,e1,⟨e2,e3|⟨e3,e4⟩⟩|⟨b,arr,e2,e3,e4⟩⟩:=h.ob s o ho
   .grind
   .refine⟨q,c,e1,.inl ⟨e2,.inr ⟨e3,?_⟩⟩⟩;rcases e4 with⟨f1,f2,f3⟩|⟨f1,f2,es,clock,f3,f4⟩
    .subst e2;exact absurd (h.mpi s eo o _ c c0 ho hL e3 rfl e1 k1 (.inr ⟨f1,rfl⟩)) hs
    .exact .inr ⟨f1,f2,es,clock,f3,bB.mono (λ_ _ h=>h) (λb o x h=>(hC b o x).2 h) _ _ f4⟩
   .refine⟨q,c,e1,.inr ⟨b,arr,e2,e3,e4.blk,e4.box,e4.row,λi x hi=> ?_⟩⟩;obtain⟨v,g1,g2,g3⟩:=e4.cells i x hi;exact⟨v,g1,g2,aW.mono (λ_ _ h=>h) (λb o x h=>(hC b o x).2 h) x v g3⟩
 .intro s s' o o' b c c' e1 e2 e3 e4;have n1:s≠eo:=λe=>by grind
  have n2:s'≠eo:=λe=>by grind
  rw[hup s n1]at e1;rw[hup s' n2]at e2;exact h.inj s s' o o' b c c' e1 e2 e3 e4
 .intro s s' o o' c c' e1 e2 m1 m2 e3 e4 hT;have key:∀s o,bC L [(eo,some ⟨0,0,T⟩)] s=some o->∃o2,L s=some o2/\o2.ty=o.ty/\o2.esz=o.esz:=by
   intro s o ho;by_cases hs:s=eo
   .grind
   .grind
  obtain⟨p,f1,f2,f3⟩:=key s o e1;obtain⟨p',f1',f2',f3'⟩:=key s' o' e2;exact h.mpi s s' p p' c c' f1 f1' (by omega) (by omega) e3 e4 (by unfold rP at*;grind)
variable {P:Program}
def rM:List AV->AV
 |[] => .undef
 |[x] =>x
 |l=> .tup l
def NR{C0:bG}{B:Nat}{fn:Func}{ρ:Ren}{σ:Nat->Option Ob}{a:Act}{w:World}{F:List AV}{K:List AV->Prop}(hs:StR C0 ρ σ w B)(hf:∀t,aW ρ (bF C0 B w ρ σ) (F.getD t .any) (a.tmps.getD t Go.undef))(h:iz P fn.results.toList F σ K):
  ∃l v,K l/\(results fn a.tmps).run P w= .ok v w/\aW ρ (bF C0 B w ρ σ) (rM l) v:=by
 obtain⟨l,us,hl,h2,h3⟩:=xC hs hf _ _ h;have hres:(results fn a.tmps).run P w= .ok (if h:us.toArray.size=1 then us.toArray[0]else .tuple us.toArray) w:=by rw[C9,Sb];simp only[cp,Sem.run_map,h2,ct,db]
 refine⟨l,_,hl,hres,?_⟩;match l,us,h3 with
 |[],us,h3=>unfold bB at h3;subst h3;show aW _ _ .undef _;unfold aW;rfl
 |[x],us,h3=>
  unfold bB at h3;obtain⟨v,r,rfl,h4,h5⟩:=h3;unfold bB at h5;subst h5;exact h4
 |x::y::l,us,h3=>
  have hlen:=h3.length;rw[dif_neg (by grind)];show aW _ _ (.tup (x::y::l)) _;unfold aW;grind
def R4(P:Program)(rs:List ResultVar)(d:Option Nat)(m n:Nat)(K:List AV->Sto->Nat->Prop):oh:=λe Fc Lc Nc=>match e with
 | .normal| .ret=>iz P rs Fc Lc λl=>∃S F2,Lc eo=some ⟨0,0,.undef::(S++F2)⟩/\S.length=m/\F2.length=n/\K (eT F2 d (rM l)) (bC Lc [(eo,some ⟨0,0,.undef::S⟩)]) Nc
 |_=>False
def YK{o:Oper}{c:Call}{f:Operand}{fid:FuncId}{fn:Func}{body:Code}{A S F:List AV}{L:Sto}{N:Nat}{K:List AV->Sto->Nat->Prop}(ho:o.op= .call c)(hc:c.callee= .value f)(hfv:kC F f= .p (.fn (.func fid) [] []))
  (hA:c.args.toList.map (kC F)=A) (hok:jo P fid=true) (hf:P.funcs[fid]? =some fn) (hb:fn.body=some body) (hL:L eo=some ⟨0,0,.undef::S⟩)
  (h:awp P body (R4 P fn.results.toList o.dst S.length F.length K) (A++cS (fn.ntmps-A.length) .undef) (bC L [(eo,some ⟨0,0,.undef::(S++F)⟩)]) N):tQ P o F L N K:=by
 intro C0 B wI a w ⟨⟨ρ,s1,s2,s3⟩,s4,s5,s6,s7⟩;obtain⟨c0,k1,k2,k3⟩:=Eg s1 hL
 let V:Nat->Value:=λs=>a.tmps.getD s Go.undef
 have hev:∀x:Operand,aW ρ (bF C0 B w ρ L) (kC F x) (bK V x):=λx=>AI λt _=>s3 t;have hvf:bK V f= .func (.func fid) #[] #[] :=by have:=hev f;rw[hfv]at this;unfold aW aX at this;obtain⟨v1,v2,h1,h2,h3⟩:=this;unfold az at h2 h3;rw[h1,h2,h3]
 have hrun:(execOp (bK V) o).run P w= .ok (.enter fid (c.args.toList.map (bK V)).toArray) w:=by
  unfold execOp;rw[ho];have e2: #[] ++tZ (bK V) c.args++ #[] =(c.args.toList.map (bK V)).toArray:=by apply pN.1;simp
  simp only[resolve,hc,hvf,tc,cp,db,ct,invoke,lK hok,e2]
 have hargs:bB ρ (bF C0 B w ρ L) A (c.args.toList.map (bK V)):=by
  rw[<-hA];generalize c.args.toList=l;induction l with
  |nil=>simp only[lC];unfold bB;rfl
  |cons x l ih=>simp only[dB];unfold bB;grind
 let C1:bG:=λb i v=>if b=B then(if i<(AV.undef::S).length then C0 B i v else a.tmps[i-(AV.undef::S).length]? =some v)else C0 b i v
 have hC1:∀b,b<B->C1 b=C0 b:=λb hb=>by grind
 have hC1B:∀i v,C1 B i v->if i<(AV.undef::S).length then C0 B i v else a.tmps[i-(AV.undef::S).length]? =some v:=λi v hv=>by grind
 obtain⟨hCC,hst⟩:=s1.stk (C1:=C1) (T:= .undef::(S++F)) hL hC1 (by
  intro i x hi v hv;have hv:=hC1B i v hv;rw[<-kM]at hi;split at hv
  .grind
  .rename_i hlt;rw[kZ (by omega)]at hi;have:=s3 (i-(AV.undef::S).length);simp_all) (by
  grind)
 unfold cN;rw[hrun];dsimp only;have hlen:=hargs.length;have hfin:∀(e:Exit) (a':Act) (w':World),(∃F' L' N',R4 P fn.results.toList o.dst S.length F.length K e F' L' N'/\St C1 B w F' L' N' a' w')->
   match e with| .normal| .ret=>a'.defers=[]/\∃v,(results fn a'.tmps).run P w'= .ok v w'/\∃v',Ending.returned v= .returned v'/\∃F' L' N',K F' L' N'/\St C0 B wI F' L' N' (a.put o.dst v') w'|_=>False:=by
  rintro e a' w' ⟨Fc,Lc,Nc,hq,⟨⟨ρ1,t1,t2,t3⟩,t4,t5,t6,t7⟩⟩;have fin:iz P fn.results.toList Fc Lc (λl=>∃S2 F2,Lc eo=some ⟨0,0,.undef::(S2++F2)⟩/\S2.length=S.length/\F2.length=F.length/\K (eT F2 o.dst (rM l)) (bC Lc [(eo,some ⟨0,0,.undef::S2⟩)]) Nc)->
    a'.defers=[]/\∃v,(results fn a'.tmps).run P w'= .ok v w'/\∃v',Ending.returned v= .returned v'/\∃F' L' N',K F' L' N'/\St C0 B wI F' L' N' (a.put o.dst v') w':=by
   intro hr;obtain⟨l,v,⟨S2,F2,hL2,hS2,hF2,hK⟩,hres,hrep⟩:=NR t1 t3 hr;refine⟨t5,v,hres,v,rfl,_,_,Nc,hK,?_⟩;obtain⟨c1,j1,j2,j3⟩:=Eg t1 hL2;have hl2:(AV.undef::S2).length=(AV.undef::S).length:=by simp[hS2]
   obtain⟨hCC2,hst2⟩:=t1.stk (C1:=C0) (T:= .undef::S2) hL2 (λb hb=>(hC1 b hb).symm) (by
    grind) (by
    grind)
   have hfr:∀t,aW ρ1 (bF C0 B w' ρ1 (bC Lc [(eo,some ⟨0,0,.undef::S2⟩)])) (F2.getD t .any) (a.tmps.getD t Go.undef):=by
    intro t;by_cases ht:t<F2.length
    .have htm:t<a.tmps.size:=by rw[s6];omega
     have e1:F2.getD t .any=F2[t] :=by rw[du];simp[ht]
     have e2:a.tmps.getD t Go.undef=a.tmps[t] :=by rw[fy];simp[htm]
     rw[e1,e2];refine aW.mono (λ_ _ h=>h) (λb o x h=>(hCC2 b o x).2 h) _ _ (j2 ((AV.undef::S).length+t) F2[t] (by grind) a.tmps[t] ?_);grind
    .rw[du,l7 (by omega)];show aW _ _ .any _;unfold aW;trivial
   refine⟨⟨ρ1,hst2,t2,λt=> ?_⟩,t4,by cases hd:o.dst<;>exact s5,by rw[DK,hF2];cases hd:o.dst<;>simpa[mh]using s6,s7.trans t7⟩;rw[KQ,Ls,s6];by_cases e:o.dst=some t/\t<F.length
   .rw[if_pos (by grind),if_pos e];exact aW.mono (λ_ _ h=>h) (λb o x h=>(hCC2 b o x).2 h) _ _ hrep
   .grind
  cases e<;>first|exact fin hq|exact hq.elim
 refine calls_of_wp hf hb (wp_mono (EZ (C0:=C1) (B:=B) (wI:=w) body _ _ _ _ _ _ h ?_) ?_)
 .refine⟨⟨ρ,hst,s2,λt=> ?_⟩,s4,rfl,by simp[hlen],Below.refl _ _⟩;exact aW.mono (λ_ _ h=>h) (λb o x h=>(hCC b o x).2 h) _ _ (Yu hargs t)
 .intro e a' w' h;have:=hfin e a' w' h;cases e<;>first|exact this|exact this.elim
end
end Go.Proofs.YtdaeofhdgabhjaaGreat
