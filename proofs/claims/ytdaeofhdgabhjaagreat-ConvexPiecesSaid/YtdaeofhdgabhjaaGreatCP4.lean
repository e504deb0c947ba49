/- What the statement stands on: contracts of functions, plain laws. Part 4 of 6, no condition of its own. (X9 X10 Shelf2 L1 K1 K2 K3 K4 K5 K6 K7 K8 K9 K10 J1 K11 K12 E16 J2 J3 J4 J5 K42) -/
import Derived.Test.YtdaeofhdgabhjaaGreatCP3
import Derived.ChangeKeysEq
import Derived.Shelf.SlSortCmp.NoneTotal
import Derived.Shelf.SlicesE.DeleteFunc
import Derived.Ground.SlsfProg
import Derived.Ground.SlgfProg
import Derived.Lib.SliceRun
import Derived.Lib.AppendZerosOnto
import Derived.OrdersIn
import Derived.RangeFuncCalls
import Derived.TacticsIn
import Derived.RangeFuncNested
import Derived.RangeFuncBound
import Derived.RangeFuncLeaves
import Derived.RangeFuncFrom
import Derived.Shelf.Abstract
import Derived.OwnWalkIn
import Derived.TacticsInMore
import Derived.LoopNIn
import Derived.LoopIn
set_option linter.all false
set_option maxRecDepth 100000
set_option maxHeartbeats 8000000
open Nat renaming blt->ib,zero_le->iY,ble->mi,beq->bH,le_of_ble_eq_true->mA,eq_of_beq_eq_true->dI,ne_of_gt->nk,lt_or_ge->nY,zero_add->jy,le_trans->cF,mod_lt->bq,gcd->bX,gcd_comm->yv,le_refl->bI,add_assoc->rS,eq_zero_or_pos->qN,mul_le_mul->tX,le_antisymm->tf,lt_of_lt_of_le->vl,reduceAdd->v8,reduceSub->wA
open List renaming length->dA,map_cons->dB,length_cons->gk,length_nil->lv,length_map->da,map_nil->lC,replicate->cS,getElem?_map->gW,getElem?_eq_getElem->dp,getElem?_append_right->kZ,getElem?_eq_none->l7,range->bQ,mem_singleton->bi,map_map->dq,mem_cons->bT,length_filter_le->yt,all_eq_true->bk,mem_map->bZ,size_toArray->rW,getElem?_eq_some_iff->rX,mem_cons_self->cI,take_add_one->lJ,foldl_append->vz,take->aP,drop->cY,take_of_length_le->fT,take_length->ke,range_succ->qS,map_append->dM,sum_append->rV,getElem_of_mem->jX,mem_range->cG,ext_getElem->rT,length_append->eW,all_eq_false->v6,any_eq_true->l0,any_eq_false->IV,flatten_append->te,take_succ_eq_append_getElem->iR,any->fe,mem_cons_of_mem->cE,flatten->ff,all->tg,flatMap_cons->fM,map_flatMap->IW,push_toArray->wF,append_toArray->wG,nil_append->qT,cons_append->kM
open Option renaming map_some->eO,map_eq_some_iff->l5,getD_some->lH
open Go.Sem renaming run->fo,run_bind->cp,run_pure->db
open Go.Proofs.Tryz renaming prog->bE,underlying3->rY,isAgg3->td,sizeOf3->vq,underlying4->IU,func179->Ct
open Go.Op renaming equalIn->tV
open Go.Value renaming int->cg,ownBlock->Ci
open Go.Result renaming andThen_ok->ct
open Bool renaming eq_iff_iff->fm,not_true->yY,false_eq_true->qM,and_eq_true->bw,or_eq_true->jv,true_and->nT
open Go.Instr renaming checkKey->yp
open Int renaming mul_nonneg->cV,natAbs->cJ,tmod->cD,natAbs_tmod->yu,tdiv->eP
open And renaming intro->bl
open Decidable renaming of_not_not->rb,not_not->SL
open Go.IntKind renaming i64->i7
open Go.Region renaming wanted->ia,binds->iD
open Go.Oper renaming semAt_some->yy
open Array renaming replicate->ng,getD_eq_getD_getElem?->fy,getElem?_eq_some_iff->v7,replicate_succ->wC,replicate_zero->wD
open Go.Act renaming put->mh
open Go.World renaming cell?_of_block->jI
open Go.RowKit
open Go.Proofs.YtdaeofhdgabhjaaGreat.Geo
open Go.Proofs.YtdaeofhdgabhjaaGreat.Geo renaming sub->aE1,fF->aE2,nth->aEY,bM->aE5
namespace Go.Proofs.YtdaeofhdgabhjaaGreat
section
noncomputable section
def oi(P:Program)(n:Nat)(F:Frm)(σ:Sg):List ResultVar->Option (List SV)
 |[] =>some []
 | .tmp t::rs=>(match ib t n,oi P n F σ rs with|true,some l=>some (F.at t::l)|_,_=>none)
 | .cell a t::rs=>(match ib a n,F.at a,oi P n F σ rs with
   |true,.ptr s off,some l=>(match σ s with
    |some (.box _ cs)=>(match oZ P t cs off with|some r=>some (r::l)|none=>none)
    |some (.arr _ _ cs)=>(match oZ P t cs off with|some r=>some (r::l)|none=>none)
    |_=>none)
   |_,_,_=>none)
def qp{P:Program}{n:Nat}{F:Frm}{σ:Sg}:∀{rs:List ResultVar} {l:List SV} {K:List AV->Prop},oi P n F σ rs=some l->K (avs l)->iz P rs (F.av n) σ.a K
 |[],l,K,h,hK=>by cases h;exact hK
 | .tmp t::rs,l,K,h,hK=>by
   unfold oi at h;split at h<;>cases h;rename_i l' h1 h2;unfold iz;refine qp h2 ?_;rw[Frm.mM ((j7 _ _).1 h1)];exact hK
 | .cell a t::rs,l,K,h,hK=>by
   unfold oi at h;split at h
   case h_2=>cases h
   rename_i s off l' h1 h2 h3;unfold iz;rw[Frm.mM ((j7 _ _).1 h1),h2];split at h
   .rename_i ty cs hs;split at h<;>cases h;rename_i r hr;exact⟨_,by rw[Sg.cM,hs];rfl,qh hr (qp h3 hK)⟩
   .rename_i ty ez cs hs;split at h<;>cases h;rename_i r hr;exact⟨_,by rw[Sg.cM,hs];rfl,qh hr (qp h3 hK)⟩
   .cases h
def tI:List SV->SV
 |[x] =>x
 |l=> .tup l
def CO(P:Program)(n:Nat)(rs:List ResultVar)(r:SV)(F:Frm)(L:aU):Fm:=match oi P n F L.at rs with
 |some l=>(match kE (kW 3 L.at) l with
  |some (ps,m)=>(match eqv 3 r (tI m)with
   |some (qs,[])=>rC (ps++qs) .tt
   |_=> .stuck 920000)
  |none=> .stuck 930000)
 |none=> .stuck 940000
def Rq(P:Program)(n:Nat)(rs:List ResultVar)(r:SV):og:=λe F L _=>match e with
 | .normal=>CO P n rs r F L
 | .ret=>CO P n rs r F L
 |_=> .stuck 910000
def ZP{P:Program}{n:Nat}{rs:List ResultVar}{r:SV}{q:PV}(hr:r.av= .p q){e:Exit}{F:Frm}{L:aU}{N:Nat}(h:(Rq P n rs r e F L N).holds):Hb P rs q e (F.av n) L.fn N:=by
 have key:(CO P n rs r F L).holds->iz P rs (F.av n) L.fn λl=>∃m,dj (dH 3 L.fn) l=some m/\vI m=q:=by
  intro h;unfold CO at h;split at h
  case h_2=>exact h.elim
  rename_i l hl;split at h
  case h_2=>exact h.elim
  rename_i ps m hm;split at h
  case h_2=>exact h.elim
  rename_i qs he;have hp:=(rm h).1;have e2:Sg.a L.at=L.fn:=rfl;rw[<-e2];refine qp hl ?_;obtain⟨u,h1,h2⟩:=xS (λx ps y=>Ei) hm (λp hpp=>hp p (by grind));refine⟨u,h1,?_⟩;have h3:=uZ (m:=λ_=>none) 3 r (tI m) qs [] he (λp hpp=>hp p (by grind)) (λq hq=>by cases hq);rw[hr]at h3;unfold cU at h3;have h4:(tI m).av= .p (vI u):=by
   cases m with
   |nil=>
    have:u=[] :=by have:=congrArg dA h2;simp[avs]at this;grind
    subst this;rfl
   |cons x m=>
    cases m with
    |nil=>
     cases u with
     |nil=>simp[avs]at h2
     |cons y u=>
      have h5:u=[] :=by have:=congrArg dA h2;simp only[avs,dB,gk,lv,da]at this;grind
      subst h5;simp only[avs,dB,lC,List.cons.injEq,and_true]at h2;exact h2
    |cons y m=>
     have h5:(tI (x::y::m)).av=kA (avs (x::y::m)):=rfl;rw[h5,h2];unfold kA;rw[dU];cases u with
     |nil=>simp[avs]at h2
     |cons a u=>
      cases u with
      |nil=>simp[avs]at h2
      |cons b u=>rfl
  rw[h4]at h3;cases h3;rfl
 cases e<;>first|exact h.elim|exact key h
structure Ar(α:Type) where
 enc:α->SV
 dec:SV->Option α
 ok:∀s a,dec s=some a->s.av=(enc a).av
 pl:∀a,∃q,(enc a).av= .p q
structure Arl(α:Type) where
 enc:α->List SV
 dec:List SV->Option α
 ok:∀s a,dec s=some a->avs s=avs (enc a)
 pl:∀a,∃q:List PV,avs (enc a)=q.map .p
def a0:Arl Unit:=⟨λ_=>[],λl=>match l with|[] =>some ()|_=>none,by grind,λ_=>⟨[],rfl⟩⟩
def a1{α:Type}(A:Ar α):Arl α:=⟨λa=>[A.enc a],λl=>match l with|[x] =>A.dec x|_=>none,λs a h=>by
  match s,h with
  |[x],h=>simp only[avs,A.ok x a h],
 λa=>by obtain⟨q,h⟩:=A.pl a;exact⟨[q],by simp only[avs,h,dB,lC]⟩⟩
def ac{α β:Type}(A:Ar α)(B:Arl β):Arl (α×β):=⟨λa=>A.enc a.1::B.enc a.2,λl=>match l with
  |x::r=>(match A.dec x,B.dec r with|some a,some b=>some (a,b)|_,_=>none)
  |_=>none,λs a h=>by
  match s,h with
  |x::r,h=>
   dsimp only at h;split at h<;>cases h;rename_i a b h1 h2;simp only[avs,A.ok x a h1,B.ok r b h2],
 λa=>by obtain⟨q,h⟩:=A.pl a.1;obtain⟨r,k⟩:=B.pl a.2;exact⟨q::r,by simp only[avs,h,k,dB]⟩⟩
def aI:Ar Int:=⟨λn=> .int .i64 n,λs=>match s with| .int .i64 n=>some n|_=>none,by grind,λ_=>⟨_,rfl⟩⟩
def aN:Ar Nat:=⟨λn=> .int .i64 (n:Int),λs=>match s with| .int .i64 (.ofNat n)=>some n|_=>none,λ_ _ h=>by
 (split at h<;>cases h;rfl),λ_=>⟨_,rfl⟩⟩
def aB:Ar Bool:=⟨λb=> .bool b,yK,λ_ _ h=>xJ h,λ_=>⟨_,rfl⟩⟩
def aV:Ar V:=⟨λv=> .agg [.int .i64 v.x,.int .i64 v.y],λs=>match s with| .agg [.int .i64 x,.int .i64 y] =>some ⟨x,y⟩|_=>none,by grind,λ_=>⟨_,rfl⟩⟩
def aS:Ar Geo.S:=⟨λs=> .agg [.int .i64 s.a.x,.int .i64 s.a.y,.int .i64 s.b.x,.int .i64 s.b.y],λs=>match s with| .agg [.int .i64 x,.int .i64 y,.int .i64 z,.int .i64 w] =>some ⟨⟨x,y⟩,⟨z,w⟩⟩|_=>none,by grind,λ_=>⟨_,rfl⟩⟩
def aT:Ar Pt:=⟨λp=> .agg [.int .i64 p.x,.int .i64 p.y,.int .i64 p.den],λs=>match s with| .agg [.int .i64 x,.int .i64 y,.int .i64 z] =>some ⟨x,y,z⟩|_=>none,by grind,λ_=>⟨_,rfl⟩⟩
def ol(t:LT)(s:SV):Option (List t.ty):=match s with
 | .lst t' l=>(match decEq t' t with| .isTrue h=>some (h▸l)| .isFalse _=>none)
 | .sl 0 [] =>some []
 | .sl n cs=>t.decs n cs
 |_=>none
def qt{t:LT}{s:SV}{l:List t.ty}(h:ol t s=some l):s.av= .p (.sl l.length (t.enc l)):=by
 unfold ol at h;split at h
 .split at h
  .rename_i e _;subst e;cases h;rfl
  .cases h
 .cases h;rfl
 .rename_i n cs _;obtain⟨e1,e2⟩:=LT.ud h;show(match bM (avs cs)with|some q=>AV.p (.sl n q)|none=> .any)=_;rw[e2,dU,e1]
 .cases h
def aL(t:LT):Ar (List t.ty):=⟨λl=> .lst t l,ol t,λ_ _ h=>qt h,λ_=>⟨_,rfl⟩⟩
def shD(s:SV):Option Shape:=match s with
 | .agg [r,h] =>(match ol .V r,ol .R h with|some o,some hs=>some ⟨o,hs⟩|_,_=>none)
 |_=>none
def aAv(s:SV)(a:Shape)(h:shD s=some a):s.av=(SV.agg [.lst .V a.outer,.lst .R a.holes]).av:=by
 unfold shD at h;split at h
 .split at h<;>cases h;rename_i o hs h1 h2;simp only[SV.av,avs,qt h1,qt h2]
 .cases h
def aSh:Ar Shape:=⟨λs=> .agg [.lst .V s.outer,.lst .R s.holes],shD,aAv,λ_=>⟨_,rfl⟩⟩
def con{α:Type}(A:Arl α)(pre:α->List Prop)(res:α->SV):Con:=⟨α,A.dec,pre,.val false res⟩
def o7(l:List SV):Nat->Frm
 |k=>match l with
  |[] =>[]
  |x::l=>(k,x)::o7 l (k+1)
def GC:∀(l:List SV) (k t:Nat),(o7 l k).at t=if k<=t then(match l[t-k]? with|some x=>x|none=> .undef)else .undef
 |[],k,t=>by simp[o7,Frm.at]
 |x::l,k,t=>by
  unfold o7;rw[Frm.lV,GC l (k+1) t];grind
def Mp{l:List SV}{n:Nat}(hn:l.length<=n):(o7 l 0).av n=avs l++cS (n-(avs l).length) .undef:=by
 apply List.ext_getElem?;intro i;unfold Frm.av;rw[gW];by_cases hi:i<n
 .rw[List.getElem?_range hi,eO,GC,if_pos (iY _),Nat.sub_zero];by_cases h2:i<l.length
  .rw[List.getElem?_append_left (by rw[ja];exact h2),xZ,dp h2];rfl
  .rw[kZ (by rw[ja];omega),List.getElem?_replicate,l7 (by omega),ja,if_pos (by omega)];rfl
 .rw[l7 (by simp;omega),l7 (by simp[ja];omega)];rfl
def GB{args:List SV}(hpe:∀v∈args,v.ape=false):(o7 args 0).ok:=by
 intro t;rw[GC,if_pos (iY _)];split
 .rename_i x hx;exact SV.nI (by grind)
 .trivial
def aAW:aU.fn [] =λ_=>none:=by
 funext s
 rcases kP s with⟨x,rfl⟩|⟨x,a,rfl⟩|hno
 .exact Sg.cM _ x
 .exact Sg.fW _ x a
 .exact Sg.js _ hno
def rB:Nat->Nat->Bool:=λ_ _=>false
def Hg(X:Cx):Inl:=λf xs F n L N K=>match jo X.P f,X.P.funcs[f]?,L.at 0 with
 |true,some fn,some (.box 0 (.undef::S))=>(match fn.body with
  |some c=>(match mi xs.length fn.ntmps,fG (λv:SV=>match v.ape with|true=>false|false=>true) xs with
   |true,true=>
    let fin:Frm->aU->Nat->Fm:=λF' L' N'=>match fG (λq:Nat×Option SOb=>match bH q.1 0 with|true=>false|false=>true) (L'.take (L'.length-(L.length+1)))with
     |true=>(match oi X.P fn.ntmps F' L'.at fn.results.toList with
      |some [] =>K .undef ((0,some (.box 0 (.undef::S)))::L') N'
      |some [r] =>(match r.ape with|false=>K r ((0,some (.box 0 (.undef::S)))::L') N'|true=> .stuck 991001)
      |_=> .stuck 991002)
     |false=> .stuck 991003
    vc X G5 fn.ntmps rB c (λ_=>true) [] (λe F' L' N'=>match e with
     | .normal=>fin F' L' N'
     | .ret=>fin F' L' N'
     |_=> .stuck 991004) (o7 xs 0) ((0,some (.box 0 (.undef::(S++(bQ n).map F.at))))::L) N
   |_,_=> .stuck 991005)
  |none=> .stuck 991006)
 |_,_,_=> .stuck 991007
def Yt{L:aU}{pre:aU}{s:Nat}(h:∀q∈pre,q.1≠s):aU.at (pre++L) s=L.at s:=by
 induction pre with
 |nil=>rfl
 |cons q pre ih=>
  obtain⟨k,x⟩:=q;have hk:bH s k=false:=by
   cases hb:bH s k with
   |false=>rfl
   |true=>simp_all
  show(match bH s k with|true=>x|false=>aU.at (pre++L) s)=_;grind
def ND{L:aU}{cs T:List SV}(hL:L.at 0=some (.box 0 cs)):aU.fn ((0,some (.box 0 T))::L)=bC L.fn [(eo,some ⟨0,0,avs T⟩)] :=by have h:=(bY.flat (σ:=L.at) (rd:=[]) (W:=[(0,some (.box 0 T))]) λq hq=>by rw[bi.1 hq,hL];exact⟨rfl,rfl⟩).2.2;rw[aU.Bg]at h;have e:aR 0=eo:=zW (by unfold NM;omega);unfold aU.fn;rw[show aU.at ((0,some (.box 0 T))::L)=aU.at ([(0,some (SOb.box 0 T))] ++L)from rfl,<-h,<-e];rfl
def Oc{L:aU}{cs:List SV}(hL:L.at 0=some (.box 0 cs)):L.fn eo=some ⟨0,0,avs cs⟩:=by have e:aR 0=eo:=zW (by unfold NM;omega);rw[<-e];show Sg.a L.at (aR 0)=_;rw[Sg.cM,hL];rfl
def W8(F:Frm)(n:Nat):avs ((bQ n).map F.at)=F.av n:=by rw[jA,dq];rfl
def Zp{X:Cx}(hX:X.Ok):HN X (Hg X):=by
 intro f xs F n L N K o c ho hc hargs h;unfold Hg at h;split at h
 case h_2=>exact h.elim
 rename_i fn S hok hf hL;split at h
 case h_2=>exact h.elim
 rename_i body hb;split at h
 case h_2=>exact h.elim
 rename_i hn hpe;have hn:=mA hn;have hpe:∀v∈xs,v.ape=false:=λv hv=>by have:=gn hpe v hv;grind
 have hw:=Ee hX (L9 X) body (λ_=>true) [] _ _ _ N (λ_ _=>rfl) (GB hpe) h;rw[Mp hn,ND hL]at hw;have hT:avs (.undef::(S++(bQ n).map F.at))= .undef::(avs S++F.av n):=by rw[Ys,sF,W8];rfl
 rw[hT]at hw;refine YK (fid:=f) (A:=avs xs) (S:=avs S) (f:= .func f) ho hc rfl hargs hok hf hb (by rw[Oc hL];rfl) (mx body ?_ hw);rintro e FA LA N' ⟨F',L',rfl,rfl,hF',hpre,⟨pre,hpl⟩,hh⟩;have fin:(match fG (λq:Nat×Option SOb=>match bH q.1 0 with|true=>false|false=>true) (L'.take (L'.length-(L.length+1)))with
    |true=>(match oi X.P fn.ntmps F' L'.at fn.results.toList with
     |some [] =>K .undef ((0,some (.box 0 (.undef::S)))::L') N'
     |some [r] =>(match r.ape with|false=>K r ((0,some (.box 0 (.undef::S)))::L') N'|true=> .stuck 991001)
     |_=> .stuck 991002)
    |false=> .stuck 991003).holds->
   iz X.P fn.results.toList (F'.av fn.ntmps) L'.fn λl=>∃S2 F2,L'.fn eo=some ⟨0,0,.undef::(S2++F2)⟩/\S2.length=(avs S).length/\F2.length=(F.av n).length/\
    (λFA LA N'=>∃r L2,r.ok/\FA=eT (F.av n) o.dst r.av/\LA=aU.fn L2/\gh L L2/\(K r L2 N').holds) (eT F2 o.dst (rM l)) (bC L'.fn [(eo,some ⟨0,0,.undef::S2⟩)]) N':=by
  intro hh;split at hh
  case h_2=>exact hh.elim
  rename_i h0;have hat:L'.at 0=some (.box 0 (.undef::(S++(bQ n).map F.at))):=by rw[hpl];have h1:=gn h0;rw[hpl,show(pre++(0,some (SOb.box 0 (.undef::(S++(bQ n).map F.at))))::L).length-(L.length+1)=pre.length by simp,List.take_left]at h1;rw[Yt λq hq e=>by have:=h1 q hq;simp_all];rfl
  have hst:L'.fn eo=some ⟨0,0,.undef::(avs S++F.av n)⟩:=by rw[Oc hat,hT]
  have hL2:aU.fn ((0,some (.box 0 (.undef::S)))::L')=bC L'.fn [(eo,some ⟨0,0,.undef::avs S⟩)] :=ND hat;have hpl2:gh L ((0,some (.box 0 (.undef::S)))::L'):=⟨(0,some (.box 0 (.undef::S)))::(pre++[(0,some (.box 0 (.undef::(S++(bQ n).map F.at))))]),by grind⟩;split at hh
  .rename_i hr;exact qp hr ⟨avs S,F.av n,hst,rfl,rfl,.undef,_,trivial,rfl,hL2.symm,hpl2,hh⟩
  .rename_i r hr;split at hh
   .rename_i hrp;exact qp hr ⟨avs S,F.av n,hst,rfl,rfl,r,_,SV.nI hrp,rfl,hL2.symm,hpl2,hh⟩
   .exact hh.elim
  .exact hh.elim
 cases e<;>first|exact fin hh|exact hh.elim
def Bf(X:Cx)(st:Bool)(raw:Nat->Nat->Bool)(f:Nat)(ann:List (Nat×Ann))(args:List SV)(post:Nat->List ResultVar->og):Fm:=match jo X.P f,X.P.funcs[f]? with
 |true,some fn=>(match fn.body with
  |some c=>(match mi args.length fn.ntmps,fG (λv=>match v.ape with|true=>false|false=>true) args with
   |true,true=>(match st with
    |false=>vc X G5 fn.ntmps raw c (λ_=>true) ann (post fn.ntmps fn.results.toList) (o7 args 0) [] 0
    |true=>vc X (Hg X) fn.ntmps raw c (λ_=>true) ann (post fn.ntmps fn.results.toList) (o7 args 0) [(0,some (.box 0 [.undef]))] 1)
   |_,_=> .stuck 950000)
  |none=> .stuck 960000)
 |_,_=> .stuck 970000
def PR(X:Cx)(raw:Nat->Nat->Bool)(f:Nat)(ann:List (Nat×Ann))(args:List SV)(post:Nat->List ResultVar->og):Fm:=Bf X false raw f ann args post
def vG(X:Cx)(raw:Nat->Nat->Bool)(f:Nat)(ann:List (Nat×Ann))(args:List SV)(r:SV):Fm:=PR X raw f ann args λn rs=>Rq X.P n rs r
def aAV:aU.fn [(0,some (.box 0 [.undef]))] =yM:=by
 have e:aR 0=eo:=zW (by unfold NM;omega)
 funext s
 unfold yM;rcases kP s with⟨x,rfl⟩|⟨x,a,rfl⟩|hno
 .show Sg.a _ (aR x)=_;rw[Sg.cM];by_cases hx:x=0
  .subst hx;rw[if_pos e];rfl
  .rw[if_neg (λh=>hx (lM (h.trans e.symm)))];show Option.map _ (match bH x 0 with|true=>_|false=>none)=none;cases hb:bH x 0 with
   |true=>simp_all
   |false=>rfl
 .show Sg.a _ (inn x (a+1))=_;rw[Sg.fW,if_neg (λh=>by have h:inn x (a+1)=aR 0:=h.trans e.symm;have:=(fL h).2;omega)];show Option.bind (match bH x 0 with|true=>_|false=>none) _=none;cases bH x 0<;>rfl
 .show Sg.a _ s=_;rw[Sg.js _ hno,if_neg (λh=>hno 0 0 (h.trans e.symm))]
def Ed{X:Cx}(hX:X.Ok){st:Bool}{raw:Nat->Nat->Bool}{f:Nat}{ann:List (Nat×Ann)}{args:List SV}{post:Nat->List ResultVar->og}{A:List PV}{Q:List ResultVar->oh}(hA:avs args=A.map .p)
  (hQ:∀n rs e (F:Frm) (L:aU) N,(post n rs e F L N).holds->Q rs e (F.av n) L.fn N) (h:(Bf X st raw f ann args post).holds):
  jo X.P f=true/\∃fn c L0 N0,X.P.funcs[f]? =some fn/\fn.body=some c/\sn L0 N0/\awp X.P c (Q fn.results.toList) (A.map .p++cS (fn.ntmps-A.length) .undef) L0 N0:=by
 unfold Bf at h;split at h
 case h_2=>exact h.elim
 rename_i fn hok hf;split at h
 case h_2=>exact h.elim
 rename_i c hb;split at h
 case h_2=>exact h.elim
 rename_i hn hpe;have hn:=mA hn;have hpe:∀v∈args,v.ape=false:=λv hv=>by have:=gn hpe v hv;grind
 have hal:(A.map AV.p).length=A.length:=by grind
 have hAF:A.map .p++cS (fn.ntmps-A.length) .undef=(o7 args 0).av fn.ntmps:=by rw[Mp hn,hA,hal]
 split at h
 .refine⟨hok,fn,c,aU.fn [],0,hf,hb,.inl ⟨aAW,rfl⟩,?_⟩;rw[hAF];refine mx c ?_ (Ee hX (L9 X) c (λ_=>true) ann _ _ [] 0 (λ_ _=>rfl) (GB hpe) h);rintro e FA LA N' ⟨F',L',rfl,rfl,_,_,_,hh⟩;grind
 .refine⟨hok,fn,c,aU.fn [(0,some (.box 0 [.undef]))],1,hf,hb,.inr ⟨aAV,rfl⟩,?_⟩;rw[hAF];refine mx c ?_ (Ee hX (Zp hX) c (λ_=>true) ann _ _ _ 1 (λ_ _=>rfl) (GB hpe) h);rintro e FA LA N' ⟨F',L',rfl,rfl,_,_,_,hh⟩;grind
def XF{X:Cx}(hX:X.Ok){raw:Nat->Nat->Bool}{f:Nat}{ann:List (Nat×Ann)}{args:List SV}{r:SV}{A:List PV}{q:PV}(hA:avs args=A.map .p)(hq:r.av= .p q)(h:(vG X raw f ann args r).holds):Sat X.P false f A q:=by obtain⟨hok,fn,c,L0,N0,hf,hb,h0,hw⟩:=Ed hX (st:=false) (Q:=λrs=>Hb X.P rs q) hA (λn rs e F L N hh=>ZP hq hh) h;exact Uk hok hf hb h0 hw
def CP(P:Program)(n:Nat)(rs:List ResultVar)(ty:Nat)(t:LT)(l:List t.ty)(ys:List SV)(F:Frm)(L:aU):Fm:=match oi P n F L.at rs with
 |some (v::r)=>(match o4 (eqv 3) ys r with
  |some (qs,[])=>(match v with
   | .nil=>rC ((l=[])::qs) .tt
   | .own s _ k=>(match L.at s with
     |some (.row ty' t' l')=>(match bH ty' ty,decEq t' t with
      |true,.isTrue h=>rC ([(h▸l':List t.ty)=l,k=l'.length] ++qs) .tt
      |_,_=> .stuck 980001)
     |_=> .stuck 980002)
   |_=> .stuck 980003)
  |_=> .stuck 980004)
 |_=> .stuck 980005
def Pf(P:Program)(ty:Nat)(t:LT)(l:List t.ty)(ys:List SV)(n:Nat)(rs:List ResultVar):og:=λe F L _=>match e with
 | .normal=>CP P n rs ty t l ys F L
 | .ret=>CP P n rs ty t l ys F L
 |_=> .stuck 910000
def Lq{m:Rf}:∀{q:List PV} {r:List AV},fJ m (q.map .p) r->r=q.map .p
 |[],r,h=>by exact h
 |x::q,r,h=>by
  obtain⟨y,r',rfl,h1,h2⟩:=h;rw[h1,Lq h2];rfl
def Xo{P:Program}{n:Nat}{rs:List ResultVar}{ty:Nat}{t:LT}{l:List t.ty}{ys:List SV}{Y:List PV}(hY:avs ys=Y.map .p){e:Exit}{F:Frm}{L:aU}{N:Nat}(h:(Pf P ty t l ys n rs e F L N).holds):Hc P rs ty t.w (t.enc l) l.length Y e (F.av n) L.fn N:=by
 have key:(CP P n rs ty t l ys F L).holds->iz P rs (F.av n) L.fn λlA=>(∃s,lA= .own s 0 l.length::Y.map .p/\L.fn s=some ⟨ty,t.w,(t.enc l).map .p⟩)\/(lA= .nil::Y.map .p/\l.length=0/\t.enc l=[]):=by
  intro h;unfold CP at h;split at h
  case h_2=>exact h.elim
  rename_i v r hl;split at h
  case h_2=>exact h.elim
  rename_i qs he;have e2:Sg.a L.at=L.fn:=rfl;have hr:(∀p∈qs,p)->avs r=Y.map .p:=λhp=>by have:=qm (m:=λ_=>none) (uZ 3) he hp (λq hq=>by cases hq);rw[hY]at this;exact Lq this
  rw[<-e2];refine qp hl ?_;split at h
  .have hp:=(rm h).1;have hl0:l=[] :=hp _ (by grind);subst hl0;refine .inr ⟨?_,rfl,rfl⟩;show AV.nil::avs r=_;grind
  .rename_i s t2 k;split at h
   case h_2=>exact h.elim
   rename_i ty' t' l' hs;split at h
   case h_2=>exact h.elim
   rename_i h2 hty _;subst h2;have hp:=(rm h).1;have h3:l'=l:=hp _ (by grind);have h4:k=l'.length:=hp _ (by grind);subst h3;refine .inl ⟨aR s,?_,?_⟩
   .show AV.own (aR s) 0 k::avs r=_;grind
   .rw[Sg.cM,hs,<-dI hty];rfl
  .exact h.elim
 cases e<;>first|exact h.elim|exact key h
def yQ{α:Type}(A:Arl α)(pre:α->List Prop)(ty:Nat)(t:LT)(l:α->List t.ty)(ys:α->List SV):Con:=⟨α,A.dec,pre,.own ty t l ys⟩
def A8{X:Cx}(hX:X.Ok){raw:Nat->Nat->Bool}{f:Nat}{α:Type}{A:Arl α}{pre:α->List Prop}{ty:Nat}{t:LT}{l:α->List t.ty}{ys:α->List SV}(ann:α->List (Nat×Ann))(hr:∀x,∃q:List PV,avs (ys x)=q.map .p)
  (h:∀x,o8 (pre x)->(PR X raw f (ann x) (A.enc x) (Pf X.P ty t (l x) (ys x))).holds):(yQ A pre ty t l ys).Ok X.P f:=by
 intro s x hd hp;obtain⟨B,hB⟩:=A.pl x;obtain⟨q,hq⟩:=hr x;obtain⟨hok,fn,c,L0,N0,hf,hb,h0,hw⟩:=Ed hX (st:=false) (Q:=λrs=>Hc X.P rs ty t.w (t.enc (l x)) (l x).length q) hB (λn rs e F L N hh=>Xo hq hh) (h x (jd.2 hp));exact⟨B,q,by rw[A.ok s x hd,hB],hq,Tu hok (nk t.kU) hf hb h0 hw⟩
def uo{X:Cx}(hX:X.Ok){raw:Nat->Nat->Bool}{f:Nat}{α:Type}{A:Arl α}{pre:α->List Prop}{res:α->SV}(ann:α->List (Nat×Ann))(hr:∀x,∃q,(res x).av= .p q)(h:∀x,o8 (pre x)->(vG X raw f (ann x) (A.enc x) (res x)).holds):(con A pre res).Ok X.P f:=by intro s x hd hp;obtain⟨B,hB⟩:=A.pl x;obtain⟨q,hq⟩:=hr x;exact⟨B,q,by rw[A.ok s x hd,hB],hq,XF hX hB hq (h x (jd.2 hp))⟩
def xt(r:Rm):List Nat:=match r with
 |[] =>[]
 |(k,none)::r=>k::xt r
 |(_,some _)::r=>xt r
def G3(ns:List Nat)(r:Rm):Bool:=fG (λq:Nat×Option Nat=>match q.2 with
 |some k=>(match bH q.1 k,mem ns q.1 with|true,false=>true|_,_=>false)
 |none=>mem ns q.1) r
open Classical in
def idm(ns:List Nat):Rf:=λs=>if∃k∈ns,s=aR k then some none else some (some s)
def Pr{ns:List Nat}{k:Nat}(h:mem ns k=false):idm ns (aR k)=some (some (aR k)):=by unfold idm;rw[if_neg];rintro⟨x,hx,e⟩;rw[lM e,(mem_iff x ns).2 hx]at h;cases h
def O4(ns:List Nat)(x a:Nat):idm ns (inn x (a+1))=some (some (inn x (a+1))):=by unfold idm;rw[if_neg];rintro⟨y,hy,e⟩;have:=(fL e).2;omega
def Li{ns:List Nat}{r:Rm}(h:G3 ns r=true):j9 (idm ns) r:=by
 intro q hq;have h:=gn h q hq;obtain⟨s,o⟩:=q;cases o with
 |none=>
  exact if_pos ⟨s,(mem_iff s ns).1 h,rfl⟩
 |some k=>
  dsimp only at h;split at h
  .rename_i e1 e2;rw[<-dI e1];exact Pr e2
  .cases h
def xz(ns:List Nat)(σ:Sg):aU->Option (List Prop)
 |[] =>some []
 |(_,none)::_=>none
 |(k,some ob)::l=>match xz ns σ l with
  |none=>none
  |some ps=>(match mem ns k with
   |true=>(match ob with| .row _ _ c=>some ((c=[])::ps)|_=>none)
   |false=>(match σ k with
    |none=>none
    |some ob'=>(match u9 ob ob' with
     |some (p,r)=>(match G3 ns r with|true=>some (p++ps)|false=>none)
     |none=>(match yI [] k k ob ob' with
      |some p=>some (p++ps)
      |none=>none))))
def Kt{ns:List Nat}{σ:Sg}:∀{l:aU} {ps:List Prop},xz ns σ l=some ps->(∀p∈ps,p)->∀k o,(k,o)∈l->∃ob,o=some ob/\
  ((mem ns k=true/\∃ty t,ob= .row ty t [])\/(mem ns k=false/\∃ob',σ k=some ob'/\qB (idm ns) (ob.ob k) (ob'.ob k)/\(ob.flat=true\/ob=ob')))
 |[],_,_,_,_,_,hk=>by cases hk
 |(_,none)::_,_,h,_,_,_,_=>by cases h
 |(k,some ob)::l,ps,h,hp,k1,o1,hk=>by
  unfold xz at h;split at h
  .cases h
  rename_i qs hqs;have ih:=Kt hqs;split at h
  .split at h<;>cases h;rename_i ty t c;rcases bT.1 hk with e|hk
   .have:c=[] :=hp _ (by grind);grind
   grind
  .rename_i hm;split at h
   .cases h
   rename_i ob' hob';split at h
   .rename_i p r he;split at h<;>cases h;rename_i hs;rcases bT.1 hk with e|hk
    .cases e;exact⟨_,rfl,.inr ⟨hm,ob',hob',Ks he (λq hq=>hp q (by grind)) (Li hs) _ _,.inl (Jw he)⟩⟩
    .exact ih (λp hpp=>hp p (by grind)) k1 o1 hk
   .split at h<;>cases h;rename_i p hf;rcases bT.1 hk with e|hk
    .cases e;obtain⟨_,_,e3,_⟩:=MV hf λq hq=>hp q (by grind);subst e3;refine⟨_,rfl,.inr ⟨hm,_,hob',?_,.inr rfl⟩⟩;unfold yI at hf;split at hf
     .refine⟨rfl,rfl,uJ _ _ _ λi _=> ?_⟩;exact .inl ⟨_,O4 ns k (i+1-1),rfl⟩
     .cases hf
    .exact ih (λp hpp=>hp p (by grind)) k1 o1 hk
def VH{ns:List Nat}{L:aU}{l:aU}{ps:List Prop}(h:xz ns L.at l=some ps)(hp:∀p∈ps,p):yL (idm ns) (Sg.a (aU.at l)) L.fn:=by
 have key:=Kt h hp;constructor
 .intro s s' o h1 h2;unfold idm at h1 h2;split at h1<;>cases h1;split at h2<;>cases h2;rfl
 .intro s ob' hs;rcases kP s with⟨x,rfl⟩|⟨x,a,rfl⟩|hno
  .rw[Sg.cM]at hs;cases hx:aU.at l x with
   |none=>grind
   |some ob=>
    rw[hx]at hs;cases hs;obtain⟨ob1,e,h1⟩:=key x (some ob) (aU.vD hx);cases e;rcases h1 with⟨hm,ty,t,rfl⟩|⟨hm,ob2,h2,h3,_⟩
    .rw[show idm ns (aR x)=some none from if_pos ⟨x,(mem_iff x ns).1 hm,rfl⟩];exact⟨nk t.kU,by rfl⟩
    .rw[Pr hm];exact⟨_,by show Sg.a L.at (aR x)=_;rw[Sg.cM,h2];rfl,h3⟩
  .rw[Sg.fW]at hs;cases hx:aU.at l x with
   |none=>grind
   |some ob=>
    rw[hx]at hs;obtain⟨ob1,e,h1⟩:=key x (some ob) (aU.vD hx);cases e;have hs:ob.inner a=some ob':=hs;rw[O4];rcases h1 with⟨hm,ty,t,rfl⟩|⟨hm,ob2,h2,h3,h4⟩
    .cases hs
    .rcases h4 with h4|h4
     .rw[SOb.zY h4]at hs;cases hs
     .subst h4;refine⟨ob',by show Sg.a L.at (inn x (a+1))=_;rw[Sg.fW,h2];exact hs,rfl,rfl,?_⟩;cases ob with
      |fam ty ity t M ov=>
       have hs:(match ov.lookup a with|some _=>none|none=>(M[a]?).map λl=>(⟨ity,t.w,(t.enc l).map .p⟩:Ob))=some ob':=hs;cases ho:ov.lookup a with
       |some v=>grind
       |none=>
        rw[ho]at hs;cases hm:M[a]? with
        |none=>grind
        |some c=>rw[hm]at hs;cases hs;exact j5 _ _
      |_=>cases hs
  .rw[Sg.js _ hno]at hs;cases hs
def Rr(l:List SV):Bool:=match l with
 |[_] =>true
 |[] =>false
 |l=>(match bM (avs l)with|none=>true|some _=>false)
def CM(P:Program)(n:Nat)(rs:List ResultVar)(r:SV)(obs:aU)(F:Frm)(L:aU):Fm:=match oi P n F L.at rs with
 |some l=>(match Rr l,eqv 3 r (tI l)with
  |true,some (ps,m)=>(match G3 (xt m) m,xz (xt m) L.at obs with
   |true,some qs=>rC (ps++qs) .tt
   |_,_=> .stuck 990001)
  |_,_=> .stuck 990002)
 |none=> .stuck 990003
def Rp(P:Program)(r:SV)(obs:aU)(n:Nat)(rs:List ResultVar):og:=λe F L _=>match e with
 | .normal=>CM P n rs r obs F L
 | .ret=>CM P n rs r obs F L
 |_=> .stuck 910000
def ZX{l:List SV}(h:Rr l=true):rM (avs l)=(tI l).av:=by
 match l,h with
 |[x],_=>rfl
 |x::y::r,h=>
  show AV.tup (avs (x::y::r))=kA (avs (x::y::r));have h:(match bM (avs (x::y::r))with|none=>true|some _=>false)=true:=h;unfold kA;grind
def ZO{P:Program}{n:Nat}{rs:List ResultVar}{r:SV}{obs:aU}{e:Exit}{F:Frm}{L:aU}{N:Nat}(h:(Rp P r obs n rs e F L N).holds):Ha P rs r.av (Sg.a (aU.at obs)) e (F.av n) L.fn N:=by
 have key:(CM P n rs r obs F L).holds->iz P rs (F.av n) L.fn λl=>∃m:Rf,yL m (Sg.a (aU.at obs)) L.fn/\cU m r.av (rM l):=by
  intro h;unfold CM at h;split at h
  case h_2=>exact h.elim
  rename_i l hl;split at h
  case h_2=>exact h.elim
  rename_i ps m h1 he;split at h
  case h_2=>exact h.elim
  rename_i qs hs hq;have hp:=(rm h).1;rw[show L.fn=Sg.a L.at from rfl];refine qp hl ⟨idm (xt m),VH hq λp hpp=>hp p (by grind),?_⟩;rw[ZX h1];exact uZ 3 r (tI l) ps m he (λp hpp=>hp p (by grind)) (Li hs)
 cases e<;>first|exact h.elim|exact key h
def Ht{α:Type}(A:Arl α)(pre:α->List Prop)(res:α->SV)(obs:α->aU):Con:=⟨α,A.dec,pre,.tree res obs⟩
def OQ{X:Cx}(hX:X.Ok){st:Bool}{raw:Nat->Nat->Bool}{f:Nat}{α:Type}{A:Arl α}{pre:α->List Prop}{res:α->SV}{obs:α->aU}(ann:α->List (Nat×Ann))
  (h:∀x,o8 (pre x)->(Bf X st raw f (ann x) (A.enc x) (Rp X.P (res x) (obs x))).holds):(Ht A pre res obs).Ok X.P f:=by
 intro s x hd hp;obtain⟨B,hB⟩:=A.pl x;obtain⟨hok,fn,c,L0,N0,hf,hb,h0,hw⟩:=Ed hX (Q:=λrs=>Ha X.P rs (res x).av (Sg.a (aU.at (obs x)))) hB (λn rs e F L N hh=>ZO hh) (h x (jd.2 hp));exact⟨B,by rw[A.ok s x hd,hB],Tt hok hf hb h0 hw⟩
def aBA{p q:Prop}(h:p=q)(hq:q):p:=h▸hq
def B7:List (Nat×Con)->Tab->Tab
 |[],T,f=>T f
 |(k,c)::l,T,f=>match bH f k with|true=>some c|false=>B7 l T f
def P8(P:Program):List (Nat×Con)->Prop
 |[] =>True
 |q::l=>q.2.Ok P q.1/\P8 P l
def M8{P:Program}{T:Tab}(hT:T.Ok P):∀{l:List (Nat×Con)},P8 P l->(B7 l T).Ok P
 |[],_=>hT
 |(k,c)::l,h=>by
  intro f d hd;unfold B7 at hd;split at hd
  .rename_i e;cases hd;rw[dI e];exact h.1
  .exact M8 hT h.2 f d hd
def QB:Tab:=λ_=>none
def Y5{P:Program}:QB.Ok P:=λ_ _ h=>by cases h
end
end
noncomputable section
def aBp(N:Nat)(a b c d:Int)(w:World):fo bE (tV (N+1+1) 44 (.agg #[.int .i64 a,.int .i64 b]) (.agg #[.int .i64 c,.int .i64 d])) w= .ok (a==c&&b==d) w:=by
 have u3:=rY;have a3:=td;have z3:=vq;have hS:bE.underlying 44=some (.struct (bE.fieldsOf 44)):=by kernel_rfl
 have hp:bE.stoodInHeld 44=false:=by kernel_rfl
 rw[run_equalIn_agg w (N+1) 44 _ _ hS hp];simp only[Program.fieldsOf,Tryz.underlying44]
 go_simp
 grind
def aBq(a b c d a' b' c' d':Int)(w:World)(N:Nat):fo bE (tV (N+1+1+1) 46 (.agg #[.int .i64 a,.int .i64 b,.int .i64 c,.int .i64 d]) (.agg #[.int .i64 a',.int .i64 b',.int .i64 c',.int .i64 d'])) w= .ok ((a==a'&&b==b')&&(c==c'&&d==d')) w:=by
 have hS6:bE.underlying 46=some (.struct (bE.fieldsOf 46)):=by kernel_rfl
 have hp6:bE.stoodInHeld 46=false:=by kernel_rfl
 rw[run_equalIn_agg w (N+1+1) 46 _ _ hS6 hp6];unfold Program.fieldsOf;rw[Tryz.underlying46];dsimp only;have a44:=Tryz.isAgg44;have z44:=Tryz.sizeOf44;have p1:∀a b c d:Int,(part 44 #[cg .i64 a,cg .i64 b,cg .i64 c,cg .i64 d] 0).run bE w= .ok (.agg #[.int .i64 a,.int .i64 b]) w:=by intro a b c d;simp[part,a44,z44]
 have p2:∀a b c d:Int,(part 44 #[cg .i64 a,cg .i64 b,cg .i64 c,cg .i64 d] 2).run bE w= .ok (.agg #[.int .i64 c,.int .i64 d]) w:=by intro a b c d;simp[part,a44,z44]
 have hE:=aBp N;generalize N+1+1=M at hE|-;unfold Op.eqFields;unfold Op.eqFields;unfold Op.eqFields;rw[if_pos (by decide)];simp only[cp,p1,ct,hE];cases h1:(a==a')<;>cases h2:(b==b')<;>simp[hE,p2,cp,ct];grind
def Yc:x6 bE 46 4:=by
 intro xs ys x y w hx hy;match xs,ys,hx,hy with
 |[a,b,c,d],[a',b',c',d'],_,_=>
  have h1:=aBq a b c d a' b' c' d' w 9997;rw[show 9997+1+1+1=10000 from rfl]at h1;have e:(([a,b,c,d] :List Int)==[a',b',c',d'])=((a==a'&&b==b')&&(c==c'&&d==d')):=by rw[fm];simp[and_assoc]
  refine⟨?_,?_⟩
  .simp only[dB,lC];rw[e];simp only[eqGuard,cp];simp[Result.andThen];rw[run_eql_struct,h1];simp_all
  .simp only[dB,lC];unfold bne;rw[e];simp[eqGuard];rw[run_neq_struct,h1];simp_all
noncomputable def ltL:List (Nat×LT)->Nat->Option LT
 |[],_=>none
 |(k,x)::l,t=>match bH t k with|true=>some x|false=>ltL l t
def u67:bE.underlying 67=some (.array 2 3):=by kernel_rfl
def aBF:bE.underlying 115=some (.map 67 4):=by kernel_rfl
def u4(w:World)(xs:Array Value)(i:Nat)(a:Value)(h:xs[i]? =some a):(part 3 xs i).run bE w= .ok a w:=by have a3:=td;simp[part,a3,h]
def aAN:MKey bE 67 2:=by
 have u3:=rY;have hu3:bE.underlying 3=some (.int .i64):=by kernel_rfl
 obtain⟨i3,hi3⟩:=info_of_underlying hu3;have c3:bE.cellsOf 3=1:=by kernel_rfl
 have two:∀{xs:List Int},xs.length=2->∃a b,xs=[a,b] :=λ{xs} h=>by
  match xs,h with
  |[a,b],_=>grind
 refine⟨?_,?_,⟨_,u67,λa b=>rfl⟩⟩
 .intro w em xs hx;obtain⟨a,b,rfl⟩:=two hx;show(yp em (9999+1) 67 (.agg #[.int .i64 a,.int .i64 b])).run _ w=_;have p0:=u4 w #[cg .i64 a,.int .i64 b] 0 (.int .i64 a) rfl;have p1:=u4 w #[cg .i64 a,.int .i64 b] 1 (.int .i64 b) rfl;have ck:∀a:Int,(yp em 9999 3 (.int .i64 a)).run bE w= .ok () w:=by intro a;show(yp em (9998+1) 3 (.int .i64 a)).run _ w=_;generalize 9998=N;simp only[yp,cp,run_underlying hu3,ct,db]
  generalize 9999=N at ck|-;rw[yp];simp only[cp,run_underlying u67,ct];simp only[Std.Legacy.Range.forIn_eq_forIn_range',Std.Legacy.Range.size,Nat.sub_zero,Nat.add_one_sub_one,Nat.div_one];simp only[show List.range' 0 2=[0,1]from rfl,List.forIn_cons,List.forIn_nil,cp,run_sizeOf w hi3,ct,c3,p0,p1,ck,db,Nat.zero_mul,Nat.one_mul]
 .intro w xs ys hx hy;obtain⟨a,b,rfl⟩:=two hx;obtain⟨c,d,rfl⟩:=two hy;have p0:=u4 w #[cg .i64 a,.int .i64 b] 0 (.int .i64 a) rfl;have p1:=u4 w #[cg .i64 a,.int .i64 b] 1 (.int .i64 b) rfl;have q0:=u4 w #[cg .i64 c,.int .i64 d] 0 (.int .i64 c) rfl;have q1:=u4 w #[cg .i64 c,.int .i64 d] 1 (.int .i64 d) rfl;have e1:∀a b:Int,(tV 9999 3 (.int .i64 a) (.int .i64 b)).run bE w= .ok (a==b) w:=λa b=>run_equalIn_int w 9998 3 _ _ a b hu3;show(tV (9999+1) 67 (.agg #[.int .i64 a,.int .i64 b]) (.agg #[.int .i64 c,.int .i64 d])).run _ w=_;rw[run_equalIn_array w 9999 _ _ u67 hi3,c3,show bQ 2=[0,1]from rfl];simp only[Op.eqItems,cp,Nat.zero_mul,Nat.one_mul,p0,q0,e1,ct];have hab:∀a b:Int,a≠b->(a==b)=false:=λa b h=>beq_eq_false_iff_ne.2 h;by_cases h1:a=c
  .subst h1;simp only[beq_self_eq_true,yY,qM,if_false,cp];rw[p1,ct,q1,ct,e1,ct];by_cases h2:b=d
   .simp_all
   simp_all
  simp_all
def Zk:SG bE 115:=⟨67,4,aBF,aAN,λw=>by kernel_rfl⟩
noncomputable def cx(T:Tab):Cx:=⟨bE,T,ltL [(44,.V),(46,.S),(23,.R),(67,.P),(3,.I),(2,.I),(1,.I),(4,.B)],[(44,2),(46,4)],λt=>bH t 115,λf=>match bH f 202 with|true=>true|false=>bH f 173⟩
def mT{T:Tab}(h:T.Ok bE):(cx T).Ok:=⟨h,λt m hm=>by
 have hm:(t,m)∈[(44,2),(46,4)] :=hm;rcases bT.1 hm with h|h
 .cases h;exact Yd
 .rw[bi]at h;cases h;exact Yc,λt ht=>by rw[show t=115 from dI ht];exact Zk⟩
noncomputable def mP(F:Frm)(d:Nat):Option Nat:=match F.at d with
 | .int _ v=>some v.toNat
 |_=>none
noncomputable def Pq(F:Frm)(d:Nat):Option Int:=match F.at d with
 | .int _ v=>some v
 |_=>none
noncomputable def Hf(F:Frm)(d e:Nat):Option (Int×Int):=match Pq F d,Pq F e with
 |some x,some y=>some (x,y)
 |_,_=>none
noncomputable def lp(key d n:Nat)(I:Nat->List Prop)(rk:List Nat)(upd:Nat->Frm)(obs:Nat->List (Nat×SOb))(inner:Nat->List (Nat×Ann):=λ_=>[]):Nat×Ann:=
 (key,.mk Nat (λF _=>mP F d) rk (λk=>(k<=n)::I k) (λk=>(d,.int .i64 (k:Int))::upd k) obs (λk=>n-k) inner)
noncomputable def cnt(key d n:Nat)(I:Nat->Prop)(inner:Nat->List (Nat×Ann):=λ_=>[]):Nat×Ann:=lp key d n (λk=>[I k]) [] (λ_=>[]) (λ_=>[]) inner
noncomputable def jb(key d:Nat)(b:Bool):Nat×Ann:=(key+10000,.mk Unit (λ_ _=>some ()) [] (λ_=>[]) (λ_=>[(d,.bool b)]) (λ_=>[]) (λ_=>0) (λ_=>[]))
noncomputable def jP(key:Nat)(I:List Prop):Nat×Ann:=(key+10000,.mk Unit (λ_ _=>some ()) [] (λ_=>I) (λ_=>[]) (λ_=>[]) (λ_=>0) (λ_=>[]))
noncomputable def jU(key:Nat)(u:Frm):Nat×Ann:=(key+10000,.mk Unit (λ_ _=>some ()) [] (λ_=>[]) (λ_=>u) (λ_=>[]) (λ_=>0) (λ_=>[]))
noncomputable def jN(key d:Nat)(I:Nat->List Prop)(inner:Nat->List (Nat×Ann):=λ_=>[]):Nat×Ann:=(key+10000,.mk Nat (λF _=>mP F d) [] I (λk=>[(d,.int .i64 (k:Int))]) (λ_=>[]) (λ_=>0) inner)
noncomputable def lU(key k:Nat):Nat×Ann:=(key+30000+k,.mk Unit (λ_ _=>none) [] (λ_=>[]) (λ_=>[]) (λ_=>[]) (λ_=>0) (λ_=>[]))
noncomputable def aM(q:Nat->Prop)(k:Nat):Prop:=∀j,j<k->q j
def nb{b:Bool}(h:(!b)=false):b=true:=by grind
def nb'{b:Bool}(h:(!b)=true):b=false:=by grind
theorem fz(q:Nat->Prop):aM q 0:=λj h=>absurd h (Nat.not_lt_zero j)
theorem bz{q:Nat->Prop}{k:Nat}(h:aM q k)(hk:q k):aM q (k+1):=λj hj=>by
 rcases nY j k with h1|h1
 .exact h j h1
 grind
def aEX(a b:V):a=b↔a.x=b.x/\a.y=b.y:=by cases a;cases b;grind
end
attribute [grind =] aE ix
attribute [grind ←] fz bz
structure TTab where
 t:Tab
 o:t.Ok bE
noncomputable def TTab.adk(T:TTab){f:Nat}{c:Con}(k:c.Ok bE f):TTab:=⟨B7 [(f,c)] T.t,M8 T.o ⟨k,trivial⟩⟩
def ag(T:TTab){f:Nat}{α:Type}{A:Arl α}{pre:α->List Prop}{res:α->SV}(ann:α->List (Nat×Ann))(hr:∀x,∃q,(res x).av= .p q)(h:∀x,o8 (pre x)->(vG (cx T.t) rB f (ann x) (A.enc x) (res x)).holds):(con A pre res).Ok bE f:=uo (mT T.o) ann hr h
abbrev Con.Okz(c:Con)(f:Nat):Prop:=c.Ok bE f
abbrev SV.iqz(n:Int):SV:= .int .i64 n
abbrev bW{α:Type _}{β:Type _}:α->List β:=λ_=>[]
def aY{p:Prop}(q:Prop)(h:p=q)(hq:q):p:=aBA h hq
noncomputable def PW:TTab:=⟨QB,Y5⟩
end Go.Proofs.YtdaeofhdgabhjaaGreat
namespace Go.Proofs
open Go.Shelf
def Tryz.sort221_ren:Go.Shelf.Ren:=⟨λ|6=>221|15=>143|14=>229|28=>195|29=>196|20=>230|21=>231|22=>232|23=>233|24=>234|25=>235|26=>236|27=>237|46=>238|47=>211|48=>212|49=>239|50=>240|57=>241|n=>n,λ|22=>112|24=>3|25=>131|3=>3|39=>134|0=>0|53=>170|55=>172|4=>4|46=>163|45=>162|50=>167|5=>5|9=>9|66=>180|70=>184|76=>193|77=>60|n=>n,λ|n=>n⟩
def Tryz.sort221:Go.Proofs.SlLaysF.n6 bE Tryz.sort221_ren:={
 mixed:=by kernel_rfl
 f6:=⟨Tryz.f221.name,by decide,Tryz.func221.trans (congrArg some (by kernel_rfl))⟩
 f14:=⟨Tryz.f229.name,by decide,Tryz.func229.trans (congrArg some (by kernel_rfl))⟩
 f15:=Tryz.func143.trans (congrArg some (by kernel_rfl))
 f20:=⟨Tryz.f230.name,by decide,Tryz.func230.trans (congrArg some (by kernel_rfl))⟩
 f21:=⟨Tryz.f231.name,by decide,Tryz.func231.trans (congrArg some (by kernel_rfl))⟩
 f22:=⟨Tryz.f232.name,by decide,Tryz.func232.trans (congrArg some (by kernel_rfl))⟩
 f23:=⟨Tryz.f233.name,by decide,Tryz.func233.trans (congrArg some (by kernel_rfl))⟩
 f24:=⟨Tryz.f234.name,by decide,Tryz.func234.trans (congrArg some (by kernel_rfl))⟩
 f25:=⟨Tryz.f235.name,by decide,Tryz.func235.trans (congrArg some (by kernel_rfl))⟩
 f26:=⟨Tryz.f236.name,by decide,Tryz.func236.trans (congrArg some (by kernel_rfl))⟩
 f27:=⟨Tryz.f237.name,by decide,Tryz.func237.trans (congrArg some (by kernel_rfl))⟩
 f28:=Tryz.func195.trans (congrArg some (by kernel_rfl))
 f29:=Tryz.func196.trans (congrArg some (by kernel_rfl))
 f46:=⟨Tryz.f238.name,by decide,Tryz.func238.trans (congrArg some (by kernel_rfl))⟩
 f47:=Tryz.func211.trans (congrArg some (by kernel_rfl))
 f48:=Tryz.func212.trans (congrArg some (by kernel_rfl))
 f49:=⟨Tryz.f239.name,by decide,Tryz.func239.trans (congrArg some (by kernel_rfl))⟩
 f50:=⟨Tryz.f240.name,by decide,Tryz.func240.trans (congrArg some (by kernel_rfl))⟩
 f57:=⟨Tryz.f241.name,by decide,Tryz.func241.trans (congrArg some (by kernel_rfl))⟩
 t0:=Tryz.underlying0
 a0:=Tryz.isAgg0
 z0:=Tryz.sizeOf0
 v0:=Tryz.zeroValue0
 t3:=rY
 a3:=td
 z3:=vq
 v3:=Tryz.zeroValue3
 t4:=IU
 a4:=Tryz.isAgg4
 z4:=Tryz.sizeOf4
 v4:=Tryz.zeroValue4
 t5:=Tryz.underlying5
 a5:=Tryz.isAgg5
 z5:=Tryz.sizeOf5
 v5:=Tryz.zeroValue5
 t9:=Tryz.underlying9
 a9:=Tryz.isAgg9
 z9:=Tryz.sizeOf9
 v9:=Tryz.zeroValue9
 t22:=Tryz.underlying112
 a22:=Tryz.isAgg112
 z22:=Tryz.sizeOf112
 v22:=Tryz.zeroValue112
 a24:=td
 z24:=vq
 t25:=Tryz.underlying131
 a25:=Tryz.isAgg131
 z25:=Tryz.sizeOf131
 v25:=Tryz.zeroValue131
 t39:=Tryz.underlying134
 a39:=Tryz.isAgg134
 z39:=Tryz.sizeOf134
 v39:=Tryz.zeroValue134
 t45:=Tryz.underlying162
 a45:=Tryz.isAgg162
 z45:=Tryz.sizeOf162
 v45:=Tryz.zeroValue162
 t46:=Tryz.underlying163
 a46:=Tryz.isAgg163
 z46:=Tryz.sizeOf163
 v46:=Tryz.zeroValue163
 t50:=Tryz.underlying167
 a50:=Tryz.isAgg167
 z50:=Tryz.sizeOf167
 v50:=Tryz.zeroValue167
 t53:=Tryz.underlying170
 a53:=Tryz.isAgg170
 z53:=Tryz.sizeOf170
 v53:=Tryz.zeroValue170
 t55:=Tryz.underlying172
 a55:=Tryz.isAgg172
 z55:=Tryz.sizeOf172
 v55:=Tryz.zeroValue172
 t66:=Tryz.underlying180
 a66:=Tryz.isAgg180
 z66:=Tryz.sizeOf180
 v66:=Tryz.zeroValue180
 t70:=Tryz.underlying184
 a70:=Tryz.isAgg184
 z70:=Tryz.sizeOf184
 v70:=Tryz.zeroValue184
 t76:=Tryz.underlying193
 a76:=Tryz.isAgg193
 z76:=Tryz.sizeOf193
 v76:=Tryz.zeroValue193
 t77:=Tryz.underlying60
 a77:=Tryz.isAgg60
 z77:=Tryz.sizeOf60
 v77:=Tryz.zeroValue60}
def Tryz.del203_ren:Go.Shelf.Ren:=⟨λ|10=>203|6=>224|n=>n,λ|22=>112|23=>3|25=>159|3=>3|4=>4|0=>0|n=>n,λ|n=>n⟩
def Tryz.del203:Go.Proofs.SlLaysH.n10 bE Tryz.del203_ren:={
 mixed:=by kernel_rfl
 f6:=⟨Tryz.f224.name,by decide,Tryz.func224.trans (congrArg some (by kernel_rfl))⟩
 f10:=⟨Tryz.f203.name,by decide,Tryz.func203.trans (congrArg some (by kernel_rfl))⟩
 t0:=Tryz.underlying0
 a0:=Tryz.isAgg0
 z0:=Tryz.sizeOf0
 v0:=Tryz.zeroValue0
 t3:=rY
 a3:=td
 z3:=vq
 v3:=Tryz.zeroValue3
 t4:=IU
 a4:=Tryz.isAgg4
 z4:=Tryz.sizeOf4
 v4:=Tryz.zeroValue4
 t22:=Tryz.underlying112
 a22:=Tryz.isAgg112
 z22:=Tryz.sizeOf112
 v22:=Tryz.zeroValue112
 a23:=td
 z23:=vq
 t25:=Tryz.underlying159
 a25:=Tryz.isAgg159
 z25:=Tryz.sizeOf159
 v25:=Tryz.zeroValue159}
end Go.Proofs
namespace Go.Proofs.YtdaeofhdgabhjaaGreat
section
open Go.RowKit Go.Sort Go.Shelf Go.Lib
def YV(q x:Int)(B o:Nat)(W:World)(hc:W.cell? ⟨B,o,none⟩=some (.int .i64 q)):FnGives bE 204 #[.pointer (some ⟨B,o,none⟩)] #[.int .i64 x] (.bool (x==q)) W:=by
 show Calls bE 204 #[.int .i64 x,.pointer (some ⟨B,o,none⟩)] W _
 go_enter Tryz.func204,Tryz.ntmps204
 go_wp2
 all_goals (go_ret;exact⟨by simp_all,0,rfl⟩)
def YU(q x:Int)(B o:Nat)(W:World)(hc:W.cell? ⟨B,o,none⟩=some (.int .i64 q)):FnGives bE 205 #[.pointer (some ⟨B,o,none⟩)] #[.int .i64 x] (.bool (x==q)) W:=by
 show Calls bE 205 #[.int .i64 x,.pointer (some ⟨B,o,none⟩)] W _
 go_enter Tryz.func205,Tryz.ntmps205
 go_wp2
 all_goals (go_ret;exact⟨by simp_all,0,rfl⟩)
def Tx{enc:Int->Value}{d:Array Int}{cur:Array Value}{i:Nat}(h:i<d.size)(hc:i<cur.size):(putCells enc 0 d cur)[i]? =some (enc d[i]!):=by unfold putCells;simp[h,hc]
def TH{enc:Int->Value}{d:Array Int}{cur:Array Value}:(putCells enc 0 d cur).size=cur.size:=by unfold putCells;simp
def Un{enc:Int->Value}{w:World}{b:Nat}{d:Array Int}{cur:Array Value}{t:TypeId}(h:w.heap[b]? =some (.cells cur t (0,0))):(putRow enc w b 0 d).heap[b]? =some (.cells (putCells enc 0 d cur) t (0,0)):=by unfold putRow mapBlock;show(w.heap.modify b _)[b]? =_;rw[Array.getElem?_modify,if_pos rfl,h];rfl
def TV{enc:Int->Value}{w:World}{b q:Nat}{d:Array Int}:w.grownBy (putRow enc (Sort.ahead w q) b 0 d) (some b):=by
 refine⟨rfl,rfl,rfl,?_,?_⟩
 .simp_all
 .intro k hk hne;unfold putRow mapBlock;show(w.heap.modify b _)[k]? =_;grind
def od(l:List Int):LT.I.enc l=l.map (PV.int .i64):=by show CS l=_;unfold CS;exact EM (λn=>PV.int .i64 n) l
def Kg{C:bG}{w:World}{b c:Nat}{l:List Int}{arr:Array Value}{ty:TypeId}(hL:Lent C w b c ty 1 (LT.I.enc l) arr):Holds (cg .i64) w b 0 l.toArray/\l.length<=arr.size:=by
 obtain⟨_,h2,_⟩:=hL.row (by decide);rw[od,da]at h2;refine⟨λj hj=> ?_,h2⟩;have hj:j<l.length:=by simpa using hj
 obtain⟨v,h3,_,h4⟩:=hL.cells j (.int .i64 l[j]) (by rw[od,gW,dp hj];rfl);unfold aX at h4;subst h4;refine⟨?_,?_⟩
 .rw[jy];refine(cell_of_row w b j arr ty (0,0) hL.blk).trans (h3.trans ?_);grind
 .simp[World.frozen?,hL.blk]
def aAc{C:bG}{w:World}{g:Nat}{q:Int}{vs:List Value}(hC:∀b o v,C b o v->w.cell? ⟨b,o,none⟩=some v)(h:az C [.fn (.func g) [] [.pro [.int .i64 q] 0]] vs):∃B o,vs=[.func (.func g) #[] #[.pointer (some ⟨B,o,none⟩)]]/\C B o (.int .i64 q):=by unfold az at h;obtain⟨v,r,rfl,h1,h2⟩:=h;unfold az at h2;subst h2;unfold aX at h1;obtain⟨a,b,rfl,h3,h4⟩:=h1;unfold az at h3 h4;subst h3;obtain⟨u,r,rfl,h5,h6⟩:=h4;unfold az at h6;subst h6;unfold aX at h5;obtain⟨B,o,rfl,h7⟩:=h5;unfold cP at h7;obtain⟨⟨x,h8,_,h9⟩,_⟩:=h7;unfold aX at h9;grind
def NN(g:Nat)(eg:∀args w,(callFunc g args).run bE w= .ok (.enter g args) w)(hg:∀(q x:Int) (B o:Nat) (W:World),W.cell? ⟨B,o,none⟩=some (.int .i64 q)->FnGives bE g #[.pointer (some ⟨B,o,none⟩)] #[.int .i64 x] (.bool (x==q)) W)
  (l:List Int) (q:Int) (hn:l.length<=1000000):
  Hw bE 203 l.length [.fn (.func g) [] [.pro [.int .i64 q] 0]] 3 1 (LT.I.enc l) (LT.I.enc (l.filter λx=> !(x==q))) (l.filter λx=> !(x==q)).length:=by
 refine⟨by kernel_rfl,?_,yt ..,?_,?_⟩
 .rw[od,od,da,da];grind
 .rw[od,bk];intro x hx;obtain⟨n,_,rfl⟩:=bZ.1 hx;rfl
 intro C w b c arr vs hC hL hnc hA;obtain⟨B,o,rfl,hBo⟩:=aAc (λb o v h=>(hC b o v h).1) hA;obtain⟨hcell,hne⟩:=hC _ _ _ hBo;obtain⟨hH,hsz⟩:=Kg hL;have hB:B<w.heap.size:=World.block_lt_of_cell? w ⟨B,o,none⟩ hcell;have hcon:=AnyE.slices_DeleteFunc (P:=bE) (ρ:=Tryz.del203_ren) Tryz.del203 (cg .i64) (λ_=>rfl) (λx:Int=>x==q) g #[.pointer (some ⟨B,o,none⟩)] eg 0 (λw=>by kernel_rfl) b 0 c l.toArray w
  (λW x hb=>hg q x B o W ((hb.cell (p:=⟨B,o,none⟩) hB).trans hcell))
  (λn os dk x _=>hg q x B o _ (by unfold sortWorld;rw[cell?_grow _ _ _ (by simp_all),cell?_putRow_other _ _ b 0 _ _ (Or.inl hne)];exact hcell)) hH (by simp;omega) (by omega)
 change Calls bE 203 _ _ _ at hcon;have e1:l.toArray.toList=l:=rfl;rw[e1]at hcon;simp only[rW]at hcon;refine hcon.mono ?_;rintro e w' ⟨rfl,q',rfl⟩;have hfl:=yt (λx=> !(x==q)) l;generalize (l.filter λx=> !(x==q))=m at hfl|-;refine⟨_,rfl,Un (w:=Sort.ahead w q') hL.blk,TH,?_,TV⟩;intro i x hi;rw[od,gW]at hi;cases hx:m[i]? with
 |none=>grind
 |some y=>
  rw[hx]at hi;cases hi;have hi':i<m.length:=(rX.1 hx).1;refine⟨.int .i64 y,?_,rfl,by unfold aX;rfl⟩;rw[Tx (by simp;omega) (by omega)];grind
def aAA(args:Array Value)(w:World):(callFunc 204 args).run bE w= .ok (.enter 204 args) w:=lK (by kernel_rfl) args w
def aAz(args:Array Value)(w:World):(callFunc 205 args).run bE w= .ok (.enter 205 args) w:=lK (by kernel_rfl) args w
def Hq:List SV->Option (List Int×Bool×Int)
 |[.lst .I l,.fnp 204 [] [.pro [.int .i64 q] 0]] =>some (l,true,q)
 |[.lst .I l,.fnp 205 [] [.pro [.int .i64 q] 0]] =>some (l,false,q)
 |_=>none
def Wl{l:List Int}{rest:List SV}{x:List Int×Bool×Int}(h:Hq (.lst .I l::rest)=some x):∃q,(rest=[.fnp 204 [] [.pro [.int .i64 q] 0]]/\x=(l,true,q))\/(rest=[.fnp 205 [] [.pro [.int .i64 q] 0]]/\x=(l,false,q)):=by unfold Hq at h;grind
noncomputable def aDH:Con:=⟨List Int×Bool×Int,Hq,λx=>[x.1.length<=1000000],.rowB .I 3 λx=>x.1.filter λy=> !(y==x.2.2)⟩
def aB5:aDH.Okz 203:=by
 intro l rest x hd hp;obtain⟨q,⟨rfl,rfl⟩|⟨rfl,rfl⟩⟩:=Wl hd
 .exact⟨[.fn (.func 204) [] [.pro [.int .i64 q] 0]],rfl,NN 204 aAA YV l q (hp _ cI)⟩
 .exact⟨[.fn (.func 205) [] [.pro [.int .i64 q] 0]],rfl,NN 205 aAz YU l q (hp _ cI)⟩
end
def gG{x y A B:Int}(hx: -A<=x/\x<=A)(hy: -B<=y/\y<=B): -(A*B)<=x*y/\x*y<=A*B:=by have h1:0<=(A-x)*(B-y):=cV (by omega) (by omega);have h2:0<=(A+x)*(B+y):=cV (by omega) (by omega);have h3:0<=(A-x)*(B+y):=cV (by omega) (by omega);have h4:0<=(A+x)*(B-y):=cV (by omega) (by omega);grind
def bd(M:Int)(v:V):Prop:=(-M<=v.x/\v.x<=M)/\ -M<=v.y/\v.y<=M
def qF{m M:Int}{v:V}(h:bL v m=true)(hm:m<=M:=by decide):bd M v:=by unfold bL at h;unfold bd;grind
def bd.mono{m M:Int}{v:V}(h:bd m v)(hm:m<=M:=by decide):bd M v:=by unfold bd at*;omega
def mv{M:Int}{a b:V}(ha:bd M a)(hb:bd M b):(-(M*M)<=a.x*b.y/\a.x*b.y<=M*M)/\ -(M*M)<=a.y*b.x/\a.y*b.x<=M*M:=⟨gG ha.1 hb.2,gG ha.2 hb.1⟩
def io{m:Int}{a b:V}(ha:bd m a)(hb:bd m b):bd (m+m) (aE1 a b):=by unfold bd aE1 at*;grind
def aAw(n:Int): -1<=sgn n/\sgn n<=1:=by unfold sgn;grind
def bD{x:Int}(h: -9000000000000000000<=x/\x<=9000000000000000000):aE x:=by unfold aE;omega
noncomputable def aEj:Con:=con (ac aV (a1 aV)) (λ(_,_)=>[]) (λ(a,b)=> .bool (bf a b)
 )
def aCH:aEj.Okz 149:=ag PW (λ(_,_)=>[]) (λ(_,_)=>⟨_,rfl⟩) λ(a,b) _=>aY ((a.y<b.y->true=bf a b)/\
 (¬a.y<b.y->(a.y=b.y->decide (a.x<b.x)=bf a b)/\
  (¬a.y=b.y->false=bf a b))) (by kernel_rfl) (by
  unfold bf;grind)
noncomputable def Q3:=PW.adk aCH
noncomputable def c80:Con:=con (a1 aI) (λ_=>[]) (λn=> .iqz (sgn n)
 )
def k80:c80.Okz 80:=ag Q3 bW (λ_=>⟨_,rfl⟩) λn _=>aY ((0<n->1=sgn n)/\
 (¬0<n->(n<0-> -1=sgn n)/\
  (¬n<0->0=sgn n))) (by kernel_rfl) (by
  unfold sgn;grind)
noncomputable def t80:=Q3.adk k80
noncomputable def c79:Con:=con (ac aV (a1 aV)) (λ(_,_)=>[]) (λ(a,b)=> .iqz (bn a b)
 )
def k79:c79.Okz 79:=ag t80 (λ(_,_)=>[]) (λ(_,_)=>⟨_,rfl⟩) λ(a,b) _=>aY ((bf a b=true-> -1=bn a b)/\
 (bf a b=false->(a=b->0=bn a b)/\
  (¬a=b->1=bn a b))) (by kernel_rfl) (by
  unfold bn aE2 bf;simp only[aEX];grind)
noncomputable def t79:=t80.adk k79
noncomputable def c35:Con:=con (ac aV (a1 aI)) (λ(_,m)=>[0<=m,m<=1000000000000]) (λ(a,m)=> .bool (bL a m)
 )
def k35:c35.Okz 35:=ag t79 (λ(_,_)=>[]) (λ(_,_)=>⟨_,rfl⟩) λ(a,m) hp=>aY (aE (0-m)/\(0-m<=a.x->(a.x<=m->aE (0-m)/\(0-m<=a.y->decide (a.y<=m)=bL a m)/\
   (¬0-m<=a.y->false=bL a m))/\
  (¬a.x<=m->false=bL a m))/\
 (¬0-m<=a.x->false=bL a m)) (by kernel_rfl) (by change 0<=m/\m<=1000000000000 at hp;unfold bL;have:= @aE;grind[aE])
noncomputable def t35:=t79.adk k35
noncomputable def c98:Con:=con (a1 aS) (λ_=>[]) (λs=> .bool (bJ s)
 )
def k98:c98.Okz 98:=ag t35 bW (λ_=>⟨_,rfl⟩) λs _=>aY ((0:Int)<=4000/\(4000:Int)<=1000000000000/\(bL s.a 4000=true->(0:Int)<=4000/\(4000:Int)<=1000000000000/\bL s.b 4000=bJ s)/\
 (bL s.a 4000=false->false=bJ s)) (by kernel_rfl) (by unfold bJ;grind)
noncomputable def t98:=t35.adk k98
noncomputable def aES:Con:=con (a1 aV) (λ_=>[]) (λv=>(aT).enc (eJ v)
 )
def aDh:aES.Okz 104:=ag t98 bW (λ_=>⟨_,rfl⟩) λv _=>aY (aA (eJ v) λA=>v.x=A.x/\v.y=A.y/\1=A.den) (by kernel_rfl) (by exact⟨rfl,rfl,rfl⟩)
noncomputable def Rh:=t98.adk aDh
noncomputable def aEo:Con:=con (ac aV (a1 aV)) (λ(a,b)=>[bd 2000000000 a,bd 2000000000 b]) (λ(a,b)=> .iqz (cross a b)
 )
def aCM:aEo.Okz 144:=ag Rh (λ(_,_)=>[]) (λ(_,_)=>⟨_,rfl⟩) λ(a,b) hp=>aY (aE (a.x*b.y)/\aE (a.y*b.x)/\aE (a.x*b.y-a.y*b.x)/\a.x*b.y-a.y*b.x=cross a b) (by kernel_rfl) (by change bd 2000000000 a/\bd 2000000000 b at hp;have:=mv hp.1 hp.2;exact⟨bD (by omega),bD (by omega),bD (by omega),rfl⟩)
noncomputable def Q9:=Rh.adk aCM
noncomputable def aEn:Con:=con (ac aV (a1 aV)) (λ(a,b)=>[bd 1000000000 a,bd 1000000000 b]) (λ(a,b)=>aV.enc (aE1 a b)
 )
def aCL:aEn.Okz 145:=ag Q9 (λ(_,_)=>[]) (λ(_,_)=>⟨_,rfl⟩) λ(a,b) hp=>aY (aE (a.x-b.x)/\aE (a.y-b.y)/\a.x-b.x=(aE1 a b).x/\a.y-b.y=(aE1 a b).y) (by kernel_rfl) (by change bd 1000000000 a/\bd 1000000000 b at hp;unfold bd at hp;exact⟨bD (by omega),bD (by omega),rfl,rfl⟩)
noncomputable def Q8:=Q9.adk aCL
def nB{s:S}(h:(!bJ s)=false){M:Int}(hM:4000<=M:=by decide):bd M s.a/\bd M s.b:=by unfold bJ at h;simp only[Bool.not_eq_false',bw]at h;exact⟨qF h.1 hM,qF h.2 hM⟩
def O3{s:S}{p:V}{M:Int}(h1:bd M s.a/\bd M s.b)(h:fV s p=true):bd M p:=by unfold fV at h;unfold bd at*;grind
def AP(s:S)(p:V): -1<=gP s p/\gP s p<=1:=by
 unfold gP turn;split
 .omega
 .exact aAw _
noncomputable def c70:Con:=con (ac aV (ac aV (a1 aV))) (λ(a,b,c)=>[bd 1000000000 a,bd 1000000000 b,bd 1000000000 c]) (λ(a,b,c)=> .iqz (turn a b c)
 )
def k70:c70.Okz 70:=ag Q8 (λ(_,_,_)=>[]) (λ(_,_,_)=>⟨_,rfl⟩) λ(a,b,c) hp=>aY (bd 1000000000 b/\bd 1000000000 a/\bd 1000000000 c/\bd 1000000000 a/\bd 2000000000 (aE1 b a)/\bd 2000000000 (aE1 c a)/\sgn (cross (aE1 b a) (aE1 c a))=turn a b c) (by kernel_rfl) (by change bd 1000000000 a/\bd 1000000000 b/\bd 1000000000 c at hp;exact⟨hp.2.1,hp.1,hp.2.2,hp.1,io hp.2.1 hp.1,io hp.2.2 hp.1,rfl⟩)
noncomputable def t70:=Q8.adk k70
noncomputable def aEW:Con:=con (ac aS (a1 aV)) (λ(_,_)=>[]) (λ(s,p)=> .iqz (gP s p)
 )
def aDl:aEW.Okz 100:=ag t70 (λ(_,_)=>[]) (λ(_,_)=>⟨_,rfl⟩) λ(s,p) _=>aY (aA (!bJ s) λA=>aA (!bL p 4000) λB=>(A=true->0=gP s p)/\
 (A=false->(0:Int)<=4000/\(4000:Int)<=1000000000000/\(B=true->0=gP s p)/\
  (B=false->bd 1000000000 s.a/\bd 1000000000 s.b/\bd 1000000000 p/\turn s.a s.b p=gP s p))) (by kernel_rfl) (by
  unfold gP;refine⟨λh=>by rw[h];rfl,λh=>⟨by decide,by decide,λh2=>by grind,λh2=>⟨(nB h).1,(nB h).2,qF (by simpa using h2),by grind⟩⟩⟩)
noncomputable def Rl:=t70.adk aDl
noncomputable def aD8:Con:=con (ac aS (a1 aV)) (λ(_,_)=>[]) (λ(s,p)=> .bool (onS s p))
def aCx:aD8.Okz 163:=ag Rl (λ(s,p)=>[jb 4 5 (fV s p)]
  ) (λ(_,_)=>⟨_,rfl⟩) λ(s,p) _=>aY (aA (!bJ s) λA=>(A=true->false=onS s p)/\
 (A=false->((Min.min s.a.x s.b.x<=p.x->(p.x<=Max.max s.a.x s.b.x->(Min.min s.a.y s.b.y<=p.y->decide (p.y<=Max.max s.a.y s.b.y)=fV s p)/\
     (¬Min.min s.a.y s.b.y<=p.y->false=fV s p))/\
    (¬p.x<=Max.max s.a.x s.b.x->false=fV s p))/\
   (¬Min.min s.a.x s.b.x<=p.x->false=fV s p))/\
  (∀y:Unit,(fV s p=true->bd 1000000000 s.a/\bd 1000000000 s.b/\bd 1000000000 p/\decide (turn s.a s.b p=0)=onS s p)/\
   (fV s p=false->false=onS s p)))) (by kernel_rfl) (by
  refine⟨λh=>by unfold onS;grind,λh=>⟨by unfold fV;grind,λ_=>⟨λh2=>⟨(nB h).1,(nB h).2,O3 (nB h) h2,by unfold onS;grind⟩,λh2=>by unfold onS;rw[h2];simp⟩⟩⟩)
noncomputable def Qr:=Rl.adk aCx
def so(l:List V)(k:Nat):List V:=lP (l.take k)
def qso(l:List V)(k j:Nat):Prop:=bf (aEY (so l k) j) (aEY l k)=true
def cm(s t:S)(k:Nat):List V:=([s.a,s.b,t.a,t.b].take k).filter λp=>onS s p&&onS t p
def FU{l:List V}{k:Nat}(h:k<l.length):so l (k+1)=jp (so l k) (aEY l k):=by unfold so lP;rw[lJ,dp h,vz,nth_eq h];rfl
def EF{p:V}:∀{l:List V} {k:Nat},k<=l.length->(∀j,j<k->bf (aEY l j) p=true)->(k<l.length->¬bf (aEY l k) p=true)->
  jp l p=if k<l.length/\aEY l k=p then l else l.take k++p::l.drop k
 |[],k,h1,_,_=>by simp at h1;subst h1;rfl
 |q::r,0,_,_,h3=>by
  have h3:¬bf q p=true:=h3 (by simp);unfold jp;rw[if_neg h3];show(if q=p then q::r else p::q::r)=if 0<(q::r).length/\q=p then q::r else p::q::r;simp
 |q::r,k+1,h1,h2,h3=>by
  have h0:bf q p=true:=h2 0 (by omega);unfold jp;rw[if_pos h0,EF (l:=r) (k:=k) (by grind) (λj hj=>h2 (j+1) (by omega)) (λhk=>h3 (by grind))];show(q::if _ then _ else _)=if k+1<(q::r).length/\aEY r k=p then q::r else q::(r.take k++p::r.drop k);grind
def YI(l:List V)(p:V):(jp l p).length<=l.length+1:=by
 induction l with
 |nil=>simp[jp]
 |cons q r ih=>unfold jp;grind
def Oe{l:List V}{k y:Nat}(hk:k<l.length)(h1:y<=(so l k).length)(h2:aM (qso l k) y)(h3:y<(so l k).length->¬qso l k y)(h4:¬(y<(so l k).length/\aEY (so l k) y=aEY l k)):
  ([] :List V)++aP y (cY 0 (so l k))++[aEY l k] ++aP ((so l k).length-y) (cY y (so l k))=so l (k+1):=by
 have e:aP ((so l k).length-y) (cY y (so l k))=cY y (so l k):=fT (by simp);rw[FU hk,EF h1 h2 h3,if_neg h4,e];simp
def NG{l:List V}{k y:Nat}(hk:k<l.length)(h1:y<=(so l k).length)(h2:aM (qso l k) y)(h3:y<(so l k).length->¬qso l k y)(h4:y<(so l k).length)(h5:aEY (so l k) y=aEY l k):so l k=so l (k+1):=by rw[FU hk,EF h1 h2 h3,if_pos ⟨h4,h5⟩]
def Z7(s t:S){k:Nat}(h:k<4):cm s t (k+1)=if(onS s (aEY [s.a,s.b,t.a,t.b] k)&&onS t (aEY [s.a,s.b,t.a,t.b] k))=true then cm s t k++[aEY [s.a,s.b,t.a,t.b] k]else cm s t k:=by unfold cm;rw[lJ,dp (show k<[s.a,s.b,t.a,t.b].length from h),List.filter_append,nth_eq (show k<[s.a,s.b,t.a,t.b].length from h)];grind
def aA2(s t:S)(k:Nat):(cm s t k).length<=4:=cF (yt _ _) (by simp;omega)
noncomputable def aD7:Con:=con (a1 (aL .V)) (λl=>[l.length<=1000]) (λl=> .lst .V (lP l))
def aCw:aD7.Okz 164:=ag Qr (λl=>[lp 3 4 l.length (λk=>[(so l k).length<=k]) [900] (λk=>[(3,.own 900 .V (so l k).length)]) (λk=>[(900,.row 44 .V (so l k))]) λk=>[cnt 6 5 (so l k).length (aM (qso l k)),jN 8 5 (λj=>[j<=(so l k).length,aM (qso l k) j,j<(so l k).length->¬qso l k j]) λj=>[jP 9 [¬(j<(so l k).length/\aEY (so l k) j=aEY l k)]]]]
  ) (λ_=>⟨_,rfl⟩) λl hp=>aY (aA (so l 0).length λL=>aA ([] :List V) λN=>(0=(0:Int)/\L=0/\so l 0=N/\(0:Nat)<=l.length/\L<=0)/\
 (∀x:Nat,aA (x+1) λA=>aA (so l x) λB=>aA (so l A) λC=>aA (x:Int) λD=>aA (qso l x) λF=>aA (aEY l x) λH=>aA (cY 0 B) λJ=>aA ((x+1:Nat):Int) λP=>x<=l.length/\B.length<=x->(D<l.length->((0=(0:Int)/\(0:Nat)<=B.length/\aM F 0)/\
    (∀x_1:Nat,aA (x_1:Int) λG=>aA (aEY B x_1) λM=>x_1<=B.length/\aM F x_1->(G<B.length->ix G B.length/\x_1<B.length/\ix D l.length/\(bf M H=true->aE (G+1)/\G+1=((x_1+1:Nat):Int)/\x_1+1<=B.length/\aM F (x_1+1)/\B.length-(x_1+1)<B.length-x_1)/\
      (bf M H=false->G=x_1/\x_1<=B.length/\aM F x_1/\(x_1<B.length->¬qso l x x_1)))/\
     (¬G<B.length->G=x_1/\x_1<=B.length/\aM F x_1/\(x_1<B.length->¬qso l x x_1))))/\
   (∀y:Nat,aA (y:Int) λE=>aA (B.length-y) λI=>aA (cY y B) λK=>aA (N++aP y J) λO=>aA (N++aP y J++[H]) λQ=>y<=B.length/\aM F y/\(y<B.length->¬qso l x y)->((E<B.length->ix E B.length/\y<B.length/\ix D l.length/\((aEY B y)=H->aE (D+1)/\D+1=P/\B.length=C.length/\so l x=so l A/\x+1<=l.length/\C.length<=x+1/\l.length-A<l.length-x)/\
      (¬(aEY B y)=H->¬(y<B.length/\aEY B y=aEY l x)))/\
     (¬E<B.length->¬(y<B.length/\aEY B y=aEY l x)))/\
    (∀y_1:Unit,¬(y<B.length/\aEY B y=aEY l x)->(0<=E/\E<=B.length)/\0+y<=B.length/\N.length+(aP y J).length<=1000000/\ix D l.length/\O.length=O.length/\O.length+[H].length<=1000000/\(0<=E/\E<=B.length)/\Q.length=Q.length/\y+I<=B.length/\Q.length+(aP I K).length<=1000000/\aE (D+1)/\D+1=P/\(N++aP y J++[H] ++aP I K).length=C.length/\N++aP y J++[H] ++aP I K=so l A/\x+1<=l.length/\C.length<=x+1/\l.length-A<l.length-x)))/\
  (¬D<l.length->B.length=B.length/\so l x=lP l))) (by kernel_rfl) (by
  change l.length<=1000 at hp;have e0:so l 0=[] :=rfl;have e1:so l l.length=lP l:=by unfold so;rw[ke]
  have el:∀x,x<l.length->(so l x).length<=x->(so l (x+1)).length<=x+1:=by intro x h h2;rw[FU h];exact cF (YI _ _) (by omega)
  have e2:(so l 0).length=0:=rfl
  with_reducible ((repeat' first|apply bl|intro);all_goals repeat cases‹_/\_›)
  all_goals first|assumption|rfl|exact trivial|exact nb ‹_› |exact nb' ‹_› |omega|exact gH (by omega)|(unfold ix;omega)|(unfold aE;omega)|exact fz _|exact bz ‹_› ‹_› |(refine bz ‹_› ?_;simp_all;done)|exact Oe (by omega) ‹_› ‹_› ‹_› ‹_› |exact congrArg dA (Oe (by omega) ‹_› ‹_› ‹_› ‹_›)|exact NG (by omega) ‹_› ‹_› ‹_› (by omega) ‹_› |exact congrArg dA (NG (by omega) ‹_› ‹_› ‹_› (by omega) ‹_›)|exact el _ (by omega) ‹_› |(unfold qso at*;simp_all;done)|grind)
noncomputable def Qq:=Qr.adk aCw
noncomputable def c99:Con:=con (ac aS (a1 aS)) (λ(_,_)=>[]) (λ(s,t)=> .lst .V (dw s t))
def k99:c99.Okz 99:=ag Qq (λ(s,t)=>[lp 4 7 4 bW [900,11] (λk=>[(6,.own 900 .V (cm s t k).length),(5,.own 11 .V 4)]) (λk=>[(900,.row 44 .V (cm s t k)),(11,.row 44 .V [s.a,s.b,t.a,t.b])]) λk=>[jb 7 34 (onS s (aEY [s.a,s.b,t.a,t.b] k)&&onS t (aEY [s.a,s.b,t.a,t.b] k))]]
  ) (λ(_,_)=>⟨_,rfl⟩) λ(s,t) _=>aY (aA (4:Nat) λC=>(0=(0:Int)/\(cm s t 0).length=0/\C=4/\cm s t 0=([] :List V)/\[s.a,s.b,t.a,t.b] =[s.a,s.b,t.a,t.b]/\(0:Nat)<=4)/\
 (∀x:Nat,aA (x+1) λA=>aA (x:Int) λB=>aA (cm s t x) λD=>aA (cm s t A).length λE=>aA ((x+1:Nat):Int) λF=>aA (aEY [s.a,s.b,t.a,t.b] x) λG=>aA (onS s G&&onS t G) λH=>x<=4->(B<4->(ix B 4/\x<[s.a,s.b,t.a,t.b].length/\(onS s G=true->ix B 4/\x<[s.a,s.b,t.a,t.b].length/\onS t G=H)/\
    (onS s G=false->false=H))/\
   (∀y:Unit,(H=true->ix B 4/\x<[s.a,s.b,t.a,t.b].length/\D.length=D.length/\D.length+[G].length<=1000000/\aE (B+1)/\B+1=F/\(cm s t x++[G]).length=E/\C=4/\cm s t x++[G] =cm s t A/\[s.a,s.b,t.a,t.b] =[s.a,s.b,t.a,t.b]/\x+1<=4/\4-A<4-x)/\
    (H=false->aE (B+1)/\B+1=F/\D.length=E/\C=4/\cm s t x=cm s t A/\[s.a,s.b,t.a,t.b] =[s.a,s.b,t.a,t.b]/\x+1<=4/\4-A<4-x)))/\
  (¬B<4->D.length=D.length/\D.length<=1000/\lP D=dw s t))) (by kernel_rfl) (by
  have e0:cm s t 0=[] :=rfl;have e4:lP (cm s t 4)=dw s t:=rfl;have es:=λk=> @Z7 s t k;have el:=aA2 s t
  with_reducible ((repeat' first|apply bl|intro);all_goals repeat cases‹_/\_›)
  all_goals grind)
noncomputable def t99:=Qq.adk k99
noncomputable def c32:Con:=con (ac aS (a1 aS)) (λ(_,_)=>[]) (λ(s,t)=> .iqz (bh s t)
 )
def k32:c32.Okz 32:=ag t99 (λ(_,_)=>[]) (λ(_,_)=>⟨_,rfl⟩) λ(s,t) _=>aY (aA (!bJ s) λA=>aA (!bJ t) λB=>aA ((dw s t).length:Int) λD=>(A=true->0=bh s t)/\
 (A=false->(B=true->0=bh s t)/\
  (B=false->(1<D->3=bh s t)/\
   (¬1<D->(D=1->1=bh s t)/\
    (¬D=1->aE (gP s t.a*gP s t.b)/\(gP s t.a*gP s t.b<0->aE (gP t s.a*gP t s.b)/\(gP t s.a*gP t s.b<0->2=bh s t)/\
      (¬gP t s.a*gP t s.b<0->0=bh s t))/\
     (¬gP s t.a*gP s t.b<0->0=bh s t)))))) (by kernel_rfl) (by
  have d1:=AP s t.a;have d2:=AP s t.b;have d3:=AP t s.a;have d4:=AP t s.b;have m1:=gG d1 d2;have m2:=gG d3 d4;unfold bh
  with_reducible ((repeat' first|apply bl|intro);all_goals repeat cases‹_/\_›)
  all_goals grind)
noncomputable def t32:=t99.adk k32
def eg(r:aH)(k:Nat):List S:=(bQ k).map (bP r)
def OI(r:aH)(k:Nat):eg r k++[(⟨aEY r k,aEY r ((k+1) % r.length)⟩:S)] =eg r (k+1):=by unfold eg;rw[qS,dM];rfl
def O9(r:aH)(k:Nat):(eg r k).length=k:=by unfold eg;simp
def ar(r:aH)(k:Nat):Int:=((bQ k).map λi=>cross (aEY r i) (nxt r i)).sum
def BD(r:aH)(k:Nat):ar r (k+1)=ar r k+cross (aEY r k) (aEY r ((k+1) % r.length)):=by unfold ar;rw[qS,dM,rV];simp[nxt]
def lQ{r:aH}(h:near r=true){i:Nat}(hi:i<r.length){M:Int}(hM:2000<=M:=by decide):bd M (aEY r i):=qF (uO h i hi) hM
def Ze{r:aH}{i:Nat}(hi:i<r.length)(h:(!bL (aEY r i) 2000)=true):near r=false:=by
 cases hn:near r with
 |false=>rfl
 |true=>have:=uO hn i hi;grind
def X8{r:aH}(h:aM (λi=>bL (aEY r i) 2000=true) r.length):near r=true:=by unfold near;rw[bk];intro v hv;obtain⟨j,hj,rfl⟩:=jX hv;rw[<-nth_eq hj];exact h j hj
def vE{r:aH}(h:near r=true):∀k:Nat,k<=r.length-> -8000000*(k:Int)<=ar r k/\ar r k<=8000000*k
 |0,_=>by simp[ar]
 |k+1,hk=>by
  have ih:=vE h k (by omega);have:=mv (lQ h (i:=k) (by omega) (M:=2000)) (lQ h (i:=(k+1) % r.length) (bq _ (by omega)) (M:=2000));rw[BD];unfold cross;omega
noncomputable def aEU:Con:=con (a1 (aL .V)) (λr=>[r.length<=100000]) (λr=> .lst .S (aJ r))
def aDj:aEU.Okz 102:=ag t32 (λr=>[lp 5 4 r.length bW [900] (λk=>[(3,.own 900 .S (eg r k).length)]) (λk=>[(900,.row 46 .S (eg r k))])]
  ) (λ_=>⟨_,rfl⟩) λr hp=>aY (aA (r.length:Int) λG=>aA ([] :List S) λI=>(G<2->aJ r=I)/\
 (¬G<2->(0=(0:Int)/\(eg r 0).length=0/\eg r 0=I/\(0:Nat)<=r.length)/\
  (∀x:Nat,aA (x+1) λA=>aA (eg r x) λB=>aA (x:Int) λC=>aA (⟨(aEY r x),(aEY r (A % r.length))⟩:S) λH=>x<=r.length->(C<r.length->ix C r.length/\aE (C+1)/\G≠0/\ix ((A % r.length:Nat):Int) r.length/\B.length=B.length/\B.length+[H].length<=1000000/\aE (C+1)/\C+1=((x+1:Nat):Int)/\(eg r x++[H]).length=(eg r A).length/\eg r x++[H] =eg r A/\x+1<=r.length/\r.length-A<r.length-x)/\
   (¬C<r.length->B.length=B.length/\eg r x=aJ r)))) (by kernel_rfl) (by
  change r.length<=100000 at hp;have e0:eg r 0=[] :=rfl;have es:=OI r;have el:=O9 r;have ee:aJ r=if r.length<2 then []else eg r r.length:=rfl
  repeat' first|with_reducible apply bl|with_reducible intro
  all_goals repeat with_reducible cases‹_/\_›
  all_goals first|assumption|rfl|exact trivial|exact nb ‹_› |exact nb' ‹_› |omega|exact gH (by omega)|(unfold ix;omega)|(unfold aE;omega)|exact fz _|exact bz ‹_› ‹_› |(refine bz ‹_› ?_;simp_all;done)|grind)
noncomputable def Rj:=t32.adk aDj
noncomputable def aEa:Con:=con (a1 (aL .V)) (λr=>[r.length<=100000]) (λr=> .bool (near r))
def aCz:aEa.Okz 160:=ag Rj (λr=>[cnt 2 3 r.length (aM λi=>bL (aEY r i) 2000=true)]
  ) (λ_=>⟨_,rfl⟩) λr hp=>aY ((0=(0:Int)/\(0:Nat)<=r.length/\aM (λi=>bL (aEY r i) 2000=true) 0)/\
 (∀x:Nat,aA (x:Int) λA=>aA (!bL (aEY r x) 2000) λB=>x<=r.length/\aM (λi=>bL (aEY r i) 2000=true) x->(A<r.length->ix A r.length/\(0:Int)<=2000/\(2000:Int)<=1000000000000/\(B=true->false=near r)/\
   (B=false->aE (A+1)/\A+1=((x+1:Nat):Int)/\x+1<=r.length/\aM (λi=>bL (aEY r i) 2000=true) (x+1)/\r.length-(x+1)<r.length-x))/\
  (¬A<r.length->true=near r))) (by kernel_rfl) (by
  change r.length<=100000 at hp;have e1:= @Ze r;have e2:= @X8 r
  repeat' first|with_reducible apply bl|with_reducible intro
  all_goals repeat with_reducible cases‹_/\_›
  all_goals first|assumption|rfl|exact trivial|exact nb ‹_› |exact nb' ‹_› |omega|exact gH (by omega)|(unfold ix;omega)|(unfold aE;omega)|exact fz _|exact bz ‹_› ‹_› |(refine bz ‹_› ?_;simp_all;done)|exact(e2 (by rw[show r.length=_ from(by omega)];assumption)).symm|grind)
noncomputable def Qt:=Rj.adk aCz
noncomputable def aEL:Con:=con (a1 (aL .V)) (λr=>[near r=true,r.length<=100000]) (λr=> .iqz (area r))
def aDa:aEL.Okz 113:=ag Qt (λr=>[lp 3 4 r.length bW [] (λk=>[(3,.iqz (ar r k))]) bW]
  ) (λ_=>⟨_,rfl⟩) λr hp=>aY ((0=(0:Int)/\0=ar r 0/\(0:Nat)<=r.length)/\
 (∀x:Nat,aA (x+1) λA=>aA (x:Int) λB=>aA (aEY r x) λC=>aA (aEY r (A % r.length)) λE=>x<=r.length->(B<r.length->ix B r.length/\aE (B+1)/\(r.length:Int)≠0/\ix ((A % r.length:Nat):Int) r.length/\bd 2000000000 C/\bd 2000000000 E/\aE (ar r x+cross C E)/\aE (B+1)/\B+1=((x+1:Nat):Int)/\ar r x+cross C E=ar r A/\x+1<=r.length/\r.length-A<r.length-x)/\
  (¬B<r.length->ar r x=area r))) (by kernel_rfl) (by
  change near r=true/\r.length<=100000 at hp;have e0:ar r r.length=area r:=rfl;have es:=BD r;have eb:∀x,x<r.length->aE (ar r x+cross (aEY r x) (aEY r ((x+1) % r.length))):=λx h=>by rw[<-es];exact bD (by have:=vE hp.1 (x+1) (by omega);omega)
  have en:=λi hi=> @lQ r hp.1 i hi 2000000000
  repeat' first|with_reducible apply bl|with_reducible intro
  all_goals repeat with_reducible cases‹_/\_›
  all_goals first|assumption|rfl|exact trivial|exact nb ‹_› |exact nb' ‹_› |omega|exact gH (by omega)|(unfold ix;omega)|(unfold aE;omega)|exact fz _|exact bz ‹_› ‹_› |(refine bz ‹_› ?_;simp_all;done)|exact eb _ (by omega)|exact en _ (by omega) (by decide)|exact en _ (bq _ (by omega)) (by decide)|(rw[es])|grind)
noncomputable def RZ:=Qt.adk aDa
noncomputable def aDI:Con:=con (a1 aI) (λn=>[-9000000000000000000<=n,n<=9000000000000000000]) (λn=> .iqz (n.natAbs:Int)
 )
def aB6:aDI.Okz 201:=ag RZ bW (λ_=>⟨_,rfl⟩) λn hp=>aY ((0<=n->n=cJ n)/\
 (¬0<=n->aE (0-n)/\0-n=cJ n)) (by kernel_rfl) (by
  change-9000000000000000000<=n/\n<=9000000000000000000 at hp
  repeat' first|with_reducible apply bl|with_reducible intro
  all_goals repeat with_reducible cases‹_/\_›
  all_goals first|assumption|rfl|exact trivial|exact nb ‹_› |exact nb' ‹_› |omega|exact gH (by omega)|(unfold ix;omega)|(unfold aE;omega)|exact fz _|exact bz ‹_› ‹_› |(refine bz ‹_› ?_;simp_all;done)|grind)
noncomputable def QR:=RZ.adk aB6
noncomputable def aDJ:Con:=con (ac aI (a1 aI)) (λ(a,b)=>[0<=a,0<=b]) (λ(a,b)=> .iqz ((bX a.natAbs b.natAbs:Nat):Int))
def aB7:aDJ.Okz 200:=ag QR (λ(a,b)=>[(1,.mk (Int×Int) (λF _=>Hf F 0 1) [] (λp=>[0<=p.1,0<=p.2,bX p.1.natAbs p.2.natAbs=bX a.natAbs b.natAbs]) (λp=>[(0,.iqz p.1),(1,.iqz p.2)]) bW (λp=>p.2.natAbs) bW)]
  ) (λ(_,_)=>⟨_,rfl⟩) λ(a,b) hp=>aY (aA (cJ a) λA=>aA (cJ b) λB=>(a=a/\b=b/\0<=a/\0<=b/\bX A B=bX A B)/\
 (∀x:Prod Int Int,aA (cD x.1 x.2) λC=>0<=x.1/\0<=x.2/\bX (cJ x.1) (cJ x.2)=bX A B->(¬x.2=0->x.2≠0/\x.2=x.2/\cD x.1 x.2=cD x.1 x.2/\0<=x.2/\0<=cD x.1 x.2/\bX (cJ x.snd) (cJ C)=bX A B/\cJ C<cJ x.2)/\
  (¬(¬x.2=0)->x.1=bX A B))) (by kernel_rfl) (by
  change 0<=a/\0<=b at hp;have e1:∀x y:Int,0<=x->0<=y->bX y.natAbs (cD x y).natAbs=bX x.natAbs y.natAbs:=λx y _ _=>by rw[yu,yv,<-Nat.gcd_rec,yv]
  have e2:∀x y:Int,0<=x->¬y=0->(cD x y).natAbs<y.natAbs:=λx y _ h=>by rw[yu];exact bq _ (by omega)
  have e3:∀x y:Int,0<=x->0<=cD x y:=λx y h=>Int.tmod_nonneg _ h
  repeat' first|with_reducible apply bl|with_reducible intro
  all_goals repeat with_reducible cases‹_/\_›
  all_goals first|assumption|rfl|exact trivial|exact nb ‹_› |exact nb' ‹_› |omega|exact gH (by omega)|(unfold ix;omega)|(unfold aE;omega)|exact fz _|exact bz ‹_› ‹_› |(refine bz ‹_› ?_;simp_all;done)|exact e3 _ _ ‹_› |exact e2 _ _ (by assumption) ‹_› |(rw[e1 _ _ (by assumption) (by assumption)];assumption)|(have h0:=rb ‹¬¬_›;simp_all;omega)|grind)
noncomputable def QS:=QR.adk aB7
def PtB(p:Pt):Prop:=(1<=p.den/\p.den<=134217728)/\(-600000000000<=p.x/\p.x<=600000000000)/\(-600000000000<=p.y/\p.y<=600000000000)
def PtB.of{p:Pt}(h:dK p=true):PtB p:=by unfold dK i8 bL at h;simp only[bw,decide_eq_true_eq]at h;unfold PtB;omega
def PtB.off{p:Pt}(hp:PtB p){v:V}(hv:bd 10000 v):(-1400000000000<=v.x*p.den/\v.x*p.den<=1400000000000)/\(-1400000000000<=v.y*p.den/\v.y*p.den<=1400000000000):=by have h1:=gG (x:=v.x) (y:=p.den) (A:=10000) (B:=134217728) (by unfold bd at hv;omega) (by unfold PtB at hp;omega);have h2:=gG (x:=v.y) (y:=p.den) (A:=10000) (B:=134217728) (by unfold bd at hv;omega) (by unfold PtB at hp;omega);omega
noncomputable def aD9:Con:=con (a1 aT) (λ_=>[]) (λp=> .bool (dK p))
def aCy:aD9.Okz 162:=ag QS (λp=>[jb 2 42 (!i8 p 4000)]
  ) (λ_=>⟨_,rfl⟩) λp _=>aY (aA (-4000*p.den) λA=>aA (!i8 p 4000) λB=>aA (cJ p.x:Int) λC=>aA (cJ p.y:Int) λD=>aA (bX (cJ C) (cJ D):Int) λE=>((p.den<1->true=B)/\
  (¬p.den<1->(134217728<p.den->true=B)/\
   (¬134217728<p.den->aE A/\(p.x< -4000*p.den->true=B)/\
    (¬p.x< -4000*p.den->aE (4000*p.den)/\(4000*p.den<p.x->true=B)/\
     (¬4000*p.den<p.x->aE A/\(p.y< -4000*p.den->true=B)/\
      (¬p.y< -4000*p.den->aE (4000*p.den)/\decide (4000*p.den<p.y)=B))))))/\
 (∀y:Unit,(B=true->false=dK p)/\
  (B=false-> -9000000000000000000<=p.x/\p.x<=9000000000000000000/\ -9000000000000000000<=p.y/\p.y<=9000000000000000000/\0<=C/\0<=D/\0<=E/\0<=p.den/\decide ((bX (cJ E) (cJ p.den):Int)=1)=dK p))) (by kernel_rfl) (by
  unfold dK i8 bL;simp only[Int.natAbs_natCast]
  repeat' first|with_reducible apply bl|with_reducible intro
  all_goals repeat with_reducible cases‹_/\_›
  all_goals first|assumption|rfl|exact trivial|exact nb ‹_› |exact nb' ‹_› |omega|exact gH (by omega)|(unfold ix;omega)|(unfold aE;omega)|exact fz _|exact bz ‹_› ‹_› |(refine bz ‹_› ?_;simp_all;done)|grind)
noncomputable def Qs:=QS.adk aCy
noncomputable def aD5:Con:=con (ac aV (ac aV (a1 aT))) (λ(a,b,p)=>[bd 10000 a,bd 10000 b,PtB p]) (λ(a,b,p)=> .iqz (sgn (gQ ⟨a,b⟩ p))
 )
def aCu:aD5.Okz 166:=ag Qs (λ(_,_,_)=>[]) (λ(_,_,_)=>⟨_,rfl⟩) λ(a,b,p) hp=>aY (aA (aE1 b a) λA=>aA (p.y-a.y*p.den) λB=>aA (p.x-a.x*p.den) λC=>aA (A.x*B-A.y*C) λD=>bd 1000000000 b/\bd 1000000000 a/\aE (a.y*p.den)/\aE B/\aE (A.x*B)/\aE (a.x*p.den)/\aE C/\aE (A.y*C)/\aE D/\sgn D=sgn (gQ (⟨a,b⟩:S) p)) (by kernel_rfl) (by change bd 10000 a/\bd 10000 b/\PtB p at hp;have h1:=hp.2.2.off hp.1;have h2:=io hp.2.1 hp.1;have h3:=hp.2.2;unfold PtB at h3;have m1:=gG (A:=20000) (B:=2000000000000) h2.1 (y:=p.y-a.y*p.den) (by omega);have m2:=gG (A:=20000) (B:=2000000000000) h2.2 (y:=p.x-a.x*p.den) (by omega);exact⟨hp.2.1.mono,hp.1.mono,bD (by omega),bD (by omega),bD (by omega),bD (by omega),bD (by omega),bD (by omega),bD (by omega),rfl⟩)
noncomputable def Qo:=Qs.adk aCu
def inR(s:S)(p:Pt):Bool:=decide (min s.a.x s.b.x*p.den<=p.x)&&decide (p.x<=max s.a.x s.b.x*p.den)&&decide (min s.a.y s.b.y*p.den<=p.y)&&decide (p.y<=max s.a.y s.b.y*p.den)
noncomputable def aD6:Con:=con (ac aS (a1 aT)) (λ(s,p)=>[bd 10000 s.a,bd 10000 s.b,PtB p]) (λ(s,p)=> .bool (onR s p))
def aCv:aD6.Okz 165:=ag Qo (λ(s,p)=>[jb 2 5 (inR s p)]
  ) (λ(_,_)=>⟨_,rfl⟩) λ(s,p) hp=>aY ((aE (Min.min s.a.x s.b.x*p.den)/\(Min.min s.a.x s.b.x*p.den<=p.x->aE (Max.max s.a.x s.b.x*p.den)/\(p.x<=Max.max s.a.x s.b.x*p.den->aE (Min.min s.a.y s.b.y*p.den)/\(Min.min s.a.y s.b.y*p.den<=p.y->aE (Max.max s.a.y s.b.y*p.den)/\decide (p.y<=Max.max s.a.y s.b.y*p.den)=inR s p)/\
    (¬Min.min s.a.y s.b.y*p.den<=p.y->false=inR s p))/\
   (¬p.x<=Max.max s.a.x s.b.x*p.den->false=inR s p))/\
  (¬Min.min s.a.x s.b.x*p.den<=p.x->false=inR s p))/\
 (∀y:Unit,(inR s p=true->bd 10000 s.a/\bd 10000 s.b/\PtB p/\decide (sgn (gQ s p)=0)=onR s p)/\
  (inR s p=false->false=onR s p))) (by kernel_rfl) (by
  change bd 10000 s.a/\bd 10000 s.b/\PtB p at hp;have h1:=hp.2.2.off (v:=⟨min s.a.x s.b.x,min s.a.y s.b.y⟩) (by unfold bd at*;grind);have h2:=hp.2.2.off (v:=⟨max s.a.x s.b.x,max s.a.y s.b.y⟩) (by unfold bd at*;grind);dsimp only at h1 h2;have e:onR s p=(inR s p&&sgn (gQ s p)==0):=rfl;unfold inR at*
  repeat' first|with_reducible apply bl|with_reducible intro
  all_goals repeat with_reducible cases‹_/\_›
  all_goals first|assumption|rfl|exact trivial|exact nb ‹_› |exact nb' ‹_› |omega|exact gH (by omega)|(unfold ix;omega)|(unfold aE;omega)|exact fz _|exact bz ‹_› ‹_› |(refine bz ‹_› ?_;simp_all;done)|grind)
noncomputable def Qp:=Qo.adk aCv
def ku(r:aH)(i k:Nat):Bool:=if k=i+1\/(i=0/\k=r.length-1)then bh (bP r i) (bP r k)==1 else bh (bP r i) (bP r k)==0
def zP(r:aH):eC r=true↔3<=r.length/\r.length<=40/\near r=true/\(∀i,i<r.length->turn (aEY r i) (aEY r ((i+1) % r.length)) (aEY r ((i+2) % r.length))≠0)/\(∀i k,i<k->k<r.length->ku r i k=true)/\0<area r:=by
 unfold eC;simp only[bw,decide_eq_true_eq,bk,cG,bne_iff_ne,jv];constructor
 .rintro⟨⟨⟨⟨⟨h1,h2⟩,h3⟩,h4⟩,h5⟩,h6⟩;refine⟨h1,h2,h3,h4,λi k hik hk=> ?_,h6⟩;rcases h5 i (by omega) k hk with h|h
  .omega
  .exact h
 .rintro⟨h1,h2,h3,h4,h5,h6⟩;refine⟨⟨⟨⟨⟨h1,h2⟩,h3⟩,h4⟩,λi hi k hk=> ?_⟩,h6⟩;by_cases h:k<=i
  .exact .inl h
  .exact .inr (h5 i k (by omega) hk)
def wK(r:aH)(h:2<=r.length):(aJ r).length=r.length:=by unfold aJ;grind
def wU{r:aH}{i:Nat}(h:2<=r.length)(hi:i<r.length):aK (aJ r) i=bP r i:=by rw[eZ (by rw[wK r h];exact hi)];simp only[aJ,if_neg (show¬r.length<2 by omega),List.getElem_map,List.getElem_range]
def cH(p:Pt)(l:List S):Bool:=l.foldl (λb s=>b !=jq s p) false
def WD{p:Pt}{l:List S}{k:Nat}(h:k<l.length):cH p (l.take (k+1))=(cH p (l.take k) !=jq (aK l k) p):=by unfold cH;rw[lJ,dp h,vz,eZ h];rfl
def Lf{p:Pt}:∀{l:List S} {k:Nat} (ins:Bool),k<l.length->(∀j,j<k->onR (aK l j) p=false)->onR (aK l k) p=true->mN p l ins=1
 |[],k,ins,h,_,_=>by simp at h
 |s::l,0,ins,h,_,h2=>by
  unfold mN;rw[show onR s p=true from h2];rfl
 |s::l,k+1,ins,h,h1,h2=>by
  unfold mN;rw[show onR s p=false from h1 0 (by omega)];exact Lf (l:=l) (k:=k) _ (by simpa using h) (λj hj=>h1 (j+1) (by omega)) h2
def KF{p:Pt}:∀{l:List S} (ins:Bool),(∀j,j<l.length->onR (aK l j) p=false)->mN p l ins=if l.foldl (λb s=>b !=jq s p) ins=true then 2 else 0
 |[],ins,_=>rfl
 |s::l,ins,h1=>by
  unfold mN;rw[show onR s p=false from h1 0 (by simp)];exact KF (l:=l) _ (λj hj=>h1 (j+1) (by grind))
def pr(r:aH)(p:Pt)(k:Nat):Bool:=cH p ((aJ r).take k)
def OJ{r:aH}(h:eC r=true){j:Nat}(hj:j<(aJ r).length):bd 2000 (aK (aJ r) j).a/\bd 2000 (aK (aJ r) j).b:=by obtain⟨h1,h2,h3,_⟩:=(zP r).1 h;rw[wK r (by omega)]at hj;rw[wU (by omega) hj];exact⟨lQ h3 hj,lQ h3 (bq _ (by omega))⟩
def nxR(r:aH)(i k:Nat):Bool:=decide (k=i+1\/(i=0/\k=r.length-1))
abbrev nE(r:aH)(i:Nat):S:=aK (aJ r) i
def upR(e:S)(p:Pt):Bool:=decide (e.a.y*p.den<=p.y)&&decide (p.y<e.b.y*p.den)
def dnR(e:S)(p:Pt):Bool:=decide (e.b.y*p.den<=p.y)&&decide (p.y<e.a.y*p.den)
def tp(r:aH)(i:Nat):Prop:=turn (aEY r i) (aEY r ((i+1) % r.length)) (aEY r ((i+2) % r.length))≠0
noncomputable def c91:Con:=con (a1 (aL .V)) (λr=>[r.length<=100000]) (λr=> .bool (eC r))
def k91:c91.Okz 91:=ag Qp (λr=>[jP 4 [3<=r.length,r.length<=40,near r=true],cnt 5 4 r.length (aM (tp r)),cnt 11 6 r.length (aM λi=>∀k,i<k->k<r.length->ku r i k=true) λi=>[(14,.mk Nat (λF _=>mP F 7) [] (λk=>[i<k,k<=r.length,∀j,i<j->j<k->ku r i j=true]) (λk=>[(7,.iqz (k:Int))]) bW (λk=>r.length-k) λk=>[jb 17 8 (nxR r i k),jb 19 97 (!ku r i k)])]]
  ) (λ_=>⟨_,rfl⟩) λr hp=>aY (aA (aJ r) λF=>aA (r.length:Int) λO=>((O<3->false=eC r)/\
  (¬O<3->(40<O->false=eC r)/\
   (¬40<O->r.length<=100000/\((!near r)=true->false=eC r)/\
    ((!near r)=false->(3:Nat)<=r.length/\r.length<=40/\near r=true))))/\
 (∀y:Unit,(3:Nat)<=r.length/\r.length<=40/\near r=true->(0=(0:Int)/\(0:Nat)<=r.length/\aM (tp r) 0)/\
  (∀x:Nat,aA (x+1) λA=>aA (x:Int) λC=>aA (aEY r x) λI=>aA (aEY r (A % r.length)) λK=>aA (aEY r ((x+2) % r.length)) λM=>x<=r.length/\aM (tp r) x->(C<r.length->ix C r.length/\aE (C+1)/\O≠0/\ix ((A % r.length:Nat):Int) r.length/\aE (C+2)/\O≠0/\ix (((x+2) % r.length:Nat):Int) r.length/\bd 1000000000 I/\bd 1000000000 K/\bd 1000000000 M/\(turn I K M=0->false=eC r)/\
    (¬turn I K M=0->aE (C+1)/\C+1=((x+1:Nat):Int)/\x+1<=r.length/\aM (tp r) A/\r.length-A<r.length-x))/\
   (¬C<r.length->r.length<=100000/\(0=(0:Int)/\(0:Nat)<=r.length/\aM (λi=>∀k:Nat,i<k->k<r.length->ku r i k=true) 0)/\
    (∀x_1:Nat,aA (x_1:Int) λD=>aA (aK F x_1) λG=>aA (x_1+1:Nat) λN=>x_1<=r.length/\aM (λi=>∀k:Nat,i<k->k<r.length->ku r i k=true) x_1->(D<r.length->aE (D+1)/\(D+1=(N:Int)/\x_1<x_1+1/\x_1+1<=r.length/\(∀j:Nat,x_1<j->j<x_1+1->ku r x_1 j=true))/\
      (∀x_2:Nat,aA (x_2:Int) λE=>aA (aK F x_2) λH=>aA (!nxR r x_1 x_2) λP=>aA (!ku r x_1 x_2) λQ=>x_1<x_2/\x_2<=r.length/\(∀j:Nat,x_1<j->j<x_2->ku r x_1 j=true)->(E<r.length->(aE (D+1)/\(E=x_1+1->true=nxR r x_1 x_2)/\
         (¬E=x_1+1->(D=0->aE (O-1)/\decide (E=r.length-1)=nxR r x_1 x_2)/\
          (¬D=0->false=nxR r x_1 x_2)))/\
        (∀y_1:Unit,ix D F.length/\ix E F.length/\((nxR r x_1 x_2=true->(¬bh G H=1->true=Q)/\
           (¬(¬bh G H=1)->(P=true->decide (¬bh G H=0)=Q)/\
            (P=false->false=Q)))/\
          (nxR r x_1 x_2=false->(P=true->decide (¬bh G H=0)=Q)/\
           (P=false->false=Q)))/\
         (∀y_2:Unit,(Q=true->false=eC r)/\
          (Q=false->aE (E+1)/\E+1=((x_2+1:Nat):Int)/\x_1<x_2+1/\x_2+1<=r.length/\(∀j:Nat,x_1<j->j<x_2+1->ku r x_1 j=true)/\r.length-(x_2+1)<r.length-x_2))))/\
       (¬E<r.length->aE (D+1)/\D+1=(N:Int)/\x_1+1<=r.length/\aM (λi=>∀k:Nat,i<k->k<r.length->ku r i k=true) (x_1+1)/\r.length-(x_1+1)<r.length-x_1)))/\
     (¬D<r.length->near r=true/\r.length<=100000/\decide (0<area r)=eC r)))))) (by kernel_rfl) (by
  change r.length<=100000 at hp;have iff:=zP r;have hf:(eC r=true->False)->false=eC r:=λh=>by grind
  have el:3<=r.length->(aJ r).length=r.length:=λh=>wK r (by omega);have en:near r=true->∀i,i<r.length->bd 1000000000 (aEY r i):=λh i hi=>lQ h hi;have hp':3<=r.length->∀i k,i<k->k<r.length->ku r i k=if nxR r i k=true then bh (aK (aJ r) i) (aK (aJ r) k)==1 else bh (aK (aJ r) i) (aK (aJ r) k)==0:=λh i k h1 h2=>by unfold ku nxR;rw[wU (by omega) (by omega),wU (by omega) (by omega)];grind
  have hE:3<=r.length->r.length<=40->near r=true->∀x y:Nat,¬(x:Int)<r.length->¬(y:Int)<r.length->aM (tp r) x->aM (λi=>∀k:Nat,i<k->k<r.length->ku r i k=true) y->decide (0<area r)=eC r:=λh1 h2 h3 x y hx hy h4 h5=>by rw[fm,iff,decide_eq_true_eq];exact⟨λh=>⟨h1,h2,h3,λi hi=>h4 i (by omega),λi k hi hk=>h5 i (by omega) k hi hk,h⟩,λh=>h.2.2.2.2.2⟩
  repeat' first|with_reducible apply bl|with_reducible intro
  all_goals repeat with_reducible cases‹_/\_›
  all_goals first|assumption|rfl|exact trivial|exact nb ‹_› |exact nb' ‹_› |omega|exact gH (by omega)|(unfold ix;omega)|(unfold aE;omega)|exact fz _|exact bz ‹_› ‹_› |(refine bz ‹_› ?_;simp_all;done)|exact en ‹_› _ (by omega)|exact en ‹_› _ (bq _ (by omega))|(rw[el ‹_›];exact dQ (by omega))|exact hE ‹_› ‹_› ‹_› _ _ ‹_› ‹_› ‹_› ‹_› |(refine hf λh=> ?_;have h:=iff.1 h;first|omega|(exact h.2.2.2.1 _ (by omega) ‹_=0›)|(have h2:=h.2.2.2.2.1 _ _ ‹_› (by omega);simp_all;done)|(simp_all;done))|(refine bz ‹_› ?_;grind)|(unfold nxR;exact(decide_eq_true (by omega)).symm)|(unfold nxR;exact(decide_eq_false (by omega)).symm)|(unfold nxR;exact decide_eq_decide.2 (by omega))|(rw[hp' ‹_› _ _ ‹_› (by omega),‹nxR _ _ _=_›];grind)|(intro j h1 h2;omega)|grind)
noncomputable def t91:=Qp.adk k91
noncomputable def aET:Con:=con (ac (aL .V) (a1 aT)) (λ(r,_)=>[r.length<=100000]) (λ(r,p)=> .iqz (dc r p))
def aDi:aET.Okz 103:=ag t91 (λ(r,p)=>[jP 3 [eC r=true,dK p=true],lp 6 7 (aJ r).length (λk=>[aM (λj=>onR (nE r j) p=false) k]) [] (λk=>[(6,.bool (pr r p k))]) bW λk=>[(10012,.mk Unit (λ_ _=>some ()) [] bW (λ_=>[(10,.bool (upR (nE r k) p)),(11,.bool (dnR (nE r k) p))]) bW (λ_=>0) λ_=>[]),jb 13 97 (jq (nE r k) p)]]
  ) (λ(_,_)=>⟨_,rfl⟩) λ(r,p) hp=>aY (aA (aJ r) λD=>aA (!eC r) λH=>aA (!dK p) λI=>(r.length<=100000/\(H=true->0=dc r p)/\
  (H=false->(I=true->0=dc r p)/\
   (I=false->eC r=true/\dK p=true)))/\
 (∀y:Unit,eC r=true/\dK p=true->r.length<=100000/\(0=(0:Int)/\false=pr r p 0/\(0:Nat)<=D.length/\aM (λj=>onR (nE r j) p=false) 0)/\
  (∀x:Nat,aA (x+1) λA=>aA (nE r x) λB=>aA (x:Int) λC=>aA (gQ B p) λE=>aA (B.a.y*p.den) λF=>aA (B.b.y*p.den) λG=>aA ((x+1:Nat):Int) λJ=>x<=D.length/\aM (λj=>onR (nE r j) p=false) x->(C<D.length->ix C D.length/\bd 10000 B.a/\bd 10000 B.b/\PtB p/\(onR B p=true->1=dc r p)/\
    (onR B p=false->ix C D.length/\ix C D.length/\(aE F/\(B.a.y*p.den<=p.y->aE G/\aE G/\(B.b.y*p.den<=p.y->aE F/\decide (p.y<B.b.y*p.den)=upR B p/\decide (p.y<B.a.y*p.den)=dnR B p)/\
       (¬B.b.y*p.den<=p.y->decide (p.y<B.b.y*p.den)=upR B p/\false=dnR B p))/\
      (¬B.a.y*p.den<=p.y->aE G/\(B.b.y*p.den<=p.y->aE F/\false=upR B p/\decide (p.y<B.a.y*p.den)=dnR B p)/\
       (¬B.b.y*p.den<=p.y->false=upR B p/\false=dnR B p)))/\
     (∀y_1:Unit,((upR B p=true->bd 10000 B.a/\bd 10000 B.b/\PtB p/\(0<sgn E->true=jq B p)/\
        (¬0<sgn E->(dnR B p=true->bd 10000 B.a/\bd 10000 B.b/\PtB p/\decide (sgn E<0)=jq B p)/\
         (dnR B p=false->false=jq B p)))/\
       (upR B p=false->(dnR B p=true->bd 10000 B.a/\bd 10000 B.b/\PtB p/\decide (sgn E<0)=jq B p)/\
        (dnR B p=false->false=jq B p)))/\
      (∀y_2:Unit,(jq B p=true->aE (C+1)/\C+1=J/\(!pr r p x)=pr r p A/\x+1<=D.length/\aM (λj=>onR (nE r j) p=false) A/\D.length-A<D.length-x)/\
       (jq B p=false->aE (C+1)/\C+1=J/\pr r p x=pr r p A/\x+1<=D.length/\aM (λj=>onR (nE r j) p=false) A/\D.length-A<D.length-x)))))/\
   (¬C<D.length->(pr r p x=true->2=dc r p)/\
    (pr r p x=false->0=dc r p))))) (by kernel_rfl) (by
  change r.length<=100000 at hp;have e0:pr r p 0=false:=rfl;have es:∀k,k<(aJ r).length->pr r p (k+1)=(pr r p k !=jq (nE r k) p):=λk h=>WD h;have eh:∀e,jq e p=(upR e p&&decide (0<sgn (gQ e p))||dnR e p&&decide (sgn (gQ e p)<0)):=λe=>rfl;have hw0:eC r=false\/dK p=false->0=dc r p:=λh=>by unfold dc;grind
  have hw:eC r=true->dK p=true->dc r p=mN p (aJ r) false:=λh1 h2=>by unfold dc;simp[h1,h2]
  have eb:eC r=true->∀j,j<(aJ r).length->bd 2000 (nE r j).a/\bd 2000 (nE r j).b:=λh j hj=>OJ h hj;have el:(aJ r).length<=100000:=by unfold aJ;split<;>simp<;>omega
  have ey:eC r=true->dK p=true->∀j,j<(aJ r).length->aE ((nE r j).a.y*p.den)/\aE ((nE r j).b.y*p.den):=λh1 h2 j hj=>⟨bD (by have:=(PtB.of h2).off (eb h1 j hj).1.mono;omega),bD (by have:=(PtB.of h2).off (eb h1 j hj).2.mono;omega)⟩;have s1:∀j,j<(aJ r).length->aM (λj=>onR (nE r j) p=false) j->onR (nE r j) p=true->mN p (aJ r) false=1:=λj h1 h2 h3=>Lf false h1 h2 h3;have s2:∀k:Nat,¬(k:Int)<(aJ r).length->k<=(aJ r).length->aM (λj=>onR (nE r j) p=false) k->mN p (aJ r) false=if pr r p k=true then 2 else 0:=λk h1 h2 h=>by
   obtain rfl:k=(aJ r).length:=by omega
   rw[KF false h];unfold pr cH;grind
  repeat' first|with_reducible apply bl|with_reducible intro
  all_goals repeat with_reducible cases‹_/\_›
  all_goals first|assumption|rfl|exact trivial|exact nb ‹_› |exact nb' ‹_› |omega|exact gH (by omega)|(unfold ix;omega)|(unfold aE;omega)|exact fz _|exact bz ‹_› ‹_› |(refine bz ‹_› ?_;simp_all;done)|exact(eb ‹_› _ (by omega)).1.mono|exact(eb ‹_› _ (by omega)).2.mono|exact(ey ‹_› ‹_› _ (by omega)).1|exact(ey ‹_› ‹_› _ (by omega)).2|exact PtB.of ‹_› |exact hw0 (.inl (nb' ‹_›))|exact hw0 (.inr (nb' ‹_›))|(rw[hw ‹_› ‹_›,s1 _ (by omega) ‹_› ‹_›])|(rw[hw ‹_› ‹_›,s2 _ ‹_› ‹_› ‹_›,‹pr _ _ _=_›];rfl)|(rw[es _ (by omega),‹jq _ _=_›];simp;done)|(rw[eh,‹upR _ _=_›,‹dnR _ _=_›];grind)|(rw[eh,‹upR _ _=_›];simp_all;done)|(unfold upR;simp_all;done)|(unfold dnR;simp_all;done)|grind)
noncomputable def Ri:=t91.adk aDi
noncomputable def c36:Con:=con (ac (aL .V) (a1 aV)) (λ(r,_)=>[r.length<=100000]) (λ(r,v)=> .iqz (kk r v)
 )
def k36:c36.Okz 36:=ag Ri (λ(_,_)=>[]) (λ(_,_)=>⟨_,rfl⟩) λ(r,v) hp=>aY (aA (!bL v 8000) λA=>(0:Int)<=8000/\(8000:Int)<=1000000000000/\(A=true->0=kk r v)/\
 (A=false->r.length<=100000/\dc r (eJ v)=kk r v)) (by kernel_rfl) (by change r.length<=100000 at hp;unfold kk;grind)
noncomputable def t36:=Ri.adk k36
noncomputable def c97:Con:=con (a1 aT) (λp=>[dK p=true,p.den=1]) (λp=> .tup [.agg [.iqz p.x,.iqz p.y],.bool true]
 )
def k97:c97.Okz 97:=ag t36 bW (λ_=>⟨_,rfl⟩) λp hp=>aY (aA (!dK p) λA=>(A=true->0=p.x/\0=p.y/\false=true)/\
 (A=false->(¬p.den=1->0=p.x/\0=p.y/\false=true)/\
  (¬(¬p.den=1)->p.x=p.x/\p.y=p.y/\true=true))) (by kernel_rfl) (by
  change dK p=true/\p.den=1 at hp;grind)
noncomputable def t97:=t36.adk k97
noncomputable def c96:Con:=con (ac aS (a1 aS)) (λ(s,t)=>[bh s t=1]) (λ(s,t)=> .tup [aT.enc (eJ (aEY (dw s t) 0)),.bool true]
 )
def k96:c96.Okz 96:=ag t97 (λ(_,_)=>[]) (λ(_,_)=>⟨_,rfl⟩) λ(s,t) hp=>aY ((bh s t=1->ix 0 (dw s t).length/\(eJ (aEY (dw s t) 0)).x=(eJ (aEY (dw s t) 0)).x/\(eJ (aEY (dw s t) 0)).y=(eJ (aEY (dw s t) 0)).y/\(eJ (aEY (dw s t) 0)).den=(eJ (aEY (dw s t) 0)).den/\true=true)/\
 (¬bh s t=1->(bh s t=2->bd 1000000000 s.b/\bd 1000000000 s.a/\bd 1000000000 t.b/\bd 1000000000 t.a/\bd 2000000000 (aE1 s.b s.a)/\bd 2000000000 (aE1 t.b t.a)/\bd 1000000000 t.a/\bd 1000000000 s.a/\bd 2000000000 (aE1 t.a s.a)/\bd 2000000000 (aE1 t.b t.a)/\aE (s.a.x*cross (aE1 s.b s.a) (aE1 t.b t.a))/\aE ((aE1 s.b s.a).x*cross (aE1 t.a s.a) (aE1 t.b t.a))/\aE (s.a.x*cross (aE1 s.b s.a) (aE1 t.b t.a)+(aE1 s.b s.a).x*cross (aE1 t.a s.a) (aE1 t.b t.a))/\aE (s.a.y*cross (aE1 s.b s.a) (aE1 t.b t.a))/\aE ((aE1 s.b s.a).y*cross (aE1 t.a s.a) (aE1 t.b t.a))/\aE (s.a.y*cross (aE1 s.b s.a) (aE1 t.b t.a)+(aE1 s.b s.a).y*cross (aE1 t.a s.a) (aE1 t.b t.a))/\False)/\
  (¬bh s t=2->0=(eJ (aEY (dw s t) 0)).x/\0=(eJ (aEY (dw s t) 0)).y/\0=(eJ (aEY (dw s t) 0)).den/\false=true))) (by kernel_rfl) (by
  change bh s t=1 at hp;have hl:(dw s t).length=1:=by unfold bh at hp;grind
  with_reducible ((repeat' first|apply bl|intro);all_goals repeat cases‹_/\_›)
  all_goals grind)
noncomputable def t96:=t97.adk k96
def sC(r:aH):∀k,dC r k<=k
 |0=>bI _
 |k+1=>by unfold dC;have:=sC r k;grind
def Db{r:aH}{k:Nat}(h:0<k):dC r k<k:=Geo.Db r k h
def Zl(r:aH)(k:Nat):dC r (k+1)=if bf (aEY r k) (aEY r (dC r k))=true then k else dC r k:=rfl
noncomputable def aEm:Con:=con (a1 (aL .V)) (λr=>[r.length<=100000]) (λr=> .lst .V (bo r))
def aCK:aEm.Okz 146:=ag t96 (λr=>[lp 3 4 r.length bW [] (λk=>[(3,.iqz (dC r k))]) bW]
  ) (λ_=>⟨_,rfl⟩) λr hp=>aY (aA ([] :List V) λD=>(0=(0:Int)/\0=(dC r 0:Int)/\(0:Nat)<=r.length)/\
 (∀x:Nat,aA (x+1) λA=>aA (x:Int) λB=>aA (dC r x) λC=>aA (D++cY C r) λE=>aA ((x+1:Nat):Int) λF=>aA (dC r x:Int) λG=>aA (D++cY C r++aP C r) λH=>x<=r.length->(B<r.length->ix B r.length/\ix G r.length/\(bf (aEY r x) (aEY r C)=true->aE (B+1)/\B+1=F/\B=dC r A/\x+1<=r.length/\r.length-A<r.length-x)/\
   (bf (aEY r x) (aEY r C)=false->aE (B+1)/\B+1=F/\G=dC r A/\x+1<=r.length/\r.length-A<r.length-x))/\
  (¬B<r.length->(0<=G/\G<=r.length)/\D.length+(cY C r).length<=1000000/\(0<=G/\G<=r.length)/\E.length=E.length/\E.length+(aP C r).length<=1000000/\H.length=H.length/\D++cY C r++aP C r=bo r))) (by kernel_rfl) (by
  change r.length<=100000 at hp;have e0:dC r 0=0:=rfl;have es:=Zl r;have el:=sC r;have eb:([] :List V)++cY (dC r r.length) r++aP (dC r r.length) r=bo r:=rfl
  with_reducible ((repeat' first|apply bl|intro);all_goals repeat cases‹_/\_›)
  all_goals grind)
noncomputable def Q7:=t96.adk aCK
def ZI{a b:aH}{k:Nat}(h:¬aEY a k=aEY b k):false=(a==b):=by grind
def Xj{a b:aH}(hl:(a.length:Int)=b.length){k:Nat}(hk:¬(k:Int)<a.length)(h:aM (λj=>aEY a j=aEY b j) k):true=(a==b):=by symm;rw[beq_iff_eq];refine rT (by omega) λj h1 h2=> ?_;rw[<-nth_eq h1,<-nth_eq h2];exact h j (by omega)
noncomputable def c23:Con:=con (ac (aL .V) (a1 (aL .V))) (λ(a,_)=>[a.length<=1000000]) (λ(a,b)=> .bool (a==b))
def k23:c23.Okz 23:=ag Q7 (λ(a,b)=>[cnt 4 5 a.length (aM λj=>aEY a j=aEY b j)]
  ) (λ(_,_)=>⟨_,rfl⟩) λ(a,b) hp=>aY (aA (a==b) λA=>aA (a.length:Int) λC=>(¬C=b.length->false=A)/\
 (¬(¬C=b.length)->(0=(0:Int)/\(0:Nat)<=a.length/\aM (λj=>aEY a j=aEY b j) 0)/\
  (∀x:Nat,aA (x:Int) λB=>x<=a.length/\aM (λj=>aEY a j=aEY b j) x->(B<a.length->ix B a.length/\ix B b.length/\(¬(aEY a x)=(aEY b x)->false=A)/\
    (¬(¬(aEY a x)=(aEY b x))->aE (B+1)/\B+1=((x+1:Nat):Int)/\x+1<=a.length/\aM (λj=>aEY a j=aEY b j) (x+1)/\a.length-(x+1)<a.length-x))/\
   (¬B<a.length->true=A)))) (by kernel_rfl) (by
  change a.length<=1000000 at hp
  with_reducible ((repeat' first|apply bl|intro);all_goals repeat cases‹_/\_›)
  all_goals first|rfl|exact ZI ‹¬aEY a _=_› |exact Xj (by omega) ‹_› ‹_› |grind)
noncomputable def t23:=Q7.adk k23
noncomputable def c76:Con:=con (ac (aL .V) (a1 (aL .V))) (λ(a,_)=>[a.length<=1000000]) (λ(a,b)=> .bool (a==b)
 )
def k76:c76.Okz 76:=ag t23 (λ(_,_)=>[]) (λ(_,_)=>⟨_,rfl⟩) λ(a,b) hp=>aY (a.length<=1000000/\(a==b)=(a==b)) (by kernel_rfl) (by change a.length<=1000000 at hp;grind)
noncomputable def t76:=t23.adk k76
def Fit(s:Shape):Prop:=s.outer.length<=1000/\s.holes.length<=900/\∀r∈s.holes,r.length<=1000
def Fit.rings{s:Shape}(hf:Fit s):∀r∈aD s,r.length<=1000:=by
 intro r hr;unfold aD at hr;rcases bT.1 hr with rfl|hr
 .exact hf.1
 .exact hf.2.2 r hr
def Fit.ring{s:Shape}(hf:Fit s){k:Nat}(hk:k<(aD s).length):(aC (aD s) k).length<=1000:=hf.rings _ (gD hk)
def Fit.hole{s:Shape}(hf:Fit s){k:Nat}(hk:k<s.holes.length):(aC s.holes k).length<=1000:=hf.2.2 _ (gD hk)
def Fit.rlen{s:Shape}(hf:Fit s):(aD s).length<=901:=by have:=hf.2.1;simp[aD];omega
def eS(s:Shape)(k:Nat):List S:=((aD s).take k).flatMap aJ
def OL{s:Shape}{k:Nat}(h:k<(aD s).length):eS s k++aJ (aC (aD s) k)=eS s (k+1):=by unfold eS;rw[lJ,dp h,List.flatMap_append,je h];simp
def sP(r:aH):(aJ r).length<=r.length:=by unfold aJ;grind
def Gh{s:Shape}(hf:Fit s):∀k,k<=(aD s).length->(eS s k).length<=1000*k
 |0,_=>by simp[eS]
 |k+1,h=>by
  rw[<-OL (by omega),eW];have:=Gh hf k (by omega);have:=sP (aC (aD s) k);have:=hf.ring (k:=k) (by omega);omega
def aAZ(s:Shape):eS s (aD s).length=aa s:=by unfold eS;rw[ke];rfl
noncomputable def aEV:Con:=con (a1 aSh) (λs=>[Fit s]) (λs=> .lst .R (aD s)
 )
def aDk:aEV.Okz 101:=ag t76 bW (λ_=>⟨_,rfl⟩) λs hp=>aY (aA ([s.outer] ++s.holes) λA=>[s.outer].length+s.holes.length<=1000000/\A.length=A.length/\[s.outer] ++s.holes=aD s) (by kernel_rfl) (by change Fit s at hp;have h:=hp.2.1;exact⟨by simp;omega,rfl,rfl⟩)
noncomputable def Rk:=t76.adk aDk
noncomputable def c33:Con:=con (a1 aSh) (λs=>[Fit s]) (λs=> .lst .S (aa s))
def k33:c33.Okz 33:=ag Rk (λs=>[lp 4 5 (aD s).length bW [900] (λk=>[(3,.own 900 .S (eS s k).length)]) (λk=>[(900,.row 46 .S (eS s k))])]
  ) (λ_=>⟨_,rfl⟩) λs hp=>aY (aA (aD s) λC=>Fit s/\(0=(0:Int)/\(eS s 0).length=0/\eS s 0=([] :List S)/\(0:Nat)<=C.length)/\
 (∀x:Nat,aA (eS s x) λA=>aA (x:Int) λB=>aA (aC C x) λD=>x<=C.length->(B<C.length->ix B C.length/\D.length<=100000/\A.length=A.length/\A.length+(aJ D).length<=1000000/\aE (B+1)/\B+1=((x+1:Nat):Int)/\(eS s x++aJ D).length=(eS s (x+1)).length/\eS s x++aJ D=eS s (x+1)/\x+1<=C.length/\C.length-(x+1)<C.length-x)/\
  (¬B<C.length->A.length=A.length/\eS s x=aa s))) (by kernel_rfl) (by
  change Fit s at hp;have e0:eS s 0=[] :=rfl;have ea:=aAZ s;have er:=hp.rlen;have es:= @OL s;have eb:∀k,k<(aD s).length->(eS s k).length+(aJ (aC (aD s) k)).length<=1000000:=λk h=>by have:=Gh hp (k+1) (by omega);grind
  have ek:= @Fit.ring s hp
  with_reducible ((repeat' first|apply bl|intro);all_goals repeat cases‹_/\_›)
  all_goals grind)
noncomputable def t33:=Rk.adk k33
def im(a b:aH)(al:Bool):Bool:=if al=true then pQ a b else lL a b
def U5{a b:aH}{al:Bool}{j:Nat}(hj:j<a.length)(h:(kk b (aEY a j)==2)≠al):im a b al= !al:=by
 unfold im pQ lL;cases al with
 |true=>rw[if_pos rfl];exact v6.2 ⟨_,dh hj,by simpa using h⟩
 |false=>rw[if_neg (by simp)];exact l0.2 ⟨_,dh hj,by simpa using h⟩
def T7{a b:aH}{al:Bool}(h:∀j,j<a.length->(kk b (aEY a j)==2)=al):im a b al=al:=by
 unfold im pQ lL;cases al with
 |true=>
  rw[if_pos rfl];refine bk.2 λx hx=> ?_;obtain⟨j,hj,rfl⟩:=jX hx;rw[<-nth_eq hj];exact h j hj
 |false=>
  rw[if_neg (by simp)];refine IV.2 λx hx=> ?_;obtain⟨j,hj,rfl⟩:=jX hx;rw[<-nth_eq hj,h j hj];simp
def jk(s:Shape)(i:Nat):Bool:=eC (aC s.holes i)&& !iT (aC s.holes i) s.outer&&pQ (aC s.holes i) s.outer
def jB(s:Shape)(i k:Nat):Bool:= !iT (aC s.holes i) (aC s.holes k)&& !lL (aC s.holes i) (aC s.holes k)&& !lL (aC s.holes k) (aC s.holes i)
def jl(s:Shape)(k:Nat):Nat:=s.outer.length+((s.holes.take k).map dA).sum
def DR(s:Shape):jl s 0=s.outer.length:=by simp[jl]
def DT{s:Shape}{k:Nat}(h:k<s.holes.length):jl s (k+1)=jl s k+(aC s.holes k).length:=by unfold jl;rw[lJ,dp h,dM,rV,je h,<-rS];rfl
def J0(s:Shape):jl s s.holes.length=gF s:=by unfold jl gF aD;grind
def Wr{s:Shape}(hf:Fit s)(k:Nat)(hk:k<=s.holes.length):jl s k<=1000*(k+1):=by
 induction k with
 |zero=>have:=hf.1;rw[DR];omega
 |succ k ih=>
  rw[DT (by omega)];have h1:=ih (by omega);have h2:=hf.2.2 _ (gD (show k<s.holes.length by omega));omega
def wL(s:Shape):aj s=true↔s.holes.length<=6/\eC s.outer=true/\(∀i,i<s.holes.length->jk s i=true/\∀k,k<i->jB s i k=true)/\gF s<=80:=by unfold aj;simp only[bw,decide_eq_true_eq,bk,cG];unfold jk jB;grind
def YB{a b:aH}{i j:Nat}(h:¬bh (aK (aJ a) i) (aK (aJ b) j)=0)(hi:i<(aJ a).length)(hj:j<(aJ b).length):true=iT a b:=by unfold iT;symm;exact l0.2 ⟨_,Ev hi,l0.2 ⟨_,Ev hj,by simpa using h⟩⟩
def CH(a b:aH)(i:Nat):Prop:=∀j,j<(aJ b).length->bh (aK (aJ a) i) (aK (aJ b) j)=0
def YA{a b:aH}{k:Nat}(hk:¬(k:Int)<(aJ a).length)(h:aM (CH a b) k):false=iT a b:=by unfold iT;symm;refine IV.2 λx hx=> ?_;obtain⟨i,hi,rfl⟩:=jX hx;rw[<-eZ hi,Bool.not_eq_true];refine IV.2 λy hy=> ?_;obtain⟨j,hj,rfl⟩:=jX hy;rw[<-eZ hj,h i (by omega) j hj];decide
def Za{a b:aH}{i k:Nat}(hk:¬(k:Int)<(aJ b).length)(h:aM (λj=>bh (aK (aJ a) i) (aK (aJ b) j)=0) k):CH a b i:=λj hj=>h j (by omega)
noncomputable def aEB:Con:=con (ac (aL .V) (a1 (aL .V))) (λ(a,b)=>[a.length<=100000,b.length<=100000]) (λ(a,b)=> .bool (iT a b))
def aCZ:aEB.Okz 128:=ag t33 (λ(a,b)=>[cnt 3 7 (aJ a).length (aM (CH a b)) λi=>[cnt 6 8 (aJ b).length (aM λj=>bh (aK (aJ a) i) (aK (aJ b) j)=0)]]
  ) (λ(_,_)=>⟨_,rfl⟩) λ(a,b) hp=>aY (aA (CH a b) λB=>aA (aJ a) λD=>aA (aJ b) λF=>a.length<=100000/\b.length<=100000/\(0=(0:Int)/\(0:Nat)<=D.length/\aM B 0)/\
 (∀x:Nat,aA (x:Int) λA=>aA (aK D x) λE=>x<=D.length/\aM B x->(A<D.length->(0=(0:Int)/\(0:Nat)<=F.length/\aM (λj=>bh E (aK F j)=0) 0)/\
   (∀x_1:Nat,aA (x_1:Int) λC=>x_1<=F.length/\aM (λj=>bh E (aK F j)=0) x_1->(C<F.length->ix A D.length/\ix C F.length/\(¬bh E (aK F x_1)=0->true=iT a b)/\
     (¬(¬bh E (aK F x_1)=0)->aE (C+1)/\C+1=((x_1+1:Nat):Int)/\x_1+1<=F.length/\aM (λj=>bh E (aK F j)=0) (x_1+1)/\F.length-(x_1+1)<F.length-x_1))/\
    (¬C<F.length->aE (A+1)/\A+1=((x+1:Nat):Int)/\x+1<=D.length/\aM B (x+1)/\D.length-(x+1)<D.length-x)))/\
  (¬A<D.length->false=iT a b))) (by kernel_rfl) (by
  change a.length<=100000/\b.length<=100000 at hp;have ha:=sP a;have hb:=sP b
  repeat' first|with_reducible apply bl|with_reducible intro
  all_goals repeat with_reducible cases‹_/\_›
  all_goals first|assumption|rfl|exact trivial|exact nb ‹_› |exact nb' ‹_› |omega|exact gH (by omega)|(unfold ix;omega)|(unfold aE;omega)|exact fz _|exact bz ‹_› ‹_› |(refine bz ‹_› ?_;simp_all;done)|exact YB ‹¬bh _ _=0› (by omega) (by omega)|exact YA ‹_› ‹_› |exact bz ‹_› (Za ‹_› ‹_›)|(refine bz ‹_› ?_;exact rb ‹¬¬_›)|grind)
noncomputable def RM:=t33.adk aCZ
def inQ(a b:aH)(al:Bool)(j:Nat):Prop:=(kk b (aEY a j)==2)=al
noncomputable def aEA:Con:=con (ac (aL .V) (ac (aL .V) (a1 aB))) (λ(a,b,_)=>[a.length<=100000,b.length<=100000]) (λ(a,b,al)=> .bool (im a b al))
def aCY:aEA.Okz 129:=ag RM (λ(a,b,al)=>[cnt 2 7 a.length (aM (inQ a b al))]
  ) (λ(_,_,_)=>⟨_,rfl⟩) λ(a,b,al) hp=>aY (aA (inQ a b al) λB=>(0=(0:Int)/\(0:Nat)<=a.length/\aM B 0)/\
 (∀x:Nat,aA (x:Int) λA=>aA (decide (kk b (aEY a x)=2) !=al) λC=>x<=a.length/\aM B x->(A<a.length->ix A a.length/\b.length<=100000/\(C=true->(!al)=im a b al)/\
   (C=false->aE (A+1)/\A+1=((x+1:Nat):Int)/\x+1<=a.length/\aM B (x+1)/\a.length-(x+1)<a.length-x))/\
  (¬A<a.length->al=im a b al))) (by kernel_rfl) (by
  change a.length<=100000/\b.length<=100000 at hp;have c1:∀j:Nat,(decide (kk b (aEY a j)=2) !=al)=true->j<a.length->(!al)=im a b al:=λj h hj=>(U5 hj (bne_iff_ne.1 h)).symm;have c2:∀j:Nat,(decide (kk b (aEY a j)=2) !=al)=false->inQ a b al j:=λj h=>bne_eq_false_iff_eq.1 h;have e2:∀k:Nat,¬(k:Int)<a.length->aM (inQ a b al) k->im a b al=al:=λk h1 h2=>T7 λj hj=>h2 j (by omega)
  repeat' first|with_reducible apply bl|with_reducible intro
  all_goals repeat with_reducible cases‹_/\_›
  all_goals first|assumption|rfl|exact trivial|exact nb ‹_› |exact nb' ‹_› |omega|exact gH (by omega)|(unfold ix;omega)|(unfold aE;omega)|exact fz _|exact bz ‹_› ‹_› |(refine bz ‹_› ?_;simp_all;done)|exact(e2 _ ‹_› ‹_›).symm|grind|exact bz ‹_› (c2 _ ‹_›)|grind)
noncomputable def RL:=RM.adk aCY
noncomputable def c58:Con:=con (a1 aSh) (λs=>[Fit s]) (λs=> .bool (aj s))
def k58:c58.Okz 58:=ag RL (λs=>[jP 3 [s.holes.length<=6,eC s.outer=true],lp 5 4 s.holes.length (λk=>[aM (λi=>jk s i=true/\∀k,k<i->jB s i k=true) k]) [] (λk=>[(3,.iqz (jl s k:Int))]) bW λi=>[jP 11 [jk s i=true],cnt 12 6 i (aM λk=>jB s i k=true)]]
  ) (λ_=>⟨_,rfl⟩) λs hp=>aY (aA (!eC s.outer) λF=>aA (s.holes.length:Int) λH=>((6<H->false=aj s)/\
  (¬6<H->s.outer.length<=100000/\(F=true->false=aj s)/\
   (F=false->s.holes.length<=6/\eC s.outer=true)))/\
 (∀y:Unit,s.holes.length<=6/\eC s.outer=true->(0=(0:Int)/\(s.outer.length:Int)=jl s 0/\(0:Nat)<=s.holes.length/\aM (λi=>jk s i=true/\(∀k:Nat,k<i->jB s i k=true)) 0)/\
  (∀x:Nat,aA (x:Int) λA=>aA (jl s x:Int) λC=>aA (aC s.holes x) λD=>aA (!eC D) λE=>aA (!im D s.outer true) λI=>x<=s.holes.length/\aM (λi=>jk s i=true/\(∀k:Nat,k<i->jB s i k=true)) x->(A<s.holes.length->ix A s.holes.length/\aE (C+D.length)/\(D.length<=100000/\(E=true->false=aj s)/\
     (E=false->D.length<=100000/\s.outer.length<=100000/\(iT D s.outer=true->false=aj s)/\
      (iT D s.outer=false->D.length<=100000/\s.outer.length<=100000/\(I=true->false=aj s)/\
       (I=false->jk s x=true))))/\
    (∀y_1:Unit,jk s x=true->(0=(0:Int)/\(0:Nat)<=x/\aM (λk=>jB s x k=true) 0)/\
     (∀x_1:Nat,aA (x_1:Int) λB=>aA (aC s.holes x_1) λG=>x_1<=x/\aM (λk=>jB s x k=true) x_1->(B<x->ix B s.holes.length/\D.length<=100000/\G.length<=100000/\(iT D G=true->false=aj s)/\
       (iT D G=false->ix B s.holes.length/\D.length<=100000/\G.length<=100000/\(im D G false=true->false=aj s)/\
        (im D G false=false->ix B s.holes.length/\G.length<=100000/\D.length<=100000/\(im G D false=true->false=aj s)/\
         (im G D false=false->aE (B+1)/\B+1=((x_1+1:Nat):Int)/\x_1+1<=x/\aM (λk=>jB s x k=true) (x_1+1)/\x-(x_1+1)<x-x_1))))/\
      (¬B<x->aE (A+1)/\A+1=((x+1:Nat):Int)/\C+D.length=jl s (x+1)/\x+1<=s.holes.length/\aM (λi=>jk s i=true/\(∀k:Nat,k<i->jB s i k=true)) (x+1)/\s.holes.length-(x+1)<s.holes.length-x))))/\
   (¬A<s.holes.length->decide (C<=80)=aj s)))) (by kernel_rfl) (by
  change Fit s at hp;have hf:(aj s=true->False)->false=aj s:=λh=>by grind
  have n1:∀i,jk s i=false->i<s.holes.length->false=aj s:=λi h hi=>hf λhv=>by rw[(((wL s).1 hv).2.2.1 i hi).1]at h;cases h
  have n2:∀i k,jB s i k=false->k<i->i<s.holes.length->false=aj s:=λi k h hk hi=>hf λhv=>by rw[(((wL s).1 hv).2.2.1 i hi).2 k hk]at h;cases h
  have a1:∀i,(!eC (aC s.holes i))=true->i<s.holes.length->false=aj s:=λi h=>n1 i (by unfold jk;grind);have a2:∀i,iT (aC s.holes i) s.outer=true->i<s.holes.length->false=aj s:=λi h=>n1 i (by unfold jk;rw[h];simp);have a3:∀i,(!im (aC s.holes i) s.outer true)=true->i<s.holes.length->false=aj s:=λi h=>n1 i (by unfold jk;rw[show pQ (aC s.holes i) s.outer=false from nb' h];simp);have a4:∀i,(!eC (aC s.holes i))=false->iT (aC s.holes i) s.outer=false->(!im (aC s.holes i) s.outer true)=false->jk s i=true:=λi h1 h2 h3=>by unfold jk;rw[nb h1,h2,show pQ (aC s.holes i) s.outer=true from nb h3];rfl
  have b1:∀i k,iT (aC s.holes i) (aC s.holes k)=true->k<i->i<s.holes.length->false=aj s:=λi k h=>n2 i k (by unfold jB;rw[h];rfl);have b2:∀i k,im (aC s.holes i) (aC s.holes k) false=true->k<i->i<s.holes.length->false=aj s:=λi k h=>n2 i k (by unfold jB;rw[show lL (aC s.holes i) (aC s.holes k)=true from h];simp);have b3:∀i k,im (aC s.holes k) (aC s.holes i) false=true->k<i->i<s.holes.length->false=aj s:=λi k h=>n2 i k (by unfold jB;rw[show lL (aC s.holes k) (aC s.holes i)=true from h];simp);have b4:∀i k,iT (aC s.holes i) (aC s.holes k)=false->im (aC s.holes i) (aC s.holes k) false=false->im (aC s.holes k) (aC s.holes i) false=false->jB s i k=true:=λi k h1 h2 h3=>by unfold jB;rw[h1,show lL (aC s.holes i) (aC s.holes k)=false from h2,show lL (aC s.holes k) (aC s.holes i)=false from h3];rfl
  have b5:∀i k:Nat,¬(k:Int)<i->aM (λk=>jB s i k=true) k->∀k,k<i->jB s i k=true:=λi k h1 h2 j hj=>h2 j (by omega);have e0:=DR s;have es:∀k,k<s.holes.length->(jl s k:Int)+(aC s.holes k).length=jl s (k+1):=λk h=>by rw[DT h];rfl
  have el:∀k,k<s.holes.length->aE ((jl s k:Int)+(aC s.holes k).length):=λk h=>by rw[es k h];exact bD (by have:=Wr hp (k+1) (by omega);have:=hp.2.1;omega)
  have ef:s.holes.length<=6->eC s.outer=true->∀k:Nat,¬(k:Int)<s.holes.length->k<=s.holes.length->aM (λi=>jk s i=true/\∀k,k<i->jB s i k=true) k->decide ((jl s k:Int)<=80)=aj s:=λh1 h2 k h3 h4 h5=>by
   obtain rfl:k=s.holes.length:=by omega
   rw[J0,fm,wL,decide_eq_true_eq];exact⟨λh=>⟨h1,h2,h5,by omega⟩,λh=>by omega⟩
  have ho:=hp.1;have hh:= @Fit.hole s hp
  repeat' first|with_reducible apply bl|with_reducible intro
  all_goals repeat with_reducible cases‹_/\_›
  all_goals first|assumption|rfl|exact trivial|exact nb ‹_› |exact nb' ‹_› |omega|exact gH (by omega)|(unfold ix;omega)|(unfold aE;omega)|exact fz _|exact bz ‹_› ‹_› |(refine bz ‹_› ?_;simp_all;done)|exact cF (hh (by omega)) (by decide)|exact el _ (by omega)|exact es _ (by omega)|exact ef ‹_› ‹_› _ ‹_› ‹_› ‹_› |exact a1 _ ‹_› (by omega)|exact a2 _ ‹_› (by omega)|exact a3 _ ‹_› (by omega)|exact a4 _ ‹_› ‹_› ‹_› |exact b1 _ _ ‹_› (by omega) (by omega)|exact b2 _ _ ‹_› (by omega) (by omega)|exact b3 _ _ ‹_› (by omega) (by omega)|exact bz ‹_› (b4 _ _ ‹_› ‹_› ‹_›)|exact bz ‹_› ⟨‹_›,b5 _ _ ‹_› ‹_›⟩|exact hf λh=>by have h:=(wL s).1 h;first|omega|grind|grind)
noncomputable def t58:=RL.adk k58
def Kk{p:Pt}{l:List aH}{w:Int}{k:Nat}(hk:k<l.length)(h:∀j,j<k->dc (aC l j) p≠2/\dc (aC l j) p≠1):lZ p l w=if dc (aC l k) p=2 then 0 else if dc (aC l k) p=1 then 1 else lZ p (l.drop (k+1)) w:=by
 induction l generalizing k with
 |nil=>simp at hk
 |cons r l ih=>
  cases k with
  |zero=>rfl
  |succ k=>
   have h0:=h 0 (by omega);have e:aC (r::l) 0=r:=rfl;rw[e]at h0;have e1:lZ p (r::l) w=(if dc r p=2 then 0 else if dc r p=1 then 1 else lZ p l w):=rfl;rw[e1,if_neg h0.1,if_neg h0.2];exact ih (k:=k) (by grind) (λj hj=>h (j+1) (by omega))
def U9{p:Pt}{l:List aH}{w:Int}(h:∀j,j<l.length->dc (aC l j) p≠2/\dc (aC l j) p≠1):lZ p l w=w:=by
 induction l with
 |nil=>rfl
 |cons r l ih=>
  have h0:=h 0 (by simp);have e:aC (r::l) 0=r:=rfl;rw[e]at h0;unfold lZ;rw[if_neg h0.1,if_neg h0.2];exact ih (λj hj=>h (j+1) (by grind))
def N8{X:List aH}{h:aH}:∀{k:Nat},k<=X.length->(∀j,j<k->bf (aEY (aC X j) 0) (aEY h 0)=true)->(k<X.length->bf (aEY (aC X k) 0) (aEY h 0)=false)->kz X h=X.take k++[h] ++X.drop k:=by
 induction X with
 |nil=>intro k hk _ _;simp[kz]
 |cons q r ih=>
  intro k hk h1 h2;cases k with
  |zero=>
   unfold kz;rw[if_neg (by rw[show bf (aEY q 0) (aEY h 0)=false from h2 (by simp)];simp)];rfl
  |succ k=>
   unfold kz;rw[if_pos (show bf (aEY q 0) (aEY h 0)=true from h1 0 (by omega)),ih (k:=k) (by grind) (λj hj=>h1 (j+1) (by omega)) (λhh=>h2 (by grind))];rfl
def cq(s:Shape)(i:Nat):List aH:=p8 ((s.holes.take i).map bo)
def Iz{s:Shape}{i:Nat}(h:i<s.holes.length):cq s (i+1)=kz (cq s i) (bo (aC s.holes i)):=by unfold cq p8;rw[lJ,dp h,dM,vz,je h];rfl
def I0(s:Shape)(i:Nat):(cq s i).Perm ((s.holes.take i).map bo):=mB _
def Ik(s:Shape)(i:Nat):(cq s i).length<=s.holes.length:=by rw[(I0 s i).length_eq,da,List.length_take];omega
def JM{s:Shape}{i:Nat}{r:aH}(h:r∈cq s i):∃q∈s.holes,r=bo q:=by have:=(I0 s i).mem_iff.1 h;grind
def Ud{s:Shape}(hp:∀r∈s.holes,0<r.length){i j:Nat}(h:j<(cq s i).length):0<(aC (cq s i) j).length:=by obtain⟨q,hq,e⟩:=JM (gD h);rw[e,j4];exact hp q hq
def hQ(s:Shape)(p:Pt)(j:Nat):Prop:=dc (aC s.holes j) p≠2/\dc (aC s.holes j) p≠1
noncomputable def c73:Con:=con (ac aSh (a1 aT)) (λ(s,_)=>[Fit s]) (λ(s,p)=> .iqz (jR s p))
def k73:c73.Okz 73:=ag t58 (λ(s,p)=>[cnt 5 6 s.holes.length (aM (hQ s p))]
  ) (λ(_,_)=>⟨_,rfl⟩) λ(s,p) hp=>aY (aA (hQ s p) λA=>aA (!aj s) λC=>Fit s/\(C=true->0=jR s p)/\
 (C=false->s.outer.length<=100000/\(0=(0:Int)/\(0:Nat)<=s.holes.length/\aM A 0)/\
  (∀x:Nat,aA (x:Int) λB=>aA (aC s.holes x) λD=>x<=s.holes.length/\aM A x->(B<s.holes.length->ix B s.holes.length/\D.length<=100000/\(dc D p=2->0=jR s p)/\
    (¬dc D p=2->(dc D p=1->1=jR s p)/\
     (¬dc D p=1->aE (B+1)/\B+1=((x+1:Nat):Int)/\x+1<=s.holes.length/\aM A (x+1)/\s.holes.length-(x+1)<s.holes.length-x)))/\
   (¬B<s.holes.length->dc s.outer p=jR s p)))) (by kernel_rfl) (by
  change Fit s at hp;have h0:(!aj s)=true->0=jR s p:=λh=>by unfold jR;rw[if_pos h]
  have h1:(!aj s)=false->jR s p=lZ p s.holes (dc s.outer p):=λh=>by unfold jR;grind
  have c1:∀k,aM (hQ s p) k->dc (aC s.holes k) p=2->(!aj s)=false->k<s.holes.length->0=jR s p:=λk h h2 h3 hk=>by rw[h1 h3,Kk hk h,if_pos h2]
  have c2:∀k,aM (hQ s p) k->¬dc (aC s.holes k) p=2->dc (aC s.holes k) p=1->(!aj s)=false->k<s.holes.length->1=jR s p:=λk h h2 h3 h4 hk=>by rw[h1 h4,Kk hk h,if_neg h2,if_pos h3]
  have c3:∀k:Nat,¬(k:Int)<s.holes.length->aM (hQ s p) k->(!aj s)=false->dc s.outer p=jR s p:=λk hk h h2=>by rw[h1 h2,U9 λj hj=>h j (by omega)]
  have ho:=hp.1;have hl:=hp.2.1;have hh:= @Fit.hole s hp
  repeat' first|with_reducible apply bl|with_reducible intro
  all_goals repeat with_reducible cases‹_/\_›
  all_goals first|assumption|rfl|exact trivial|exact nb ‹_› |exact nb' ‹_› |omega|exact gH (by omega)|(unfold ix;omega)|(unfold aE;omega)|exact fz _|exact bz ‹_› ‹_› |(refine bz ‹_› ?_;simp_all;done)|exact cF (hh (by omega)) (by decide)|exact h0 ‹_› |exact c1 _ ‹_› ‹_› ‹_› (by omega)|exact c2 _ ‹_› ‹_› ‹_› ‹_› (by omega)|exact c3 _ ‹_› ‹_› ‹_› |exact bz ‹_› ⟨‹_›,‹_›⟩|grind)
noncomputable def t73:=t58.adk k73
noncomputable def aEl:Con:=con (ac aI (a1 aI)) (λ(a,b)=>[-9000000000000000000<=a,a<=9000000000000000000,-9000000000000000000<=b,b<=9000000000000000000]) (λ(a,b)=> .iqz ((bX a.natAbs b.natAbs:Nat):Int))
def aCJ:aEl.Okz 147:=ag t73 (λ(a,b)=>[jU 3 [(0,.iqz (a.natAbs:Int))],jU 5 [(1,.iqz (b.natAbs:Int))],(5,.mk (Int×Int) (λF _=>Hf F 0 1) [] (λp=>[0<=p.1,0<=p.2,bX p.1.natAbs p.2.natAbs=bX a.natAbs b.natAbs]) (λp=>[(0,.iqz p.1),(1,.iqz p.2)]) bW (λp=>p.2.natAbs) bW)]
  ) (λ(_,_)=>⟨_,rfl⟩) λ(a,b) hp=>aY (aA (cJ a) λA=>aA (cJ b) λB=>aA (cJ a:Int) λD=>aA (cJ b:Int) λE=>((a<0->aE (0-a)/\0-a=cJ a)/\
  (¬a<0->a=cJ a))/\
 (∀y:Unit,((b<0->aE (0-b)/\0-b=cJ b)/\
   (¬b<0->b=cJ b))/\
  (∀y_1:Unit,(D=cJ a/\E=cJ b/\0<=D/\0<=E/\bX (cJ D) (cJ E)=bX A B)/\
   (∀x:Prod Int Int,aA (cD x.1 x.2) λC=>0<=x.1/\0<=x.2/\bX (cJ x.1) (cJ x.2)=bX A B->(¬x.2=0->x.2≠0/\x.2=x.2/\cD x.1 x.2=cD x.1 x.2/\0<=x.2/\0<=cD x.1 x.2/\bX (cJ x.snd) (cJ C)=bX A B/\cJ C<cJ x.2)/\
    (¬(¬x.2=0)->x.1=bX A B))))) (by kernel_rfl) (by
  change-9000000000000000000<=a/\a<=9000000000000000000/\ -9000000000000000000<=b/\b<=9000000000000000000 at hp;have e1:∀x y:Int,0<=x->0<=y->bX y.natAbs (cD x y).natAbs=bX x.natAbs y.natAbs:=λx y _ _=>by rw[yu,yv,<-Nat.gcd_rec,yv]
  have e2:∀x y:Int,0<=x->¬y=0->(cD x y).natAbs<y.natAbs:=λx y _ h=>by rw[yu];exact bq _ (by omega)
  have e3:∀x y:Int,0<=x->0<=cD x y:=λx y h=>Int.tmod_nonneg _ h
  repeat' first|with_reducible apply bl|with_reducible intro
  all_goals repeat with_reducible cases‹_/\_›
  all_goals first|assumption|rfl|exact trivial|exact nb ‹_› |exact nb' ‹_› |omega|exact gH (by omega)|(unfold ix;omega)|(unfold aE;omega)|exact fz _|exact bz ‹_› ‹_› |(refine bz ‹_› ?_;simp_all;done)|exact e3 _ _ ‹_› |exact e2 _ _ (by assumption) ‹_› |(rw[e1 _ _ (by assumption) (by assumption)];assumption)|grind|grind)
noncomputable def Q6:=t73.adk aCJ
def Dz{l:List V}{k:Nat}(h:k<l.length):iP (l.take (k+1))=iP (l.take k)+(aEY l k).x:=by unfold iP;rw[lJ,dp h,dM,rV,nth_eq h];simp
def Dy{l:List V}{k:Nat}(h:k<l.length):iO (l.take (k+1))=iO (l.take k)+(aEY l k).y:=by unfold iO;rw[lJ,dp h,dM,rV,nth_eq h];simp
def M7{x:Int}{g:Nat}{B:Int}(h: -B<=x/\x<=B): -B<=x.tdiv (g:Int)/\x.tdiv (g:Int)<=B:=by
 have h1:(x.tdiv (g:Int)).natAbs<=x.natAbs:=by rw[Int.natAbs_tdiv];exact Nat.div_le_self _ _
 omega
def NA{l:List V}(hm:∀v∈l,bd 10000 v):∀k:Nat,k<=l.length->(-(10000*(k:Int))<=iP (l.take k)/\iP (l.take k)<=10000*(k:Int))/\(-(10000*(k:Int))<=iO (l.take k)/\iO (l.take k)<=10000*(k:Int))
 |0,_=>by simp[iP,iO]
 |k+1,h=>by
  have:=NA hm k (by omega);have h2:=hm _ (dh (show k<l.length by omega));rw[Dz (by omega),Dy (by omega)];unfold bd at h2;omega
noncomputable def c74:Con:=con (a1 (aL .V)) (λl=>[0<l.length,l.length<=1000,(∀v∈l,bd 10000 v)]) (λl=>aT.enc (qq l))
def k74:c74.Okz 74:=ag Q6 (λl=>[lp 3 4 l.length bW [] bW (λk=>[(4,.box 74 [.iqz (iP (l.take k)),.iqz (iO (l.take k)),.iqz (l.length:Int)])])]
  ) (λ_=>⟨_,rfl⟩) λl hp=>aY (aA (qq l) λH=>aA (aP 0 l) λI=>aA (l.length:Int) λJ=>aA (cJ J) λK=>(0=(0:Int)/\0=iP I/\0=iO I/\J=l.length/\(0:Nat)<=l.length)/\
 (∀x:Nat,aA (x:Int) λA=>aA (aEY l x) λB=>aA (aP x l) λC=>aA (iP C) λD=>aA (iO C) λE=>aA (bX (cJ D) (cJ E):Int) λL=>aA (cJ L) λM=>aA (bX M K:Int) λN=>aA (aP (x+1) l) λO=>aA (l.length/bX M K:Nat) λP=>x<=l.length->(A<l.length->ix A l.length/\aE (iP C+B.x)/\ix A l.length/\aE (iO C+B.y)/\aE (A+1)/\A+1=((x+1:Nat):Int)/\iP C+B.x=iP O/\iO C+B.y=iO O/\J=l.length/\x+1<=l.length/\l.length-(x+1)<l.length-x)/\
  (¬A<l.length-> -9000000000000000000<=iP C/\iP C<=9000000000000000000/\ -9000000000000000000<=iO C/\iO C<=9000000000000000000/\ -9000000000000000000<=L/\L<=9000000000000000000/\ -9000000000000000000<=J/\J<=9000000000000000000/\N≠0/\aE (eP D N)/\N≠0/\aE (eP E N)/\N≠0/\aE (P:Int)/\eP D N=H.x/\eP E N=H.y/\(P:Int)=H.den))) (by kernel_rfl) (by
  change 0<l.length/\l.length<=1000/\((∀v∈l,bd 10000 v))at hp;obtain⟨h0,h1,hm⟩:=hp;simp only[Int.natAbs_natCast];have et:∀x:Nat,¬(x:Int)<l.length->x<=l.length->aP x l=l:=λx h1 h2=>fT (by omega);have hg:∀n m,((bX (bX n m) l.length:Nat):Int)≠0:=λn m=>by have:=Nat.gcd_pos_of_pos_right (bX n m) h0;omega
  have hs:=NA hm;have hd:∀x n m,x<=l.length->aE (eP (iP (aP x l)) (bX (bX n m) l.length:Int))/\aE (eP (iO (aP x l)) (bX (bX n m) l.length:Int)):=λx n m h=>by have:=hs x h;exact⟨bD (by have:=M7 (x:=iP (aP x l)) (g:=bX (bX n m) l.length) (B:=10000*x) this.1;omega),bD (by have:=M7 (x:=iO (aP x l)) (g:=bX (bX n m) l.length) (B:=10000*x) this.2;omega)⟩
  have ha:∀x,x<l.length->aE (iP (aP x l)+(aEY l x).x)/\aE (iO (aP x l)+(aEY l x).y):=λx h=>by rw[<-Dz h,<-Dy h];have:=hs (x+1) (by omega);exact⟨bD (by omega),bD (by omega)⟩
  have hq:∀n m,aE ((l.length/bX (bX n m) l.length:Nat):Int):=λn m=>bD (by have:=Nat.div_le_self l.length (bX (bX n m) l.length);grind);have hn:∀n m B:Nat,n<=B->m<=B->bX n m<=B:=λn m B h1 h2=>by
   rcases qN n with e|e
   .grind
   .exact cF (Nat.gcd_le_left m e) h1
  have hk:∀x,x<=l.length->((bX (iP (aP x l)).natAbs (iO (aP x l)).natAbs:Nat):Int)<=9000000000000000000:=λx h=>by have:=hn (iP (aP x l)).natAbs (iO (aP x l)).natAbs 10000000 (by have:=hs x h;omega) (by have:=hs x h;omega);omega
  repeat' first|with_reducible apply bl|with_reducible intro
  all_goals repeat with_reducible cases‹_/\_›
  all_goals first|assumption|rfl|exact trivial|exact nb ‹_› |exact nb' ‹_› |omega|exact gH (by omega)|(unfold ix;omega)|(unfold aE;omega)|exact fz _|exact bz ‹_› ‹_› |(refine bz ‹_› ?_;simp_all;done)|exact hk _ ‹_› |exact(ha _ (by omega)).1|exact(ha _ (by omega)).2|exact hg _ _|exact(hd _ _ _ ‹_›).1|exact(hd _ _ _ ‹_›).2|exact hq _ _|exact(Dz (by omega)).symm|exact(Dy (by omega)).symm|(have:=hs _ ‹_›;omega)|(rw[et _ ‹_› ‹_›];rfl)|grind)
noncomputable def t74:=Q6.adk k74
def Dl:∀{a b:aH} {k:Nat},(∀j,j<k->bn (aEY a j) (aEY b j)=0)->bn (aEY a k) (aEY b k)≠0->k<a.length->k<b.length->cL a b=bn (aEY a k) (aEY b k)
 |[],_,k,_,_,h,_=>by simp at h
 |_::_,[],k,_,_,_,h=>by simp at h
 |x::a,y::b,0,_,h,_,_=>by
  have e:bn x y≠0:=h;unfold cL;rw[if_pos e];rfl
 |x::a,y::b,k+1,h3,h4,h1,h2=>by
  have e:bn x y=0:=h3 0 (by omega);unfold cL;rw[if_neg (λhne=>hne e)];exact Dl (a:=a) (b:=b) (k:=k) (λj hj=>h3 (j+1) (by omega)) h4 (by grind) (by grind)
def zN:∀{a b:aH} {k:Nat},k<=a.length->k<=b.length->(k=a.length\/k=b.length)->(∀j,j<k->bn (aEY a j) (aEY b j)=0)->cL a b=sgn ((a.length:Int)-(b.length:Int))
 |[],[],_,_,_,_,_=>rfl
 |[],y::b,k,_,_,_,_=>by unfold cL sgn;grind
 |x::a,[],k,_,_,_,_=>by unfold cL sgn;grind
 |x::a,y::b,0,_,_,h,_=>by simp at h
 |x::a,y::b,k+1,h1,h2,h3,h4=>by
  have e:bn x y=0:=h4 0 (by omega);unfold cL;rw[if_neg (λhne=>hne e)];rw[zN (a:=a) (b:=b) (k:=k) (by grind) (by grind) (by grind) (λj hj=>h4 (j+1) (by omega))];grind
noncomputable def c27:Con:=con (ac (aL .V) (a1 (aL .V))) (λ(a,b)=>[a.length<=1000000,b.length<=1000000]) (λ(a,b)=> .iqz (cL a b))
def k27:c27.Okz 27:=ag t74 (λ(a,b)=>[lp 2 5 a.length (λk=>[k<=b.length,aM (λj=>bn (aEY a j) (aEY b j)=0) k]) [] bW bW]
  ) (λ(_,_)=>⟨_,rfl⟩) λ(a,b) hp=>aY (aA ((a.length:Int)-b.length) λE=>(0=(0:Int)/\(0:Nat)<=a.length/\(0:Nat)<=b.length/\aM (λj=>bn (aEY a j) (aEY b j)=0) 0)/\
 (∀x:Nat,aA (x:Int) λA=>aA (aEY a x) λB=>aA (aEY b x) λC=>x<=a.length/\x<=b.length/\aM (λj=>bn (aEY a j) (aEY b j)=0) x->(A<a.length->(A<b.length->ix A a.length/\ix A b.length/\(¬bn B C=0->bn B C=cL a b)/\
    (¬(¬bn B C=0)->aE (A+1)/\A+1=((x+1:Nat):Int)/\x+1<=a.length/\x+1<=b.length/\aM (λj=>bn (aEY a j) (aEY b j)=0) (x+1)/\a.length-(x+1)<a.length-x))/\
   (¬A<b.length->aE E/\sgn E=cL a b))/\
  (¬A<a.length->aE E/\sgn E=cL a b))) (by kernel_rfl) (by
  change a.length<=1000000/\b.length<=1000000 at hp
  repeat' first|with_reducible apply bl|with_reducible intro
  all_goals repeat with_reducible cases‹_/\_›
  all_goals first|assumption|rfl|exact trivial|exact nb ‹_› |exact nb' ‹_› |omega|exact gH (by omega)|(unfold ix;omega)|(unfold aE;omega)|exact fz _|exact bz ‹_› ‹_› |(refine bz ‹_› ?_;simp_all;done)|exact(Dl ‹_› ‹_› (by omega) (by omega)).symm|exact(zN ‹_› ‹_› (by omega) ‹_›).symm|exact bz ‹_› (rb ‹¬¬_›)|grind)
noncomputable def t27:=t74.adk k27
def Tm{s:Shape}(hv:aj s=true):0<s.outer.length/\∀r∈s.holes,0<r.length:=by have h:=(wL s).1 hv;refine⟨by have:=((zP s.outer).1 h.2.1).1;omega,λr hr=> ?_⟩;obtain⟨i,hi,rfl⟩:=pX hr;have h2:=(h.2.2.1 i hi).1;unfold jk at h2;simp only[BI]at h2;have:=((zP _).1 h2.1.1).1;omega
def K5(s:Shape):c7 s=⟨bo s.outer,cq s s.holes.length⟩:=by unfold c7 cq;grind
def EQ{s:Shape}(hf:Fit s):Fit (c7 s):=by
 rw[K5];refine⟨by dsimp only;rw[j4];exact hf.1,?_,λr hr=> ?_⟩
 .have:=Ik s s.holes.length;have:=hf.2.1;grind
 .obtain⟨q,hq,rfl⟩:=JM hr;rw[j4];exact hf.2.2 q hq
def Js{L:List aH}{k:Nat}(hk:k<L.length):(L.take (k+1)).flatten=(L.take k).flatten++aC L k:=by rw[lJ,te,dp hk,je hk];simp
def YW{L:List aH}(h:∀r∈L,r.length<=1000)(k:Nat)(hk:k<=L.length):((L.take k).flatten).length<=1000*k:=by
 induction k with
 |zero=>simp
 |succ k ih=>
  rw[Js (by omega),eW];have h1:=ih (by omega);have h3:=h _ (gD (show k<L.length by omega));omega
def qSU(s:Shape)(i j:Nat):Prop:=bf (aEY (aC (cq s i) j) 0) (aEY (bo (aC s.holes i)) 0)=true
def jSU(s:Shape)(i j:Nat):List aH:=(cq s i).take j++[bo (aC s.holes i)] ++(cq s i).drop j
def O0{s:Shape}{i j:Nat}(h:cq s (i+1)=jSU s i j):([] :List (List V))++aP j (cY 0 (cq s i))++[bo (aC s.holes i)] ++aP ((cq s i).length-j) (cY j (cq s i))=cq s (i+1):=by have e:aP ((cq s i).length-j) (cY j (cq s i))=cY j (cq s i):=fT (by simp);rw[h,e];unfold jSU;simp
noncomputable def aEz:Con:=con (a1 aSh) (λs=>[Fit s,0<s.outer.length,(∀r∈s.holes,0<r.length)]) (λs=> .agg [.lst .V (bo s.outer),.lst .R (cq s s.holes.length)])
def aCX:aEz.Okz 130:=ag t27 (λs=>[lp 3 4 s.holes.length bW [900] bW (λk=>[(6,.box 26 [.lst .V (bo s.outer),.own 900 .R (cq s k).length]),(900,.row 23 .R (cq s k))]) λi=>[cnt 7 6 (cq s i).length (aM (qSU s i)),jN 9 6 λj=>[j<=(cq s i).length,cq s (i+1)=jSU s i j]]]
  ) (λ_=>⟨_,rfl⟩) λs hp=>aY (aA ([] :List (List V)) λH=>s.outer.length<=100000/\(0=(0:Int)/\bo s.outer=bo s.outer/\(cq s 0).length=0/\cq s 0=H/\(0:Nat)<=s.holes.length)/\
 (∀x:Nat,aA (x+1) λA=>aA (x:Int) λB=>aA (qSU s x) λD=>aA (cq s x) λF=>aA (cY 0 F) λJ=>aA (aC s.holes x) λM=>aA (bo M) λN=>x<=s.holes.length->(B<s.holes.length->ix B s.holes.length/\M.length<=100000/\((0=(0:Int)/\(0:Nat)<=F.length/\aM D 0)/\
    (∀x_1:Nat,aA (x_1:Int) λE=>aA (aC F x_1) λL=>x_1<=F.length/\aM D x_1->(E<F.length->ix E F.length/\x_1<F.length/\ix 0 L.length/\ix 0 N.length/\(bf (aEY L 0) (aEY N 0)=true->aE (E+1)/\E+1=((x_1+1:Nat):Int)/\x_1+1<=F.length/\aM D (x_1+1)/\F.length-(x_1+1)<F.length-x_1)/\
      (bf (aEY L 0) (aEY N 0)=false->E=x_1/\x_1<=F.length/\cq s A=jSU s x x_1))/\
     (¬E<F.length->E=x_1/\x_1<=F.length/\cq s A=jSU s x x_1)))/\
   (∀y:Nat,aA (y:Int) λC=>aA (F.length-y) λI=>aA (cY y F) λK=>aA (H++aP y J) λO=>aA (H++aP y J++[bo M]) λP=>y<=F.length/\cq s A=jSU s x y->(0<=C/\C<=F.length)/\0+y<=F.length/\H.length+(aP y J).length<=1000000/\O.length=O.length/\O.length+[bo M].length<=1000000/\(0<=C/\C<=F.length)/\P.length=P.length/\y+I<=F.length/\P.length+(aP I K).length<=1000000/\aE (B+1)/\B+1=((x+1:Nat):Int)/\bo s.outer=bo s.outer/\(H++aP y J++[bo M] ++aP I K).length=(cq s A).length/\H++aP y J++[bo M] ++aP I K=cq s A/\x+1<=s.holes.length/\s.holes.length-A<s.holes.length-x))/\
  (¬B<s.holes.length->F.length=F.length/\bo s.outer=bo s.outer/\cq s x=cq s s.holes.length))) (by kernel_rfl) (by
  change Fit s/\0<s.outer.length/\((∀r∈s.holes,0<r.length))at hp;obtain⟨hf,hpo,hph⟩:=hp;have h1:=hf.1;have h2:=hf.2.1;have hh:= @Fit.hole s hf;have i0:cq s 0=[] :=rfl;have hl:=Ik s;have kf:∀k:Nat,¬(k:Int)<s.holes.length->k<=s.holes.length->cq s k=cq s s.holes.length:=λk h1 h2=>by grind
  have kl:∀i j:Nat,(j:Int)<(cq s i).length->aE ((j:Int)+1):=λi j h=>bD (by grind);have hb:∀i,i<s.holes.length->ix 0 (bo (aC s.holes i)).length:=λi h=>dQ (by rw[j4];exact hph _ (gD h));have hq:∀i j,j<(cq s i).length->ix 0 (aC (cq s i) j).length:=λi j h=>dQ (Ud hph h);have hj1:∀i j:Nat,¬(j:Int)<(cq s i).length->j<=(cq s i).length->aM (qSU s i) j->i<s.holes.length->cq s (i+1)=jSU s i j:=λi j h1 h2 h3 h=>by rw[Iz h];exact N8 h2 h3 (λh=>by omega)
  have hj2:∀i j:Nat,bf (aEY (aC (cq s i) j) 0) (aEY (bo (aC s.holes i)) 0)=false->j<=(cq s i).length->aM (qSU s i) j->i<s.holes.length->cq s (i+1)=jSU s i j:=λi j h1 h2 h3 h=>by rw[Iz h];exact N8 h2 h3 (λ_=>h1)
  repeat' first|with_reducible apply bl|with_reducible intro
  all_goals repeat with_reducible cases‹_/\_›
  all_goals first|assumption|rfl|exact trivial|exact nb ‹_› |exact nb' ‹_› |omega|exact gH (by omega)|(unfold ix;omega)|(unfold aE;omega)|exact fz _|exact bz ‹_› ‹_› |(refine bz ‹_› ?_;simp_all;done)|exact kf _ ‹_› ‹_› |exact kl _ _ ‹_› |exact cF (hh (by omega)) (by decide)|exact hb _ (by omega)|exact hq _ _ (by omega)|exact hj1 _ _ ‹_› ‹_› ‹_› (by omega)|exact hj2 _ _ ‹_› ‹_› ‹_› (by omega)|exact O0 ‹_› |exact congrArg dA (O0 ‹_›)|(simp;omega)|grind)
noncomputable def RJ:=t27.adk aCX
noncomputable def c59:Con:=con (a1 aSh) (λs=>[Fit s,aj s=true]) (λs=>aSh.enc (c7 s)
 )
def k59:c59.Okz 59:=ag RJ bW (λ_=>⟨_,rfl⟩) λs hp=>aY (aA (c7 s) λA=>aA (!aj s) λB=>Fit s/\(B=true->A.outer=([] :List V)/\A.holes=([] :List (List V)))/\
 (B=false->Fit s/\(0:Nat)<s.outer.length/\(∀r:aH,r∈s.holes->(0:Nat)<r.length)/\bo s.outer=A.outer/\cq s s.holes.length=A.holes)) (by kernel_rfl) (by change Fit s/\aj s=true at hp;have h:=Tm hp.2;have e:=K5 s;grind)
noncomputable def t59:=RJ.adk k59
def vOf(s:Shape):List V:=if aj s=true then cT (c7 s)else []
def eOf(s:Shape):Int:=if aj s=true then 0 else 11
def vU(s:Shape)(k:Nat):List V:=((aD (c7 s)).take (k+1)).flatten
def FN{s:Shape}{k:Nat}(h:k<(c7 s).holes.length):vU s k++aC (c7 s).holes k=vU s (k+1):=by unfold vU;rw[Js (L:=aD (c7 s)) (k:=k+1) (by simp[aD];omega)];rfl
noncomputable def c18:Con:=con (a1 aSh) (λs=>[Fit s]) (λs=> .tup [.lst .V (vOf s),.iqz (eOf s)])
def k18:c18.Okz 18:=ag t59 (λs=>[lp 6 6 (c7 s).holes.length bW [13] (λk=>[(5,.own 13 .V (vU s k).length)]) (λk=>[(13,.row 44 .V (vU s k))])]
  ) (λ_=>⟨_,rfl⟩) λs hp=>aY (aA (c7 s) λC=>aA (!aj s) λD=>aA ([] :List V) λE=>Fit s/\(D=true->vOf s=E/\11=eOf s)/\
 (D=false->Fit s/\aj s=true/\E.length+C.outer.length<=1000000/\(0=(0:Int)/\(E++C.outer).length=(vU s 0).length/\E++C.outer=vU s 0/\(0:Nat)<=C.holes.length)/\
  (∀x:Nat,aA (vU s x) λA=>aA (x:Int) λB=>x<=C.holes.length->(B<C.holes.length->ix B C.holes.length/\A.length=A.length/\A.length+(aC C.holes x).length<=1000000/\aE (B+1)/\B+1=((x+1:Nat):Int)/\(vU s x++aC C.holes x).length=(vU s (x+1)).length/\vU s x++aC C.holes x=vU s (x+1)/\x+1<=C.holes.length/\C.holes.length-(x+1)<C.holes.length-x)/\
   (¬B<C.holes.length->A.length=A.length/\vU s x=vOf s/\0=eOf s)))) (by kernel_rfl) (by
  change Fit s at hp;have hc:=EQ hp;have h1:=hc.1;have h2:=hc.2.1;have e0:vU s 0=[] ++(c7 s).outer:=by simp[vU,aD]
  have el:∀k,k<(c7 s).holes.length->(vU s k).length+(aC (c7 s).holes k).length<=1000000:=λk h=>by have:=YW hc.rings (k+2) (by simp[aD];omega);rw[<-eW,FN h];exact cF this (by omega)
  have ea:∀k:Nat,¬(k:Int)<(c7 s).holes.length->k<=(c7 s).holes.length->(!aj s)=false->vU s k=vOf s:=λk h1 h2 h3=>by
   obtain rfl:k=(c7 s).holes.length:=by omega
   unfold vOf;rw[nb h3,if_pos rfl];unfold vU cT;rw[fT (by simp[aD])]
  have hv0:(!aj s)=true->vOf s=[]/\eOf s=11:=λh=>by unfold vOf eOf;grind
  have hv1:(!aj s)=false->eOf s=0:=λh=>by unfold eOf;grind
  repeat' first|with_reducible apply bl|with_reducible intro
  all_goals repeat with_reducible cases‹_/\_›
  all_goals first|assumption|rfl|exact trivial|exact nb ‹_› |exact nb' ‹_› |omega|exact gH (by omega)|(unfold ix;omega)|(unfold aE;omega)|exact fz _|exact bz ‹_› ‹_› |(refine bz ‹_› ?_;simp_all;done)|exact FN (by omega)|exact congrArg dA (FN (by omega))|exact el _ (by omega)|exact ea _ ‹_› ‹_› ‹_› |exact(hv0 ‹_›).1.symm|exact(hv0 ‹_›).1|exact(hv0 ‹_›).2.symm|exact(hv1 ‹_›).symm|(rw[e0];done)|(simp;omega)|grind)
noncomputable def t18:=t59.adk k18
def Jy{d e:S}(h:bh d e=2\/bh d e=3):fU d e=false:=by unfold fU;rw[if_pos h]
def DC{d e:S}(h:bh d e=1):fU d e=(aEY (dw d e) 0==d.a||aEY (dw d e) 0==d.b):=by unfold fU;grind
def UL{d e:S}(h2:bh d e≠2)(h3:bh d e≠3)(h1:bh d e≠1):fU d e=true:=by unfold fU;grind
def TO{d e:S}(h:bh d e=1):bL (aEY (dw d e) 0) 4000=true:=by
 obtain⟨⟨hd,he⟩,z,hz,_,_,hc⟩:=zc (by rw[oL];exact h);rw[hc];show bL z 4000=true;unfold bJ at hd he;simp only[bw]at hd he;rcases(j6 d e z).1 hz with rfl|rfl|rfl|rfl
 .exact hd.1
 .exact hd.2
 .exact he.1
 .exact he.2
def Yw{l:List S}{q:S->Bool}{j:Nat}(hj:j<l.length)(h:q (aK l j)=false):l.all q=false:=v6.2 ⟨_,Ev hj,by rw[h];simp⟩
def Vb{l:List S}{q:S->Bool}(h:∀j,j<l.length->q (aK l j)=true):l.all q=true:=by rw[bk];intro x hx;obtain⟨j,hj,rfl⟩:=jX hx;rw[<-eZ hj,h j hj]
def Wi{s:Shape}(hf:Fit s):(aa s).length<=901000:=by have h:=Gh hf _ (bI _);unfold eS at h;rw[ke]at h;have h2:=hf.rlen;have h3:aa s=List.flatMap aJ (aD s):=rfl;grind
noncomputable def c31:Con:=con (ac aSh (ac aV (a1 aV))) (λ(s,a,b)=>[Fit s,bd 10000 a,bd 10000 b]) (λ(s,a,b)=> .bool (gq s ⟨a,b⟩))
def k31:c31.Okz 31:=ag t18 (λ(s,a,b)=>[cnt 4 9 (aa s).length (aM λj=>fU ⟨a,b⟩ (aK (aa s) j)=true) λk=>[jP 5 [fU ⟨a,b⟩ (aK (aa s) k)=true]]]) (λ(_,_,_)=>⟨_,rfl⟩) λ(s,a,b) hp=>aY (aA (!true) λA=>aA (aa s) λC=>aA (⟨a,b⟩:S) λE=>Fit s/\(0=(0:Int)/\(0:Nat)<=C.length/\aM (λj=>fU E (aK C j)=true) 0)/\
 (∀x:Nat,aA (x:Int) λB=>aA (aK C x) λD=>aA (aEY (dw E D) 0) λG=>aA (eJ G) λH=>x<=C.length/\aM (λj=>fU E (aK C j)=true) x->(B<C.length->(ix B C.length/\(bh E D=2->(bh E D=2->false=gq s E)/\
     (¬bh E D=2->(bh E D=1->ix B C.length/\bh E D=1/\dK H=true/\H.den=1/\(A=true->false=gq s E)/\
       (A=false->(¬G=a->(¬G=b->false=gq s E)/\
         (¬(¬G=b)->fU E D=true))/\
        (¬(¬G=a)->fU E D=true)))/\
      (¬bh E D=1->fU E D=true)))/\
    (¬bh E D=2->(bh E D=3->false=gq s E)/\
     (¬bh E D=3->(bh E D=1->ix B C.length/\bh E D=1/\dK H=true/\H.den=1/\(A=true->false=gq s E)/\
       (A=false->(¬G=a->(¬G=b->false=gq s E)/\
         (¬(¬G=b)->fU E D=true))/\
        (¬(¬G=a)->fU E D=true)))/\
      (¬bh E D=1->fU E D=true))))/\
   (∀y:Unit,fU E D=true->aE (B+1)/\B+1=((x+1:Nat):Int)/\x+1<=C.length/\aM (λj=>fU E (aK C j)=true) (x+1)/\C.length-(x+1)<C.length-x))/\
  (¬B<C.length->(¬a=b->(0:Nat)<[a,b].length/\[a,b].length<=1000/\(∀v:V,v∈[a,b]->bd 10000 v)/\Fit s/\decide (jR s (qq [a,b])=2)=gq s E)/\
   (¬(¬a=b)->false=gq s E)))) (by kernel_rfl) (by
  change Fit s/\bd 10000 a/\bd 10000 b at hp;obtain⟨hf,ha,hb⟩:=hp;have hm:∀v∈[a,b],bd 10000 v:=λv hv=>by grind
  have hel:=Wi hf;have hE:gq s ⟨a,b⟩=((aa s).all (λe=>fU ⟨a,b⟩ e)&&(a !=b&&jR s (qq [a,b])==2)):=rfl;have hX:∀x:Nat,fU ⟨a,b⟩ (aK (aa s) x)=false->x<(aa s).length->false=gq s ⟨a,b⟩:=λx h hx=>by rw[hE,Yw hx h,Bool.false_and]
  have hY:∀x:Nat,aM (λj=>fU ⟨a,b⟩ (aK (aa s) j)=true) x->¬(x:Int)<(aa s).length->gq s ⟨a,b⟩=(a !=b&&jR s (qq [a,b])==2):=λx h hx=>by rw[hE,Vb (λj hj=>h j (by omega)),nT]
  have hZ:∀x,bh ⟨a,b⟩ (aK (aa s) x)=1->¬aEY (dw ⟨a,b⟩ (aK (aa s) x)) 0=a->¬aEY (dw ⟨a,b⟩ (aK (aa s) x)) 0=b->fU ⟨a,b⟩ (aK (aa s) x)=false:=λx h h1 h2=>by rw[DC h];simp[h1,h2]
  have hZ2:∀x,bh ⟨a,b⟩ (aK (aa s) x)=1->¬(¬aEY (dw ⟨a,b⟩ (aK (aa s) x)) 0=a)->fU ⟨a,b⟩ (aK (aa s) x)=true:=λx h h1=>by rw[DC h];grind
  have hZ3:∀x,bh ⟨a,b⟩ (aK (aa s) x)=1->¬(¬aEY (dw ⟨a,b⟩ (aK (aa s) x)) 0=b)->fU ⟨a,b⟩ (aK (aa s) x)=true:=λx h h1=>by rw[DC h];grind
  with_reducible ((repeat' first|apply bl|intro);all_goals repeat cases‹_/\_›)
  all_goals first|rfl|with_reducible solve_by_elim|exact UL (by omega) (by omega) ‹_› |exact hX _ (Jy (.inl ‹_›)) (by omega)|exact hX _ (Jy (.inr ‹_›)) (by omega)|exact hX _ (hZ _ ‹_› ‹_› ‹_›) (by omega)|(rw[C7];exact TO ‹_›)|(rw[hY _ ‹_› ‹_›];simp_all;done)|exact Bool.noConfusion ‹(!true)=true› |grind)
noncomputable def t31:=t18.adk k31
def N7{X:List aH}{h:aH}:∀{k:Nat},k<=X.length->(∀j,j<k->cL (aC X j) h<0)->(k<X.length->¬cL (aC X k) h<0)->fw X h=X.take k++[h] ++X.drop k:=by
 induction X with
 |nil=>intro k hk _ _;simp[fw]
 |cons q r ih=>
  intro k hk h1 h2;cases k with
  |zero=>
   unfold fw;rw[if_neg (show¬cL q h<0 from h2 (by simp))];rfl
  |succ k=>
   unfold fw;rw[if_pos (show cL q h<0 from h1 0 (by omega)),ih (k:=k) (by grind) (λj hj=>h1 (j+1) (by omega)) (λhh=>h2 (by grind))];rfl
noncomputable def c75:Con:=con (ac (aL .R) (a1 (aL .V))) (λ(l,r)=>[l.length<=999999,r.length<=100000,(∀q∈l,q.length<=100000)]) (λ(l,r)=> .lst .R (fw l r))
def k75:c75.Okz 75:=ag t31 (λ(l,r)=>[cnt 2 5 l.length (aM λj=>cL (aC l j) r<0),jN 4 5 λk=>[k<=l.length,fw l r=l.take k++[r] ++l.drop k]]
  ) (λ(_,_)=>⟨_,rfl⟩) λ(l,r) hp=>aY (aA ([] :List (List V)) λD=>((0=(0:Int)/\(0:Nat)<=l.length/\aM (λj=>cL (aC l j) r<0) 0)/\
  (∀x:Nat,aA (x:Int) λA=>aA (aC l x) λE=>x<=l.length/\aM (λj=>cL (aC l j) r<0) x->(A<l.length->ix A l.length/\E.length<=1000000/\r.length<=1000000/\(cL E r<0->aE (A+1)/\A+1=((x+1:Nat):Int)/\x+1<=l.length/\aM (λj=>cL (aC l j) r<0) (x+1)/\l.length-(x+1)<l.length-x)/\
    (¬cL E r<0->A=x/\x<=l.length/\fw l r=aP x l++[r] ++cY x l))/\
   (¬A<l.length->A=x/\x<=l.length/\fw l r=aP x l++[r] ++cY x l)))/\
 (∀y:Nat,aA (y:Int) λB=>aA (D++aP y l) λF=>aA (D++aP y l++[r]) λG=>aA (D++aP y l++[r] ++cY y l) λH=>y<=l.length/\fw l r=aP y l++[r] ++cY y l->(0<=B/\B<=l.length)/\D.length+(aP y l).length<=1000000/\F.length=F.length/\F.length+[r].length<=1000000/\(0<=B/\B<=l.length)/\G.length=G.length/\G.length+(cY y l).length<=1000000/\H.length=H.length/\D++aP y l++[r] ++cY y l=fw l r)) (by kernel_rfl) (by
  change l.length<=999999/\r.length<=100000/\((∀q∈l,q.length<=100000))at hp;obtain⟨h1,h2,h3⟩:=hp;have e1:∀x:Nat,aM (λj=>cL (aC l j) r<0) x->¬(x:Int)<l.length->x<=l.length->fw l r=l.take x++[r] ++l.drop x:=λx h4 h5 h6=>N7 h6 h4 (λh=>by omega);have e2:∀x:Nat,aM (λj=>cL (aC l j) r<0) x->¬cL (aC l x) r<0->x<=l.length->fw l r=l.take x++[r] ++l.drop x:=λx h4 h5 h6=>N7 h6 h4 (λ_=>h5);have e3:∀x,x<l.length->(aC l x).length<=1000000:=λx h=>cF (h3 _ (gD h)) (by decide)
  with_reducible ((repeat' first|apply bl|intro);all_goals repeat cases‹_/\_›)
  all_goals grind)
noncomputable def t75:=t31.adk k75
def LG{s:Shape}(h:VS s):(cT (c7 s)).length<=80:=by have h1:=(rq s).length_eq;have h2:=h.corners;unfold gF at h2;rw[h1];unfold cT;grind
def Yz{s:Shape}(h:VS s):∀x∈cT (c7 s),bL x 2000=true:=by intro x hx;have hx:=(rq s).subset hx;unfold cT at hx;obtain⟨r,hr,hxr⟩:=List.mem_flatten.1 hx;have hn:=(h.ring hr).near;unfold near at hn;grind
def vsR{s:Shape}(hv:aj s=true):VS s:=(nt s).1 (by rw[ii];exact hv)
def oU(c:Bool)(out:List S)(d:S)(k:Nat):Bool:=c&&(out.take k).all λe=>bh e d !=2
def UE(c:Bool)(out:List S)(d:S):oU c out d 0=c:=by simp[oU]
def UF{c:Bool}{out:List S}{d:S}{k:Nat}(hk:k<out.length):oU c out d (k+1)=(oU c out d k&&bh (aK out k) d !=2):=by unfold oU;rw[lJ,dp hk,List.all_append,eZ hk,Bool.and_assoc];simp
def UG{c:Bool}{out:List S}{d:S}{k:Nat}(hk:out.length<=k):oU c out d k=(c&&out.all λe=>bh e d !=2):=by unfold oU;rw[fT hk]
def TW{c:Bool}{out:List S}{d:S}{k:Nat}(h:oU c out d k=false):(c&&out.all λe=>bh e d !=2)=false:=by unfold oU at h;grind
def DI(s:Shape)(v:List V)(acc:List S)(i:Nat):∀m,(qJ s v acc i m).length<=acc.length+m
 |0=>by simp[qJ]
 |m+1=>by
  have h:=DI s v acc i m;unfold qJ oV;grind
def C5(s:Shape)(v:List V):∀i,(gp s v i).length<=i*v.length
 |0=>by simp[gp]
 |i+1=>by
  have h1:=C5 s v i;have h2:=DI s v (gp s v i) i (v.length-(i+1));unfold gp;grind
def dOf(s:Shape):List S:=if aj s=true then nM s (vOf s)else []
def dJ(s:Shape)(v:List V)(i j:Nat):List S:=qJ s v (gp s v i) i (j-(i+1))
def OM(s:Shape)(v:List V)(i:Nat):dJ s v i (i+1)=gp s v i:=by unfold dJ;rw[Nat.sub_self];rfl
def PF{s:Shape}{v:List V}{i j:Nat}(hj:¬(j:Int)<v.length)(h:j<=v.length):dJ s v i j=gp s v (i+1):=by
 obtain rfl:j=v.length:=by omega
 rfl
def PE{s:Shape}{v:List V}{i j:Nat}(hv:v.length<=80)(hi:i<v.length)(hj:j<=v.length):(dJ s v i j).length<=10000:=by have h3:=DI s v (gp s v i) i (j-(i+1));have h4:=C5 s v i;have h5:i*v.length<=80*80:=tX (by omega) hv;unfold dJ;omega
def dW(s:Shape)(v:List V)(i j:Nat)(k:Nat):Bool:=oU (gq s ⟨aEY v i,aEY v j⟩) (dJ s v i j) ⟨aEY v i,aEY v j⟩ k
def Z2(s:Shape)(v:List V)(i j:Nat):dW s v i j 0=gq s ⟨aEY v i,aEY v j⟩:=UE _ _ _
def Z3{s:Shape}{v:List V}{i j k:Nat}(h:dW s v i j k=true)(hk:k<(dJ s v i j).length):decide (¬bh (aK (dJ s v i j) k) ⟨aEY v i,aEY v j⟩=2)=dW s v i j (k+1):=by have e:dW s v i j (k+1)=(dW s v i j k&&bh (aK (dJ s v i j) k) ⟨aEY v i,aEY v j⟩ !=2):=UF hk;grind
def ON{s:Shape}{v:List V}{i j:Nat}(hi:i<j):dJ s v i (j+1)=oV s v (dJ s v i j) i j:=by unfold dJ;rw[show j+1-(i+1)=(j-(i+1))+1 by omega];show oV s v _ i (i+1+(j-(i+1)))=_;grind
def PD{s:Shape}{v:List V}{i j k:Nat}(hb:dW s v i j k=true)(hk:¬(k:Int)<(dJ s v i j).length)(hi:i<j):dJ s v i j++[⟨aEY v i,aEY v j⟩] =dJ s v i (j+1):=by rw[ON hi];unfold oV;rw[if_pos];rw[<-UG (k:=k) (by omega)];exact hb
def Px{s:Shape}{v:List V}{i j k:Nat}(hb:dW s v i j k=false)(hi:i<j):dJ s v i j=dJ s v i (j+1):=by rw[ON hi];unfold oV;rw[if_neg];rw[TW hb];simp
def m7(s:Shape):(vOf s).length<=80:=by
 unfold vOf;split
 .exact LG (vsR ‹_›)
 .simp
def sf{s:Shape}{i:Nat}(h:i<(vOf s).length){M:Int}(hM:2000<=M:=by decide):bd M (aEY (vOf s) i):=by
 by_cases hv:aj s=true
 .have e:vOf s=cT (c7 s):=if_pos hv;rw[e]at h|-;exact qF (Yz (vsR hv) _ (dh h)) hM
 .have e:vOf s=[] :=if_neg hv;grind
def PA{s:Shape}(h:¬eOf s=0):dOf s=[]/\vOf s=[] :=by
 unfold eOf at h;split at h
 .omega
 .exact⟨if_neg ‹_›,if_neg ‹_›⟩
def uc{s:Shape}(h:¬¬eOf s=0):aj s=true:=by unfold eOf at h;grind
noncomputable def c20:Con:=yQ (a1 aSh) (λs=>[Fit s]) 46 .S (λs=>dOf s) (λs=>[.iqz (eOf s)])
def k20:c20.Okz 20:=A8 (mT t75.o) (raw:=rB) (λs=>[lp 6 7 (vOf s).length bW [900] (λk=>[(6,.own 900 .S (gp s (vOf s) k).length)]) (λk=>[(900,.row 46 .S (gp s (vOf s) k))]) λi=>[(9,.mk Nat (λF _=>mP F 8) [900] (λj=>[i<j,j<=(vOf s).length]) (λj=>[(8,.iqz (j:Int)),(6,.own 900 .S (dJ s (vOf s) i j).length)]) (λj=>[(900,.row 46 .S (dJ s (vOf s) i j))]) (λj=>(vOf s).length-j) λj=>[lp 14 11 (dJ s (vOf s) i j).length bW [] (λk=>[(10,.bool (dW s (vOf s) i j k))]) bW])]]
  ) (λ_=>⟨[_],rfl⟩) λs hp=>aY (aA (vOf s) λA=>aA ([] :List S) λO=>Fit s/\(¬eOf s=0->dOf s=O/\eOf s=eOf s)/\
 (¬(¬eOf s=0)->(0=(0:Int)/\(gp s A 0).length=0/\gp s A 0=O/\(0:Nat)<=A.length)/\
  (∀x:Nat,aA (x+1) λB=>aA (x:Int) λD=>aA (aEY A x) λI=>aA (gp s A x) λP=>aA ((x+1:Nat):Int) λQ=>x<=A.length->(D<A.length->aE (D+1)/\(D+1=Q/\P.length=(dJ s A x B).length/\gp s A x=dJ s A x B/\x<x+1/\x+1<=A.length)/\
    (∀x_1:Nat,aA (x_1+1) λC=>aA (x_1:Int) λE=>aA (E+1) λF=>aA (dJ s A x C) λH=>aA (dJ s A x x_1) λJ=>aA (aEY A x_1) λK=>aA ((x_1+1:Nat):Int) λM=>aA (⟨I,K⟩:S) λN=>aA (dJ s A x x_1++[N]) λR=>x<x_1/\x_1<=A.length->(E<A.length->ix D A.length/\ix E A.length/\ix D A.length/\ix E A.length/\Fit s/\bd 10000 I/\bd 10000 K/\(0=(0:Int)/\gq s N=dW s A x x_1 0/\(0:Nat)<=J.length)/\
      (∀x_2:Nat,aA (x_2:Int) λG=>x_2<=J.length->(G<J.length->(dW s A x x_1 x_2=true->ix G J.length/\x_2<J.length/\aE (G+1)/\G+1=((x_2+1:Nat):Int)/\decide (¬bh (aK J x_2) N=2)=dW s A x x_1 (x_2+1)/\x_2+1<=J.length/\J.length-(x_2+1)<J.length-x_2)/\
        (dW s A x x_1 x_2=false->(dW s A x x_1 x_2=true->J.length=J.length/\J.length+[N].length<=1000000/\aE F/\E+1=M/\R.length=H.length/\dJ s A x x_1++[N] =dJ s A x C/\x<x_1+1/\x_1+1<=A.length/\A.length-C<A.length-x_1)/\
         (dW s A x x_1 x_2=false->aE F/\E+1=M/\J.length=H.length/\dJ s A x x_1=dJ s A x C/\x<x_1+1/\x_1+1<=A.length/\A.length-C<A.length-x_1)))/\
       (¬G<J.length->(dW s A x x_1 x_2=true->J.length=J.length/\J.length+[N].length<=1000000/\aE F/\E+1=M/\R.length=H.length/\dJ s A x x_1++[N] =dJ s A x C/\x<x_1+1/\x_1+1<=A.length/\A.length-C<A.length-x_1)/\
        (dW s A x x_1 x_2=false->aE F/\E+1=M/\J.length=H.length/\dJ s A x x_1=dJ s A x C/\x<x_1+1/\x_1+1<=A.length/\A.length-C<A.length-x_1))))/\
     (¬E<A.length->aE (D+1)/\D+1=Q/\J.length=(gp s A B).length/\dJ s A x x_1=gp s A B/\x+1<=A.length/\A.length-B<A.length-x)))/\
   (¬D<A.length->gp s A x=dOf s/\P.length=P.length/\0=eOf s)))) (by kernel_rfl) (by
  change Fit s at hp;have hl:=m7 s;have gL:∀x:Nat,(x:Int)<(vOf s).length->aE ((x:Int)+1):=λx h=>bD (by omega);have gJ:∀i j (e:S),i<(vOf s).length->j<=(vOf s).length->(dJ s (vOf s) i j).length+[e].length<=1000000:=λi j e h1 h2=>by have:=PE (s:=s) hl h1 h2;simp;omega
  have gK:∀i j k:Nat,(k:Int)<(dJ s (vOf s) i j).length->i<(vOf s).length->j<=(vOf s).length->aE ((k:Int)+1):=λi j k h h1 h2=>by have:=PE (s:=s) hl h1 h2;exact bD (by omega)
  have gE:∀x:Nat,¬(x:Int)<(vOf s).length->x<=(vOf s).length->¬¬eOf s=0->gp s (vOf s) x=dOf s:=λx h1 h2 h3=>by unfold dOf;rw[if_pos (uc h3),show x=(vOf s).length by omega];rfl
  with_reducible ((repeat' first|apply bl|intro);all_goals repeat cases‹_/\_›)
  all_goals first|rfl|omega|exact(PA ‹_›).1|exact gL _ ‹_› |exact(OM _ _ _).symm|exact congrArg dA (OM _ _ _).symm|exact sf (by omega)|exact(Z2 _ _ _ _).symm|exact Z3 ‹_› (by omega)|exact gK _ _ _ ‹_› (by omega) ‹_› |exact gJ _ _ _ (by omega) ‹_› |exact PD ‹_› ‹_› ‹_› |exact Px ‹_› ‹_› |exact congrArg dA (PD ‹_› ‹_› ‹_›)|exact congrArg dA (Px ‹_› ‹_›)|exact PF ‹_› ‹_› |exact congrArg dA (PF ‹_› ‹_›)|exact gE _ ‹_› ‹_› ‹_› |grind)
noncomputable def t20:=t75.adk k20
section
section
variable (s:Shape) (v:List V) (T:Geo.Tab)
end
def Ue(l:List aH)(r:aH):kq (l++[r])=fw (kq l) r:=by unfold kq;grind
def TZ(s:Shape)(v:List V)(h:v.length<=80):(nM s v).length<=6400:=by have h1:=C5 s v v.length;have h2:v.length*v.length<=80*80:=tX h h;unfold nM;omega
section
variable {s:Shape} {v:List V} {T:Geo.Tab} {i j k:Nat}
end
def tri(a b c:V):aH:=if turn a b c<0 then [a,c,b]else [a,b,c]
def uV{s:Shape}(h:aj s=true):vOf s=cT (c7 s):=if_pos h
def F4{s:Shape}(h:aj s=true):dOf s=nM s (vOf s):=if_pos h
def F5(s:Shape):(dOf s).length<=6400:=by
 unfold dOf;split
 .exact TZ s _ (m7 s)
 .simp
end
def X5{a b:List aH}(hl:a.length=b.length)(h:∀j,j<a.length->aC a j=aC b j):a=b:=rT hl λi h1 h2=>by rw[<-je h1,<-je h2];exact h i h1
def X3{a b:List S}(hl:a.length=b.length)(h:∀j,j<a.length->aK a j=aK b j):a=b:=rT hl λi h1 h2=>by rw[<-eZ h1,<-eZ h2];exact h i h1
def kG(s:Shape):Nat->Int
 |0=>s.outer.length
 |k+1=>i7.wrap (kG s k+((aC s.holes k).length:Int))
def Jb:∀{l:List Nat} {x:Nat},x∈l->x<=l.sum
 |y::l,x,h=>by
  rcases bT.1 h with rfl|h
  .simp
  .have:=Jb h;simp;omega
def k8(s:Shape):Bool:=decide (kG s s.holes.length<=20)&&decide ((s.holes.length:Int)<=3)
def qG(s:Shape):Prop:=s.outer.length<=1000000000000000000/\s.holes.length<=1000000000000000000/\∀r∈s.holes,r.length<=1000000000000000000
def Jt{s:Shape}(hB:qG s):∀k,k<=s.holes.length->k<=3->kG s k=(jl s k:Int)/\kG s k<=1000000000000000000*((k:Int)+1)
 |0,_,_=>by have:=hB.1;rw[DR];exact⟨rfl,by show(s.outer.length:Int)<=_;omega⟩
 |k+1,h1,h2=>by
  obtain⟨g1,g2⟩:=Jt hB k (by omega) (by omega);have h3:=hB.2.2 _ (gD (show k<s.holes.length by omega));have h4:kG s (k+1)=i7.wrap (kG s k+((aC s.holes k).length:Int)):=rfl;rw[h4,IntWalk.i64_in _ (by omega),DT (by omega)];omega
def YX{s:Shape}(hB:qG s)(h:k8 s=true):Fit s:=by
 unfold k8 at h;simp only[BI]at h;have h1:=(Jt hB s.holes.length (bI _) (by omega)).1;rw[h1,J0]at h;have h2:gF s<=20:=by omega
 unfold gF at h2;have h3:∀r∈aD s,r.length<=20:=λr hr=>cF (Jb (bZ.2 ⟨r,hr,rfl⟩)) h2;exact⟨by have:=h3 s.outer (by simp[aD]);omega,by omega,λr hr=>by have:=h3 r (by simp[aD,hr]);omega⟩
noncomputable def c24:Con:=con (ac (aL .S) (a1 (aL .S))) (λ(a,_)=>[a.length<=1000000]) (λ(a,b)=> .bool (a==b))
def k24:c24.Okz 24:=ag t20 (λ(a,b)=>[cnt 4 5 a.length (aM λj=>aK a j=aK b j)]
  ) (λ(_,_)=>⟨_,rfl⟩) λ(a,b) hp=>aY (aA (a==b) λA=>aA (a.length:Int) λC=>(¬C=b.length->false=A)/\
 (¬(¬C=b.length)->(0=(0:Int)/\(0:Nat)<=a.length/\aM (λj=>aK a j=aK b j) 0)/\
  (∀x:Nat,aA (x:Int) λB=>x<=a.length/\aM (λj=>aK a j=aK b j) x->(B<a.length->ix B a.length/\ix B b.length/\(¬(aK a x)=(aK b x)->false=A)/\
    (¬(¬(aK a x)=(aK b x))->aE (B+1)/\B+1=((x+1:Nat):Int)/\x+1<=a.length/\aM (λj=>aK a j=aK b j) (x+1)/\a.length-(x+1)<a.length-x))/\
   (¬B<a.length->true=A)))) (by kernel_rfl) (by
  change a.length<=1000000 at hp;have h1:¬(a.length:Int)=b.length->false=(a==b):=λh=>by grind
  have h2:∀{x},¬aK a x=aK b x->false=(a==b):=λh=>by grind
  have h3:∀x:Nat,¬(x:Int)<a.length->aM (λj=>aK a j=aK b j) x->¬¬(a.length:Int)=b.length->true=(a==b):=λx h1 h2 h3=>by symm;rw[beq_iff_eq];exact X3 (by omega) λj hj=>h2 j (by omega)
  with_reducible ((repeat' first|apply bl|intro);all_goals repeat cases‹_/\_›)
  all_goals grind)
noncomputable def t24:=t20.adk k24
noncomputable def c25:Con:=con (ac (aL .R) (a1 (aL .R))) (λ(a,_)=>[a.length<=1000000,(∀r∈a,r.length<=100000)]) (λ(a,b)=> .bool (a==b))
def k25:c25.Okz 25:=ag t24 (λ(a,b)=>[cnt 4 5 a.length (aM λj=>aC a j=aC b j)]
  ) (λ(_,_)=>⟨_,rfl⟩) λ(a,b) hp=>aY (aA (a==b) λA=>aA (a.length:Int) λC=>(¬C=b.length->false=A)/\
 (¬(¬C=b.length)->(0=(0:Int)/\(0:Nat)<=a.length/\aM (λj=>aC a j=aC b j) 0)/\
  (∀x:Nat,aA (x:Int) λB=>aA (!aC a x==aC b x) λD=>x<=a.length/\aM (λj=>aC a j=aC b j) x->(B<a.length->ix B a.length/\ix B b.length/\(aC a x).length<=1000000/\(D=true->false=A)/\
    (D=false->aE (B+1)/\B+1=((x+1:Nat):Int)/\x+1<=a.length/\aM (λj=>aC a j=aC b j) (x+1)/\a.length-(x+1)<a.length-x))/\
   (¬B<a.length->true=A)))) (by kernel_rfl) (by
  change a.length<=1000000/\((∀r∈a,r.length<=100000))at hp;have h0:∀x,x<a.length->(aC a x).length<=1000000:=λx h=>cF (hp.2 _ (gD h)) (by decide);have h1:¬(a.length:Int)=b.length->false=(a==b):=λh=>by grind
  have h2:∀{x},(!aC a x==aC b x)=true->false=(a==b):=λh=>by grind
  have h3:∀x:Nat,¬(x:Int)<a.length->aM (λj=>aC a j=aC b j) x->¬¬(a.length:Int)=b.length->true=(a==b):=λx h1 h2 h3=>by symm;rw[beq_iff_eq];exact X5 (by omega) λj hj=>h2 j (by omega)
  have h4:∀{x},(!aC a x==aC b x)=false->aC a x=aC b x:=λh=>by simpa using h
  with_reducible ((repeat' first|apply bl|intro);all_goals repeat cases‹_/\_›)
  all_goals grind)
noncomputable def t25:=t24.adk k25
noncomputable def c16:Con:=con (a1 aSh) (λs=>[qG s]) (λs=> .bool (k8 s))
def k16:c16.Okz 16:=uo (mT t25.o) (raw:=λr i=>bH r 5&&bH i 7) (λs=>[lp 3 4 s.holes.length (λ_=>[]) [] (λk=>[(3,.int .i64 (kG s k))]) (λ_=>[])]
  ) (λ_=>⟨_,rfl⟩) λs hp=>aY ((0=(0:Int)/\(s.outer.length:Int)=kG s 0/\(0:Nat)<=s.holes.length)/\
 (∀x:Nat,aA (x:Int) λA=>x<=s.holes.length->(A<s.holes.length->ix A s.holes.length/\aE (A+1)/\A+1=((x+1:Nat):Int)/\IntKind.wrap i7 (kG s x+(aC s.holes x).length)=kG s (x+1)/\x+1<=s.holes.length/\s.holes.length-(x+1)<s.holes.length-x)/\
  (¬A<s.holes.length->(kG s x<=20->decide ((s.holes.length:Int)<=3)=k8 s)/\
   (¬kG s x<=20->false=k8 s)))) (by kernel_rfl) (by
  change qG s at hp;have hh:=hp.2.1;have e1:∀k:Nat,¬(k:Int)<s.holes.length->k<=s.holes.length->kG s k=kG s s.holes.length:=λk h1 h2=>by grind
  have e2:∀k:Nat,kG s k<=20->¬(k:Int)<s.holes.length->k<=s.holes.length->decide ((s.holes.length:Int)<=3)=k8 s:=λk h h1 h2=>by unfold k8;grind
  have e3:∀k:Nat,¬kG s k<=20->¬(k:Int)<s.holes.length->k<=s.holes.length->false=k8 s:=λk h h1 h2=>by unfold k8;grind
  with_reducible ((repeat' first|apply bl|intro);all_goals repeat cases‹_/\_›)
  all_goals first|rfl|exact e2 _ ‹_› ‹_› ‹_› |grind)
noncomputable def t16:=t25.adk k16
noncomputable def aDP:Con:=con (a1 aI) (λ_=>[]) (λ_=> .bool false
 )
def aCd:aDP.Okz 184:=ag t16 bW (λ_=>⟨_,rfl⟩) λx _=>aY (decide (¬x=x)=false) (by kernel_rfl) (by grind)
noncomputable def QY:=t16.adk aCd
noncomputable def aEt:Con:=con (ac aI (a1 aI)) (λ(_,_)=>[]) (λ(x,y)=> .iqz (aE2 x y)
 )
def aCR:aEt.Okz 137:=ag QY (λ(_,_)=>[]) (λ(_,_)=>⟨_,rfl⟩) λ(x,y) _=>aY ((false=true->(false=true->0=aE2 x y)/\
  (false=false-> -1=aE2 x y))/\
 (false=false->(false=true->1=aE2 x y)/\
  (false=false->(x<y-> -1=aE2 x y)/\
   (¬x<y->(y<x->1=aE2 x y)/\
    (¬y<x->0=aE2 x y))))) (by kernel_rfl) (by
  unfold aE2;grind)
noncomputable def RE:=QY.adk aCR
def orU(l:List Int)(k:Nat):Prop:=∀j,j<k->cv l j=0
def orL:List Int->Int
 |[] =>0
 |x::l=>if x=0 then orL l else x
def Oo:∀{l:List Int} {k:Nat},¬cv l k=0->orU l k->k<l.length->cv l k=orL l
 |[],k,_,_,h=>by simp at h
 |x::l,0,h,_,_=>by
  have h:¬x=0:=h;show x=orL (x::l);unfold orL;rw[if_neg h]
 |x::l,k+1,h,h2,h3=>by
  have h0:x=0:=h2 0 (by omega);show cv l k=orL (x::l);unfold orL;rw[if_pos h0];exact Oo h (λj hj=>h2 (j+1) (by omega)) (by grind)
def Ni:∀{l:List Int},orU l l.length->0=orL l
 |[],_=>rfl
 |x::l,h=>by
  have h0:x=0:=h 0 (by simp);unfold orL;rw[if_pos h0];exact Ni λj hj=>h (j+1) (by grind)
noncomputable def aEk:Con:=con (a1 (aL .I)) (λl=>[l.length<=1000]) (λl=> .iqz (orL l))
def aCI:aEk.Okz 148:=ag RE (λl=>[cnt 3 8 l.length (orU l)]
  ) (λ_=>⟨_,rfl⟩) λl hp=>aY ((0=(0:Int)/\(0:Nat)<=l.length/\orU l 0)/\
 (∀x:Nat,aA (x:Int) λA=>x<=l.length/\orU l x->(A<l.length->ix A l.length/\(¬cv l x=0->cv l x=orL l)/\
   (¬(¬cv l x=0)->aE (A+1)/\A+1=((x+1:Nat):Int)/\x+1<=l.length/\orU l (x+1)/\l.length-(x+1)<l.length-x))/\
  (¬A<l.length->0=orL l))) (by kernel_rfl) (by
  change l.length<=1000 at hp
  with_reducible ((repeat' first|apply bl|intro);all_goals repeat cases‹_/\_›)
  all_goals first|assumption|rfl|exact trivial|exact nb ‹_› |exact nb' ‹_› |omega|exact gH (by omega)|(unfold ix;omega)|(unfold aE;omega)|exact fz _|exact bz ‹_› ‹_› |(refine bz ‹_› ?_;simp_all;done)|exact Oo ‹_› ‹_› (by omega)|(obtain rfl:_=l.length:=tf ‹_› (by omega);exact Ni ‹_›)|(refine bz ‹_› ?_;exact rb ‹¬¬_›)|grind)
noncomputable def Q5:=RE.adk aCI
noncomputable def c78:Con:=con (ac aV (a1 aV)) (λ(_,_)=>[]) (λ(a,b)=> .iqz (bn a b)
 )
def k78:c78.Okz 78:=ag Q5 (λ(_,_)=>[]) (λ(_,_)=>⟨_,rfl⟩) λ(a,b) _=>aY ([aE2 a.y b.y,aE2 a.x b.x].length<=1000/\orL [aE2 a.y b.y,aE2 a.x b.x] =bn a b) (by kernel_rfl) (by refine⟨by simp,?_⟩;unfold bn;simp only[orL];grind)
noncomputable def t78:=Q5.adk k78
noncomputable def aDx:Con:=con (ac aV (a1 aV)) (λ(_,_)=>[]) (λ(a,b)=> .bool (bf a b)
 )
def aBV:aDx.Okz 220:=ag t78 (λ(_,_)=>[]) (λ(_,_)=>⟨_,rfl⟩) λ(a,b) _=>aY (decide (bn a b<0)=bf a b) (by kernel_rfl) (by unfold bf bn aE2;grind)
noncomputable def QH:=t78.adk aBV
noncomputable def aEM:Con:=con (ac aV (a1 aV)) (λ(a,b)=>[bd 2000000000 a,bd 2000000000 b]) (λ(a,b)=> .iqz (cross a b)
 )
def aDb:aEM.Okz 111:=ag QH (λ(_,_)=>[]) (λ(_,_)=>⟨_,rfl⟩) λ(a,b) hp=>aY (aE (a.x*b.y)/\aE (a.y*b.x)/\aE (a.x*b.y-a.y*b.x)/\a.x*b.y-a.y*b.x=cross a b) (by kernel_rfl) (by change bd 2000000000 a/\bd 2000000000 b at hp;have:=mv hp.1 hp.2;exact⟨bD (by omega),bD (by omega),bD (by omega),rfl⟩)
noncomputable def Ra:=QH.adk aDb
noncomputable def aEs:Con:=con (ac aV (a1 aV)) (λ(a,b)=>[bd 1000000000 a,bd 1000000000 b]) (λ(a,b)=>aV.enc (aE1 a b)
 )
def aCQ:aEs.Okz 138:=ag Ra (λ(_,_)=>[]) (λ(_,_)=>⟨_,rfl⟩) λ(a,b) hp=>aY (aE (a.x-b.x)/\aE (a.y-b.y)/\a.x-b.x=(aE1 a b).x/\a.y-b.y=(aE1 a b).y) (by kernel_rfl) (by change bd 1000000000 a/\bd 1000000000 b at hp;unfold bd at hp;exact⟨bD (by omega),bD (by omega),rfl,rfl⟩)
noncomputable def RD:=Ra.adk aCQ
noncomputable def c63:Con:=con (ac aV (ac aV (a1 aV))) (λ(a,b,c)=>[bd 1000000000 a,bd 1000000000 b,bd 1000000000 c]) (λ(a,b,c)=> .iqz (turn a b c)
 )
def k63:c63.Okz 63:=ag RD (λ(_,_,_)=>[]) (λ(_,_,_)=>⟨_,rfl⟩) λ(a,b,c) hp=>aY (bd 1000000000 b/\bd 1000000000 a/\bd 1000000000 c/\bd 1000000000 a/\bd 2000000000 (aE1 b a)/\bd 2000000000 (aE1 c a)/\aE2 (cross (aE1 b a) (aE1 c a)) 0=turn a b c) (by kernel_rfl) (by
 change bd 1000000000 a/\bd 1000000000 b/\bd 1000000000 c at hp;have e:∀n,aE2 n 0=sgn n:=λn=>by unfold aE2 sgn;grind
 exact⟨hp.2.1,hp.1,hp.2.2,hp.1,io hp.2.1 hp.1,io hp.2.2 hp.1,e _⟩)
noncomputable def t63:=RD.adk k63
noncomputable def aEr:Con:=con (ac aV (a1 aI)) (λ(_,m)=>[0<=m,m<=9000000000000000000]) (λ(a,m)=> .bool (bL a m)
 )
def aCP:aEr.Okz 139:=ag t63 (λ(_,_)=>[]) (λ(_,_)=>⟨_,rfl⟩) λ(a,m) hp=>aY (aE (0-m)/\(0-m<=a.x->(a.x<=m->aE (0-m)/\(0-m<=a.y->decide (a.y<=m)=bL a m)/\
   (¬0-m<=a.y->false=bL a m))/\
  (¬a.x<=m->false=bL a m))/\
 (¬0-m<=a.x->false=bL a m)) (by kernel_rfl) (by change 0<=m/\m<=9000000000000000000 at hp;unfold bL;have:= @aE;grind[aE])
noncomputable def RC:=t63.adk aCP
noncomputable def aEp:Con:=con (a1 aV) (λ_=>[]) (λa=>aT.enc (eJ a)
 )
def aCN:aEp.Okz 141:=ag RC bW (λ_=>⟨_,rfl⟩) λa _=>aY (aA (eJ a) λA=>a.x=A.x/\a.y=A.y/\1=A.den) (by kernel_rfl) (by exact⟨rfl,rfl,rfl⟩)
noncomputable def RA:=RC.adk aCN
def qL(b:S)(p:V):Bool:=decide (b.a.x<=p.x)&&decide (p.x<=b.b.x)&&decide (b.a.y<=p.y)&&decide (p.y<=b.b.y)
def bU(l:List V):Nat->S
 |0=>⟨aEY l 0,aEY l 0⟩
 |k+1=>⟨⟨min (bU l k).a.x (aEY l k).x,min (bU l k).a.y (aEY l k).y⟩,⟨max (bU l k).b.x (aEY l k).x,max (bU l k).b.y (aEY l k).y⟩⟩
noncomputable def aDr:Con:=con (ac aS (a1 aV)) (λ(_,_)=>[]) (λ(b,p)=> .bool (qL b p)
 )
def aBQ:aDr.Okz 228:=ag RA (λ(_,_)=>[]) (λ(_,_)=>⟨_,rfl⟩) λ(b,p) _=>aY ((b.a.x<=p.x->(p.x<=b.b.x->(b.a.y<=p.y->decide (p.y<=b.b.y)=qL b p)/\
   (¬b.a.y<=p.y->false=qL b p))/\
  (¬p.x<=b.b.x->false=qL b p))/\
 (¬b.a.x<=p.x->false=qL b p)) (by kernel_rfl) (by unfold qL;grind)
noncomputable def QD:=RA.adk aBQ
noncomputable def aDs:Con:=con (a1 (aL .V)) (λl=>[l.length<=1000]) (λl=> .tup [aS.enc (bU l l.length),.bool (decide (0<l.length))])
def aBR:aDs.Okz 227:=ag QD (λl=>[lp 5 19 l.length bW [] bW (λk=>[(12,.box 196 [.iqz (bU l k).a.x,.iqz (bU l k).a.y,.iqz (bU l k).b.x,.iqz (bU l k).b.y])])]
  ) (λ_=>⟨_,rfl⟩) λl hp=>aY (aA (bU l 0) λC=>aA (0:Nat) λF=>aA (aEY l 0) λG=>aA (bU l l.length) λI=>aA (l.length:Int) λJ=>(J=0->0=I.a.x/\0=I.a.y/\0=I.b.x/\0=I.b.y/\false=decide (F<l.length))/\
 (¬J=0->ix 0 l.length/\ix 0 l.length/\(0=(0:Int)/\G.x=C.a.x/\G.y=C.a.y/\G.x=C.b.x/\G.y=C.b.y/\F<=l.length)/\
  (∀x:Nat,aA (bU l x) λB=>aA (bU l (x+1)) λD=>aA (x:Int) λE=>aA (aEY l x) λH=>x<=l.length->(E<l.length->ix E l.length/\ix E l.length/\ix E l.length/\ix E l.length/\aE (E+1)/\E+1=((x+1:Nat):Int)/\Min.min B.a.x H.x=D.a.x/\Min.min B.a.y H.y=D.a.y/\Max.max B.b.x H.x=D.b.x/\Max.max B.b.y H.y=D.b.y/\x+1<=l.length/\l.length-(x+1)<l.length-x)/\
   (¬E<l.length->B.a.x=I.a.x/\B.a.y=I.a.y/\B.b.x=I.b.x/\B.b.y=I.b.y/\true=decide (F<l.length))))) (by kernel_rfl) (by
  change l.length<=1000 at hp;have eU:∀x:Nat,¬(x:Int)<l.length->x<=l.length->bU l x=bU l l.length:=λx h1 h2=>by grind
  with_reducible ((repeat' first|apply bl|intro);all_goals repeat cases‹_/\_›)
  all_goals first|rfl|(have h0:l=[] :=List.length_eq_zero_iff.1 (by omega);subst h0;rfl)|(rw[eU _ ‹_› ‹_›])|(symm;rw[decide_eq_false_iff_not];omega)|grind)
noncomputable def QE:=QD.adk aBR
noncomputable def aDD:Con:=con (ac aI (a1 aI)) (λ(a,b)=>[-9000000000000000000<=a,a<=9000000000000000000,-9000000000000000000<=b,b<=9000000000000000000]) (λ(a,b)=> .iqz ((bX a.natAbs b.natAbs:Nat):Int))
def aB1:aDD.Okz 209:=ag QE (λ(a,b)=>[(1,.mk (Int×Int) (λF _=>Hf F 0 1) [] (λp=>[p.1.natAbs<=9000000000000000000,p.2.natAbs<=9000000000000000000,bX p.1.natAbs p.2.natAbs=bX a.natAbs b.natAbs]) (λp=>[(0,.iqz p.1),(1,.iqz p.2)]) bW (λp=>p.2.natAbs) bW)]
  ) (λ(_,_)=>⟨_,rfl⟩) λ(a,b) hp=>aY (aA (cJ a) λA=>aA (cJ b) λB=>(a=a/\b=b/\cJ a<=9000000000000000000/\cJ b<=9000000000000000000/\bX A B=bX A B)/\
 (∀x:Prod Int Int,aA (cD x.1 x.2) λC=>cJ x.1<=9000000000000000000/\cJ x.2<=9000000000000000000/\bX (cJ x.1) (cJ x.2)=bX A B->(¬x.2=0->x.2≠0/\x.2=x.2/\cD x.1 x.2=cD x.1 x.2/\cJ x.snd<=9000000000000000000/\cJ C<=9000000000000000000/\bX (cJ x.snd) (cJ C)=bX A B/\cJ C<cJ x.2)/\
  (¬(¬x.2=0)->aE (0-x.1)/\Max.max x.1 (0-x.1)=bX A B))) (by kernel_rfl) (by
  change-9000000000000000000<=a/\a<=9000000000000000000/\ -9000000000000000000<=b/\b<=9000000000000000000 at hp;have e1:∀x y:Int,bX y.natAbs (cD x y).natAbs=bX x.natAbs y.natAbs:=λx y=>by rw[yu,yv,<-Nat.gcd_rec,yv]
  have e2:∀x y:Int,¬y=0->(cD x y).natAbs<y.natAbs:=λx y h=>by rw[yu];exact bq _ (by omega)
  have e3:∀(x y:Int) (g:Nat),bX x.natAbs y.natAbs=g->¬¬y=0->max x (0-x)=(g:Int):=λx y g h h2=>by rw[rb h2]at h;grind
  repeat' first|with_reducible apply bl|with_reducible intro
  all_goals repeat with_reducible cases‹_/\_›
  all_goals first|rfl|with_reducible solve_by_elim|(rw[e1];assumption)|exact trivial|exact nb ‹_› |exact nb' ‹_› |omega|exact gH (by omega)|(unfold ix;omega)|(unfold aE;omega)|exact fz _|exact bz ‹_› ‹_› |(refine bz ‹_› ?_;simp_all;done)|grind|grind)
noncomputable def QN:=QE.adk aB1
noncomputable def aDE:Con:=con (ac aT (a1 aI)) (λ(_,m)=>[0<=m,m<=1000000]) (λ(p,m)=> .bool (i8 p m)
 )
def aB2:aDE.Okz 208:=ag QN (λ(_,_)=>[]) (λ(_,_)=>⟨_,rfl⟩) λ(p,m) hp=>aY ((p.den<1->false=i8 p m)/\
 (¬p.den<1->(134217728<p.den->false=i8 p m)/\
  (¬134217728<p.den->aE (m*p.den)/\0<=m*p.den/\m*p.den<=9000000000000000000/\bL ⟨p.x,p.y⟩ (m*p.den)=i8 p m))) (by kernel_rfl) (by
  change 0<=m/\m<=1000000 at hp;unfold i8;have hm:¬p.den<1->¬134217728<p.den->aE (m*p.den)/\0<=m*p.den/\m*p.den<=9000000000000000000:=λh1 h2=>by have:=gG (x:=m) (y:=p.den) (A:=1000000) (B:=134217728) (by omega) (by omega);exact⟨bD (by omega),cV hp.1 (by omega),by omega⟩
  grind)
noncomputable def QO:=QN.adk aB2
noncomputable def aDO:Con:=con (a1 aT) (λ_=>[]) (λp=> .bool (dK p)
 )
def aCc:aDO.Okz 185:=ag QO bW (λ_=>⟨_,rfl⟩) λp _=>aY (aA (bX (cJ p.x) (cJ p.y):Int) λC=>(0:Int)<=4000/\(4000:Int)<=1000000/\(i8 p 4000=true-> -9000000000000000000<=p.x/\p.x<=9000000000000000000/\ -9000000000000000000<=p.y/\p.y<=9000000000000000000/\ -9000000000000000000<=C/\C<=9000000000000000000/\ -9000000000000000000<=p.den/\p.den<=9000000000000000000/\decide ((bX (cJ C) (cJ p.den):Int)=1)=dK p)/\
 (i8 p 4000=false->false=dK p)) (by kernel_rfl) (by
  have hB:i8 p 4000=true->PtB p:=λh=>by unfold i8 bL at h;simp only[bw,decide_eq_true_eq]at h;unfold PtB;omega
  have hn:∀n m B:Nat,n<=B->m<=B->bX n m<=B:=λn m B h1 h2=>by
   rcases qN n with e|e
   .grind
   .exact cF (Nat.gcd_le_left m e) h1
  have hg:PtB p->bX p.x.natAbs p.y.natAbs<=600000000000:=λh=>hn _ _ _ (by unfold PtB at h;omega) (by unfold PtB at h;omega);have ht:i8 p 4000=true->decide ((bX (cJ (bX (cJ p.x) (cJ p.y):Int)) (cJ p.den):Int)=1)=dK p:=λh=>by unfold dK;grind
  with_reducible ((repeat' first|apply bl|intro);all_goals repeat cases‹_/\_›)
  all_goals first|rfl|exact ht ‹_› |(have h1:=hB ‹_›;have h2:=hg h1;unfold PtB at h1;omega)|(unfold dK;grind)|grind)
noncomputable def QX:=QO.adk aCc
noncomputable def aDB:Con:=con (a1 aS) (λ_=>[]) (λs=> .bool (bJ s)
 )
def aBZ:aDB.Okz 216:=ag QX bW (λ_=>⟨_,rfl⟩) λs _=>aY ((0:Int)<=4000/\(4000:Int)<=9000000000000000000/\(bL s.a 4000=true->(0:Int)<=4000/\(4000:Int)<=9000000000000000000/\bL s.b 4000=bJ s)/\
 (bL s.a 4000=false->false=bJ s)) (by kernel_rfl) (by unfold bJ;grind)
noncomputable def QL:=QX.adk aBZ
noncomputable def aDz:Con:=con (ac aS (a1 aV)) (λ(_,_)=>[]) (λ(s,p)=> .bool (onS s p)
 )
def aBX:aDz.Okz 218:=ag QL (λ(_,_)=>[]) (λ(_,_)=>⟨_,rfl⟩) λ(s,p) _=>aY ([s.a,s.b].length<=1000/\(bJ s=true->(qL (bU [s.a,s.b] [s.a,s.b].length) p=true->bd 1000000000 s.a/\bd 1000000000 s.b/\bd 1000000000 p/\decide (turn s.a s.b p=0)=onS s p)/\
  (qL (bU [s.a,s.b] [s.a,s.b].length) p=false->false=onS s p))/\
 (bJ s=false->false=onS s p)) (by kernel_rfl) (by
  have e0:qL (bU [s.a,s.b] [s.a,s.b].length) p=fV s p:=by show(decide (min (min s.a.x s.a.x) s.b.x<=p.x)&&decide (p.x<=max (max s.a.x s.a.x) s.b.x)&&decide (min (min s.a.y s.a.y) s.b.y<=p.y)&&decide (p.y<=max (max s.a.y s.a.y) s.b.y))=_;rw[Int.min_self,Int.min_self,Int.max_self,Int.max_self];rfl
  rw[e0];have hv:∀{M:Int},bJ s=true->4000<=M->bd M s.a/\bd M s.b:=λh hM=>nB (by rw[h];rfl) hM;refine⟨by simp,λh=>⟨λh2=>⟨(hv h (by decide)).1,(hv h (by decide)).2,O3 (hv h (by decide)) h2,?_⟩,λh2=>by unfold onS;rw[h2];simp⟩,λh=>by unfold onS;rw[h];rfl⟩;unfold onS;grind)
noncomputable def QJ:=QL.adk aBX
noncomputable def aDy:Con:=con (a1 aV) (λ_=>[]) (λp=> .agg [.iqz 1,.iqz p.x,.iqz p.y,.iqz 1,.iqz 0,.iqz 0,.iqz 0,.iqz 0]
 )
def aBW:aDy.Okz 219:=ag QJ bW (λ_=>⟨_,rfl⟩) λp _=>aY (aA (0:Int) λA=>aA (eJ p) λB=>(1:Int)=1/\B.x=p.x/\B.y=p.y/\B.den=1/\A=0/\A=0/\A=0/\A=0) (by kernel_rfl) (by
 with_reducible ((repeat' first|apply bl|intro);all_goals repeat cases‹_/\_›)
 all_goals first|rfl|grind)
noncomputable def QI:=QJ.adk aBW
structure Com where
 k:Int
 p:Pt
 s:S
def SF(c:Com):SV:= .agg [.int .i64 c.k,.int .i64 c.p.x,.int .i64 c.p.y,.int .i64 c.p.den,.int .i64 c.s.a.x,.int .i64 c.s.a.y,.int .i64 c.s.b.x,.int .i64 c.s.b.y]
def cz:Com:=⟨0,⟨0,0,0⟩,⟨⟨0,0⟩,⟨0,0⟩⟩⟩
def lA(s t:S)(d:Int):Int:=if d<0 then-cross (aE1 t.a s.a) (aE1 t.b t.a)else cross (aE1 t.a s.a) (aE1 t.b t.a)
def lB(s t:S)(d:Int):Int:=if d<0 then-cross (aE1 t.a s.a) (aE1 s.b s.a)else cross (aE1 t.a s.a) (aE1 s.b s.a)
def lE(d:Int):Int:=if d<0 then-d else d
def lX(s t:S)(d:Int):Int:=s.a.x*lE d+lA s t d*(aE1 s.b s.a).x
def lY(s t:S)(d:Int):Int:=s.a.y*lE d+lA s t d*(aE1 s.b s.a).y
def lG(s t:S)(d:Int):Int:=((bX (bX (lX s t d).natAbs (lY s t d).natAbs:Int).natAbs (lE d).natAbs:Nat):Int)
def jh(s t:S)(d:Int):Com:=if oS s t d=0 then cz else⟨oS s t d,⟨(lX s t d).tdiv (lG s t d),(lY s t d).tdiv (lG s t d),(lE d).tdiv (lG s t d)⟩,cz.s⟩
def jO(key:Nat)(obs:List (Nat×SOb)):Nat×Ann:=(key+10000,.mk Unit (λ_ _=>some ()) [] (λ_=>[]) (λ_=>[]) (λ_=>obs) (λ_=>0) (λ_=>[]))
def aDo(c:Com):List SV:=[.int .i64 c.k,.int .i64 c.p.x,.int .i64 c.p.y,.int .i64 c.p.den,.int .i64 c.s.a.x,.int .i64 c.s.a.y,.int .i64 c.s.b.x,.int .i64 c.s.b.y]
def pT{x g B:Int}(h: -B<=x/\x<=B): -B<=x.tdiv g/\x.tdiv g<=B:=by have:=Int.natAbs_tdiv_le_natAbs x g;omega
def aAU{n m B:Nat}(h1:n<=B)(h2:m<=B):bX n m<=B:=by
 rcases qN n with e|e
 .grind
 .exact cF (Nat.gcd_le_left m e) h1
def z7{s t:S}{d:Int}(h:lA s t d<0\/lE d<lA s t d\/lB s t d<0\/lE d<lB s t d):jh s t d=cz:=if_pos (if_pos h)
def Jh{s t:S}{d:Int}(h1:¬lA s t d<0)(h2:¬lE d<lA s t d)(h3:¬lB s t d<0)(h4:¬lE d<lB s t d):oS s t d=if lA s t d=0\/lA s t d=lE d\/lB s t d=0\/lB s t d=lE d then 1 else 2:=if_neg (by simp only[not_or];exact⟨h1,h2,h3,h4⟩)
def Ji{s t:S}{d k:Int}(h:oS s t d=k)(hk:k≠0):jh s t d=⟨k,⟨(lX s t d).tdiv (lG s t d),(lY s t d).tdiv (lG s t d),(lE d).tdiv (lG s t d)⟩,cz.s⟩:=by unfold jh;grind
noncomputable def aDA:Con:=con (ac aS (ac aS (a1 aI))) (λ(s,t,d)=>[bJ s=true,bJ t=true,d≠0,-200000000<=d/\d<=200000000]) (λ(s,t,d)=>SF (jh s t d))
def aBY:aDA.Okz 217:=ag QI (λ(s,t,d)=>[jU 6 [(10,.iqz (lA s t d)),(11,.iqz (lB s t d)),(2,.iqz (lE d))],(9+10000,.mk Unit (λ_ _=>some ()) [] (λ_=>[¬lA s t d<0,¬lE d<lA s t d,¬lB s t d<0,¬lE d<lB s t d]) (λ_=>[(12,.iqz (lX s t d)),(13,.iqz (lY s t d))]) bW (λ_=>0) bW),
  jU 10 [(14,.iqz (lG s t d))],jO 13 [(59,.box 175 (aDo (jh s t d)))]]
  ) (λ(_,_,_)=>⟨_,rfl⟩) λ(s,t,d) hp=>aY (aA (lE d) λA=>aA (lG s t d) λB=>aA (lX s t d) λC=>aA (lY s t d) λD=>aA (jh s t d) λE=>aA (aE1 s.b s.a) λH=>aA (aE1 t.a s.a) λI=>aA (aE1 t.b t.a) λJ=>aA (bX (cJ C) (cJ D):Int) λK=>bd 1000000000 s.b/\bd 1000000000 s.a/\bd 1000000000 t.b/\bd 1000000000 t.a/\bd 1000000000 t.a/\bd 1000000000 s.a/\bd 2000000000 I/\bd 2000000000 J/\bd 2000000000 I/\bd 2000000000 H/\((d<0->aE (0-cross I J)/\aE (0-cross I H)/\aE (0-d)/\0-cross I J=lA s t d/\0-cross I H=lB s t d/\0-d=lE d)/\
  (¬d<0->cross I J=lA s t d/\cross I H=lB s t d/\d=lE d))/\
 (∀y:Unit,(lA s t d<0->0=E.k/\0=E.p.x/\0=E.p.y/\0=E.p.den/\0=E.s.a.x/\0=E.s.a.y/\0=E.s.b.x/\0=E.s.b.y)/\
  (¬lA s t d<0->(lE d<lA s t d->0=E.k/\0=E.p.x/\0=E.p.y/\0=E.p.den/\0=E.s.a.x/\0=E.s.a.y/\0=E.s.b.x/\0=E.s.b.y)/\
   (¬lE d<lA s t d->(lB s t d<0->0=E.k/\0=E.p.x/\0=E.p.y/\0=E.p.den/\0=E.s.a.x/\0=E.s.a.y/\0=E.s.b.x/\0=E.s.b.y)/\
    (¬lB s t d<0->(lE d<lB s t d->0=E.k/\0=E.p.x/\0=E.p.y/\0=E.p.den/\0=E.s.a.x/\0=E.s.a.y/\0=E.s.b.x/\0=E.s.b.y)/\
     (¬lE d<lB s t d->(aE (s.a.x*lE d)/\aE (lA s t d*H.x)/\aE (s.a.x*lE d+lA s t d*H.x)/\aE (s.a.y*lE d)/\aE (lA s t d*H.y)/\aE (s.a.y*lE d+lA s t d*H.y)/\s.a.x*lE d+lA s t d*H.x=lX s t d/\s.a.y*lE d+lA s t d*H.y=lY s t d/\¬lA s t d<0/\¬lE d<lA s t d/\¬lB s t d<0/\¬lE d<lB s t d)/\
      (∀y_1:Unit,¬lA s t d<0/\¬lE d<lA s t d/\¬lB s t d<0/\¬lE d<lB s t d->(-9000000000000000000<=lX s t d/\lX s t d<=9000000000000000000/\ -9000000000000000000<=lY s t d/\lY s t d<=9000000000000000000/\ -9000000000000000000<=K/\K<=9000000000000000000/\ -9000000000000000000<=lE d/\lE d<=9000000000000000000/\(bX (cJ K) (cJ A):Int)=lG s t d)/\
       (∀y_2:Unit,lG s t d≠0/\aE (eP C B)/\lG s t d≠0/\aE (eP D B)/\lG s t d≠0/\aE (eP A B)/\((lA s t d=0->1=E.k/\eP C B=E.p.x/\eP D B=E.p.y/\eP A B=E.p.den/\0=E.s.a.x/\0=E.s.a.y/\0=E.s.b.x/\0=E.s.b.y)/\
         (¬lA s t d=0->(lA s t d=lE d->1=E.k/\eP C B=E.p.x/\eP D B=E.p.y/\eP A B=E.p.den/\0=E.s.a.x/\0=E.s.a.y/\0=E.s.b.x/\0=E.s.b.y)/\
          (¬lA s t d=lE d->(lB s t d=0->1=E.k/\eP C B=E.p.x/\eP D B=E.p.y/\eP A B=E.p.den/\0=E.s.a.x/\0=E.s.a.y/\0=E.s.b.x/\0=E.s.b.y)/\
           (¬lB s t d=0->(lB s t d=lE d->1=E.k/\eP C B=E.p.x/\eP D B=E.p.y/\eP A B=E.p.den/\0=E.s.a.x/\0=E.s.a.y/\0=E.s.b.x/\0=E.s.b.y)/\
            (¬lB s t d=lE d->2=E.k/\eP C B=E.p.x/\eP D B=E.p.y/\eP A B=E.p.den/\0=E.s.a.x/\0=E.s.a.y/\0=E.s.b.x/\0=E.s.b.y)))))/\
        (∀y_3:Unit,E.k=E.k/\E.p.x=E.p.x/\E.p.y=E.p.y/\E.p.den=E.p.den/\E.s.a.x=E.s.a.x/\E.s.a.y=E.s.a.y/\E.s.b.x=E.s.b.x/\E.s.b.y=E.s.b.y))))))))) (by kernel_rfl) (by
  change bJ s=true/\bJ t=true/\d≠0/\(-200000000<=d/\d<=200000000)at hp;obtain⟨hs,ht,h0,hd⟩:=hp;have bs:bd 4000 s.a/\bd 4000 s.b:=nB (by rw[hs];rfl);have bt:bd 4000 t.a/\bd 4000 t.b:=nB (by rw[ht];rfl);have u1:=io bs.2 bs.1;have u2:=io bt.2 bt.1;have u3:=io bt.1 bs.1;have c1:=mv u3 u2;have c2:=mv u3 u1;have gM:∀{M:Int} {v:V},16000<=M->bd 4000 v->bd M v:=λh1 h2=>by unfold bd at*;omega
  have gN:∀{M:Int} {v:V},16000<=M->bd (4000+4000) v->bd M v:=λh1 h2=>by unfold bd at*;omega
  have a1: -128000000<=lA s t d/\lA s t d<=128000000:=by unfold lA cross;split<;>omega
  have e1: -200000000<=lE d/\lE d<=200000000:=by unfold lE;split<;>omega
  have e2:lE d≠0:=by unfold lE;split<;>omega
  have k1:aE (0-cross (aE1 t.a s.a) (aE1 t.b t.a)):=bD (by unfold cross;omega);have k2:aE (0-cross (aE1 t.a s.a) (aE1 s.b s.a)):=bD (by unfold cross;omega);have x1:=gG (A:=4000) (B:=200000000) bs.1.1 e1;have x2:=gG (A:=128000000) (B:=8000) a1 u1.1;have y1:=gG (A:=4000) (B:=200000000) bs.1.2 e1;have y2:=gG (A:=128000000) (B:=8000) a1 u1.2;have xB: -2000000000000<=lX s t d/\lX s t d<=2000000000000:=by unfold lX;omega
  have yB: -2000000000000<=lY s t d/\lY s t d<=2000000000000:=by unfold lY;omega
  have g1:bX (lX s t d).natAbs (lY s t d).natAbs<=2000000000000:=aAU (by omega) (by omega);have g2:lG s t d≠0:=by unfold lG;have:=Nat.gcd_pos_of_pos_right (bX (lX s t d).natAbs (lY s t d).natAbs:Int).natAbs (show 0<(lE d).natAbs by omega);omega
  have q1:=pT (g:=lG s t d) xB;have q2:=pT (g:=lG s t d) yB;have q3:=pT (g:=lG s t d) e1;have r1:aE (s.a.x*lE d):=bD (by omega);have r2:aE (lA s t d*(aE1 s.b s.a).x):=bD (by omega);have r3:aE (s.a.x*lE d+lA s t d*(aE1 s.b s.a).x):=bD (by omega);have r4:aE (s.a.y*lE d):=bD (by omega);have r5:aE (lA s t d*(aE1 s.b s.a).y):=bD (by omega);have r6:aE (s.a.y*lE d+lA s t d*(aE1 s.b s.a).y):=bD (by omega);have r7:aE ((lX s t d).tdiv (lG s t d)):=bD (by omega);have r8:aE ((lY s t d).tdiv (lG s t d)):=bD (by omega);have r9:aE ((lE d).tdiv (lG s t d)):=bD (by omega);have r10:aE (0-d):=bD (by omega);have f1:d<0->0-cross (aE1 t.a s.a) (aE1 t.b t.a)=lA s t d:=λh=>by unfold lA;omega
  have f2:d<0->0-cross (aE1 t.a s.a) (aE1 s.b s.a)=lB s t d:=λh=>by unfold lB;omega
  have f3:d<0->0-d=lE d:=λh=>by unfold lE;omega
  have f4:¬d<0->cross (aE1 t.a s.a) (aE1 t.b t.a)=lA s t d:=λh=>by unfold lA;rw[if_neg h]
  have f5:¬d<0->cross (aE1 t.a s.a) (aE1 s.b s.a)=lB s t d:=λh=>by unfold lB;rw[if_neg h]
  have f6:¬d<0->d=lE d:=λh=>by unfold lE;rw[if_neg h]
  have n1:lA s t d<0->jh s t d=cz:=λh=>z7 (.inl h);have n2:lE d<lA s t d->jh s t d=cz:=λh=>z7 (.inr (.inl h));have n3:lB s t d<0->jh s t d=cz:=λh=>z7 (.inr (.inr (.inl h)));have n4:lE d<lB s t d->jh s t d=cz:=λh=>z7 (.inr (.inr (.inr h)));have t0:¬lA s t d<0->¬lE d<lA s t d->¬lB s t d<0->¬lE d<lB s t d->lA s t d=0\/lA s t d=lE d\/lB s t d=0\/lB s t d=lE d->jh s t d=⟨1,⟨(lX s t d).tdiv (lG s t d),(lY s t d).tdiv (lG s t d),(lE d).tdiv (lG s t d)⟩,cz.s⟩:=λh1 h2 h3 h4 h=>Ji (by rw[Jh h1 h2 h3 h4,if_pos h]) (by decide);have t1:¬lA s t d<0->¬lE d<lA s t d->¬lB s t d<0->¬lE d<lB s t d->¬(lA s t d=0\/lA s t d=lE d\/lB s t d=0\/lB s t d=lE d)->jh s t d=⟨2,⟨(lX s t d).tdiv (lG s t d),(lY s t d).tdiv (lG s t d),(lE d).tdiv (lG s t d)⟩,cz.s⟩:=λh1 h2 h3 h4 h=>Ji (by rw[Jh h1 h2 h3 h4,if_neg h]) (by decide);have b1:=gM (M:=1000000000) (by decide) bs.1;have b2:=gM (M:=1000000000) (by decide) bs.2;have b3:=gM (M:=1000000000) (by decide) bt.1;have b4:=gM (M:=1000000000) (by decide) bt.2;have b5:=gN (M:=2000000000) (by decide) u1;have b6:=gN (M:=2000000000) (by decide) u2;have b7:=gN (M:=2000000000) (by decide) u3;have hX: -9000000000000000000<=lX s t d/\lX s t d<=9000000000000000000:=by omega
  have hY: -9000000000000000000<=lY s t d/\lY s t d<=9000000000000000000:=by omega
  have hE: -9000000000000000000<=lE d/\lE d<=9000000000000000000:=by omega
  have hG1: -9000000000000000000<=((bX (lX s t d).natAbs (lY s t d).natAbs:Nat):Int):=by omega
  have hG2:((bX (lX s t d).natAbs (lY s t d).natAbs:Nat):Int)<=9000000000000000000:=by omega
  clear hs ht h0 hd bs bt u1 u2 u3 c1 c2 gM gN a1 e1 e2 x1 x2 y1 y2 xB yB g1 q1 q2 q3;obtain⟨hX1,hX2⟩:=hX;obtain⟨hY1,hY2⟩:=hY;obtain⟨hE1,hE2⟩:=hE
  with_reducible ((repeat' first|apply bl|intro);all_goals repeat cases‹_/\_›)
  all_goals first|assumption|rfl|exact f1 ‹_› |exact f2 ‹_› |exact f3 ‹_› |exact f4 ‹_› |exact f5 ‹_› |exact f6 ‹_› |(rw[n1 ‹_›];rfl)|(rw[n2 ‹_›];rfl)|(rw[n3 ‹_›];rfl)|(rw[n4 ‹_›];rfl)|(rw[t0 ‹_› ‹_› ‹_› ‹_› (.inl ‹_›)] <;>rfl)|(rw[t0 ‹_› ‹_› ‹_› ‹_› (.inr (.inl ‹_›))] <;>rfl)|(rw[t0 ‹_› ‹_› ‹_› ‹_› (.inr (.inr (.inl ‹_›)))] <;>rfl)|(rw[t0 ‹_› ‹_› ‹_› ‹_› (.inr (.inr (.inr ‹_›)))] <;>rfl)|(rw[t1 ‹_› ‹_› ‹_› ‹_› (λh=>h.elim ‹_› λh=>h.elim ‹_› λh=>h.elim ‹_› ‹_›)] <;>rfl))
noncomputable def QK:=QI.adk aBY
def v2(v:V):List SV:=[.int .i64 v.x,.int .i64 v.y]
def tJ(v:V):Com:=⟨1,eJ v,cz.s⟩
def mQ(s t:S):Int:=cross (aE1 s.b s.a) (aE1 t.b t.a)
def nJ(s t:S):Com:=
 if bn (fC s t) (fN s t)=0 then tJ (fC s t)
 else if bn (fC s t) (fN s t)= -1 then⟨3,⟨0,0,0⟩,⟨fC s t,fN s t⟩⟩
 else cz
def mb1(s t:S):Bool:=decide (s.a=s.b)&&onS t s.a
def mb3(s t:S):Bool:=decide (s.a=s.b)||(decide (t.a=t.b)||decide (¬turn s.a s.b t.a=0))
def eI(s t:S):Com:=
 if(!bJ s)=true then cz
 else if(!bJ t)=true then cz
 else if¬mQ s t=0 then jh s t (mQ s t)
 else if mb1 s t=true then tJ s.a
 else if mb1 t s=true then tJ t.a
 else if mb3 s t=true then cz
 else nJ s t
noncomputable def aDK:Con:=con (ac aS (a1 aS)) (λ(_,_)=>[]) (λ(s,t)=>SF (eI s t))
def aB8:aDK.Okz 199:=ag QK (λ(s,t)=>[jb 7 36 (mb1 s t),jb 9 51 (mb1 t s),jb 11 66 (mb3 s t),jP 12 [eI s t=nJ s t],lU 14 3,jO 18 [(34,.box 189 (v2 (loS s)++v2 (hiS s)++v2 (loS t)++v2 (hiS t)))],jO 21 [(40,.box 44 (v2 (fC s t)))],jO 23 [(41,.box 44 (v2 (fN s t)))]]
  ) (λ(_,_)=>⟨_,rfl⟩) λ(s,t) _=>aY (aA (eI s t) λA=>aA (loS s) λB=>aA (hiS s) λC=>aA (loS t) λD=>aA (hiS t) λE=>aA (0+2:Int) λF=>aA (!bJ s) λG=>aA (!bJ t) λH=>aA (aE1 s.b s.a) λI=>aA (aE1 t.b t.a) λJ=>aA (jh s t (cross I J)) λL=>aA (fC s t) λM=>aA (fN s t) λN=>aA (0+2+2:Int) λO=>(G=true->0=A.k/\0=A.p.x/\0=A.p.y/\0=A.p.den/\0=A.s.a.x/\0=A.s.a.y/\0=A.s.b.x/\0=A.s.b.y)/\
 (G=false->(H=true->0=A.k/\0=A.p.x/\0=A.p.y/\0=A.p.den/\0=A.s.a.x/\0=A.s.a.y/\0=A.s.b.x/\0=A.s.b.y)/\
  (H=false->bd 1000000000 s.b/\bd 1000000000 s.a/\bd 1000000000 t.b/\bd 1000000000 t.a/\bd 2000000000 I/\bd 2000000000 J/\(¬cross I J=0->bJ s=true/\bJ t=true/\cross I J≠0/\(-200000000<=cross I J/\cross I J<=200000000)/\L.k=A.k/\L.p.x=A.p.x/\L.p.y=A.p.y/\L.p.den=A.p.den/\L.s.a.x=A.s.a.x/\L.s.a.y=A.s.a.y/\L.s.b.x=A.s.b.x/\L.s.b.y=A.s.b.y)/\
   (¬(¬cross I J=0)->(((s.a=s.b->onS t s.a=mb1 s t)/\
      (¬s.a=s.b->false=mb1 s t))/\
     (∀y:Unit,(mb1 s t=true->1=A.k/\s.a.x=A.p.x/\s.a.y=A.p.y/\1=A.p.den/\0=A.s.a.x/\0=A.s.a.y/\0=A.s.b.x/\0=A.s.b.y)/\
      (mb1 s t=false->((t.a=t.b->onS s t.a=mb1 t s)/\
        (¬t.a=t.b->false=mb1 t s))/\
       (∀y_1:Unit,(mb1 t s=true->1=A.k/\t.a.x=A.p.x/\t.a.y=A.p.y/\1=A.p.den/\0=A.s.a.x/\0=A.s.a.y/\0=A.s.b.x/\0=A.s.b.y)/\
        (mb1 t s=false->((s.a=s.b->true=mb3 s t)/\
          (¬s.a=s.b->(t.a=t.b->true=mb3 s t)/\
           (¬t.a=t.b->bd 1000000000 s.a/\bd 1000000000 s.b/\bd 1000000000 t.a/\decide (¬turn s.a s.b t.a=0)=mb3 s t)))/\
         (∀y_2:Unit,(mb3 s t=true->0=A.k/\0=A.p.x/\0=A.p.y/\0=A.p.den/\0=A.s.a.x/\0=A.s.a.y/\0=A.s.b.x/\0=A.s.b.y)/\
          (mb3 s t=false->eI s t=nJ s t)))))))/\
    (∀y:Unit,eI s t=nJ s t->(((0:Int)<4->aE (0+1)/\ix (0+1) 4/\ix 0 4/\(bf s.b s.a=true->aE (0+1)/\aE (0+1)/\ix (0+1) 4/\ix 0 4/\ix 0 4/\ix (0+1) 4/\aE (0+2)/\(F<4->aE (0+2+1)/\ix (0+2+1) 4/\ix (0+2) 4/\(bf t.b t.a=true->aE (0+2+1)/\aE (0+2+1)/\ix (0+2+1) 4/\ix (0+2) 4/\ix (0+2) 4/\ix (0+2+1) 4/\aE (0+2+2)/\(O<4->aE (0+2+2+1)/\ix (0+2+2+1) 4/\False)/\
          (¬O<4->s.b.x=B.x/\s.b.y=B.y/\s.a.x=C.x/\s.a.y=C.y/\t.b.x=D.x/\t.b.y=D.y/\t.a.x=E.x/\t.a.y=E.y))/\
         (bf t.b t.a=false->aE (0+2+2)/\(O<4->aE (0+2+2+1)/\ix (0+2+2+1) 4/\False)/\
          (¬O<4->s.b.x=B.x/\s.b.y=B.y/\s.a.x=C.x/\s.a.y=C.y/\t.a.x=D.x/\t.a.y=D.y/\t.b.x=E.x/\t.b.y=E.y)))/\
        (¬F<4->s.b.x=B.x/\s.b.y=B.y/\s.a.x=C.x/\s.a.y=C.y/\t.a.x=D.x/\t.a.y=D.y/\t.b.x=E.x/\t.b.y=E.y))/\
       (bf s.b s.a=false->aE (0+2)/\(F<4->aE (0+2+1)/\ix (0+2+1) 4/\ix (0+2) 4/\(bf t.b t.a=true->aE (0+2+1)/\aE (0+2+1)/\ix (0+2+1) 4/\ix (0+2) 4/\ix (0+2) 4/\ix (0+2+1) 4/\aE (0+2+2)/\(O<4->aE (0+2+2+1)/\ix (0+2+2+1) 4/\False)/\
          (¬O<4->s.a.x=B.x/\s.a.y=B.y/\s.b.x=C.x/\s.b.y=C.y/\t.b.x=D.x/\t.b.y=D.y/\t.a.x=E.x/\t.a.y=E.y))/\
         (bf t.b t.a=false->aE (0+2+2)/\(O<4->aE (0+2+2+1)/\ix (0+2+2+1) 4/\False)/\
          (¬O<4->s.a.x=B.x/\s.a.y=B.y/\s.b.x=C.x/\s.b.y=C.y/\t.a.x=D.x/\t.a.y=D.y/\t.b.x=E.x/\t.b.y=E.y)))/\
        (¬F<4->s.a.x=B.x/\s.a.y=B.y/\s.b.x=C.x/\s.b.y=C.y/\t.a.x=D.x/\t.a.y=D.y/\t.b.x=E.x/\t.b.y=E.y)))/\
      (¬(0:Int)<4->s.a.x=B.x/\s.a.y=B.y/\s.b.x=C.x/\s.b.y=C.y/\t.a.x=D.x/\t.a.y=D.y/\t.b.x=E.x/\t.b.y=E.y))/\
     (∀y_1:Unit,ix 0 4/\ix 1 4/\(ix 2 4/\(bf B D=true->ix 2 4/\D.x=M.x/\D.y=M.y)/\
       (bf B D=false->B.x=M.x/\B.y=M.y))/\
      (∀y_2:Unit,(ix 3 4/\(bf E C=true->ix 3 4/\E.x=N.x/\E.y=N.y)/\
        (bf E C=false->C.x=N.x/\C.y=N.y))/\
       (∀y_3:Unit,(bn M N=0->1=A.k/\M.x=A.p.x/\M.y=A.p.y/\1=A.p.den/\0=A.s.a.x/\0=A.s.a.y/\0=A.s.b.x/\0=A.s.b.y)/\
        (¬bn M N=0->(bn M N= -1->3=A.k/\0=A.p.x/\0=A.p.y/\0=A.p.den/\M.x=A.s.a.x/\M.y=A.s.a.y/\N.x=A.s.b.x/\N.y=A.s.b.y)/\
         (¬bn M N= -1->0=A.k/\0=A.p.x/\0=A.p.y/\0=A.p.den/\0=A.s.a.x/\0=A.s.a.y/\0=A.s.b.x/\0=A.s.b.y)))))))))) (by kernel_rfl) (by
  have gB:(!bJ s)=false->(!bJ t)=false-> -200000000<=mQ s t/\mQ s t<=200000000:=λh1 h2=>by have bs:bd 4000 s.a/\bd 4000 s.b:=nB h1;have bt:bd 4000 t.a/\bd 4000 t.b:=nB h2;have c1:=mv (io bs.2 bs.1) (io bt.2 bt.1);unfold mQ cross;omega
  have gM:∀{r:S} {M:Int},8000<=M->(!bJ r)=false->bd M r.a/\bd M r.b/\bd M (aE1 r.b r.a):=λhM h=>by have b:=nB h (M:=4000);have c:=io b.2 b.1;unfold bd at*;omega
  have e1:(!bJ s)=true->eI s t=cz:=λh=>if_pos h;have e2:(!bJ t)=true->eI s t=cz:=λh=>by unfold eI;grind
  have e3:(!bJ s)=false->(!bJ t)=false->¬mQ s t=0->eI s t=jh s t (mQ s t):=λh1 h2 h3=>by unfold eI;grind
  have e4:(!bJ s)=false->(!bJ t)=false->¬¬mQ s t=0->mb1 s t=true->eI s t=tJ s.a:=λh1 h2 h3 h4=>by unfold eI;grind
  have e5:(!bJ s)=false->(!bJ t)=false->¬¬mQ s t=0->mb1 s t=false->mb1 t s=true->eI s t=tJ t.a:=λh1 h2 h3 h4 h5=>by unfold eI;grind
  have e6:(!bJ s)=false->(!bJ t)=false->¬¬mQ s t=0->mb1 s t=false->mb1 t s=false->mb3 s t=true->eI s t=cz:=λh1 h2 h3 h4 h5 h6=>by unfold eI;grind
  have e7:(!bJ s)=false->(!bJ t)=false->¬¬mQ s t=0->mb1 s t=false->mb1 t s=false->mb3 s t=false->eI s t=nJ s t:=λh1 h2 h3 h4 h5 h6=>by unfold eI;grind
  have e8:eI s t=nJ s t->bn (fC s t) (fN s t)=0->eI s t=tJ (fC s t):=λh h1=>by rw[h];exact if_pos h1
  have e9:eI s t=nJ s t->¬bn (fC s t) (fN s t)=0->bn (fC s t) (fN s t)= -1->eI s t=⟨3,⟨0,0,0⟩,⟨fC s t,fN s t⟩⟩:=λh h1 h2=>by rw[h];unfold nJ;grind
  have e10:eI s t=nJ s t->¬bn (fC s t) (fN s t)=0->¬bn (fC s t) (fN s t)= -1->eI s t=cz:=λh h1 h2=>by rw[h];unfold nJ;grind
  have q1:s.a=s.b->true=mb3 s t:=λh=>by unfold mb3;grind
  have q2:t.a=t.b->true=mb3 s t:=λh=>by unfold mb3;grind
  have q3:¬s.a=s.b->¬t.a=t.b->decide (¬turn s.a s.b t.a=0)=mb3 s t:=λh1 h2=>by unfold mb3;grind
  have q4:∀{s t:S},s.a=s.b->onS t s.a=mb1 s t:=λh=>by unfold mb1;grind
  have q5:∀{s t:S},¬s.a=s.b->false=mb1 s t:=λh=>by unfold mb1;grind
  have w1:∀{r:S},bf r.b r.a=true->r.b=loS r/\r.a=hiS r:=λh=>by unfold loS hiS;grind
  have w2:∀{r:S},bf r.b r.a=false->r.a=loS r/\r.b=hiS r:=λh=>by unfold loS hiS;grind
  have w3:bf (loS s) (loS t)=true->loS t=fC s t:=λh=>by unfold fC;rw[h];rfl
  have w4:bf (loS s) (loS t)=false->loS s=fC s t:=λh=>by unfold fC;rw[h];rfl
  have w5:bf (hiS t) (hiS s)=true->hiS t=fN s t:=λh=>by unfold fN;rw[h];rfl
  have w6:bf (hiS t) (hiS s)=false->hiS s=fN s t:=λh=>by unfold fN;rw[h];rfl
  with_reducible ((repeat' first|apply bl|intro);all_goals repeat cases‹_/\_›)
  all_goals first|assumption|rfl|(unfold ix;omega)|(unfold aE;omega)|omega|exact nb ‹_› |exact q1 ‹_› |exact q2 ‹_› |exact q3 ‹_› ‹_› |exact q4 ‹_› |exact q5 ‹_› |(rw[e1 ‹_›] <;>rfl)|(rw[e2 ‹_›] <;>rfl)|(rw[e3 ‹_› ‹_› ‹_›] <;>rfl)|(rw[e4 ‹_› ‹_› ‹_› ‹_›] <;>rfl)|(rw[e5 ‹_› ‹_› ‹_› ‹_› ‹_›] <;>rfl)|(rw[e6 ‹_› ‹_› ‹_› ‹_› ‹_› ‹_›] <;>rfl)|exact e7 ‹_› ‹_› ‹_› ‹_› ‹_› ‹_› |(rw[e8 ‹_› ‹_›] <;>rfl)|(rw[e9 ‹_› ‹_› ‹_›] <;>rfl)|(rw[e10 ‹_› ‹_› ‹_›] <;>rfl)|exact(gB ‹_› ‹_›).1|exact(gB ‹_› ‹_›).2|exact(gM (by decide) ‹_›).1|exact(gM (by decide) ‹_›).2.1|exact(gM (by decide) ‹_›).2.2|(rw[<-(w1 ‹_›).1];done)|(rw[<-(w1 ‹_›).2];done)|(rw[<-(w2 ‹_›).1];done)|(rw[<-(w2 ‹_›).2];done)|(rw[w3 ‹_›];done)|(rw[w4 ‹_›];done)|(rw[w5 ‹_›];done)|(rw[w6 ‹_›];done))
noncomputable def QT:=QK.adk aB8
def YE(s t:S)(d:Int):(jh s t d).k=oS s t d:=by
 unfold jh;split
 .rename_i h;rw[h];rfl
 .rfl
def Zi(s t:S):(eI s t).k=cC s t:=by
 have hc:(cz).k=0:=rfl;have h1:∀v,(tJ v).k=1:=λ_=>rfl;have e1:mb1 s t=true↔s.a=s.b/\onS t s.a=true:=by unfold mb1;simp
 have e2:mb1 t s=true↔t.a=t.b/\onS s t.a=true:=by unfold mb1;simp
 have e3:mb3 s t=true↔s.a=s.b\/t.a=t.b\/turn s.a s.b t.a≠0:=by unfold mb3;simp
 unfold eI cC nJ;rw[<-mQ];simp only[<-e1,<-e2,<-e3];cases bJ s<;>cases bJ t<;>simp only[yY,Bool.not_false,Bool.and_true,Bool.and_false,if_true,qM,if_false,hc,ne_eq]
 repeat' split
 all_goals first|rfl|exact YE _ _ _
noncomputable def aEd:Con:=con (ac aS (a1 aS)) (λ(_,_)=>[]) (λ(s,t)=> .iqz (cC s t)
 )
def aCC:aEd.Okz 156:=ag QT (λ(_,_)=>[]) (λ(_,_)=>⟨_,rfl⟩) λ(s,t) _=>aY ((eI s t).k=cC s t) (by kernel_rfl) (by exact Zi s t)
noncomputable def Qw:=QT.adk aCC
noncomputable def aEf:Con:=con (ac (aL .V) (a1 aN)) (λ(r,i)=>[i<r.length,r.length<=1000000]) (λ(r,i)=>aV.enc (prv r i)
 )
def aCE:aEf.Okz 153:=ag Qw (λ(_,_)=>[]) (λ(_,_)=>⟨_,rfl⟩) λ(r,i) hp=>aY (aE ((i:Int)+r.length)/\aE ((i:Int)+r.length-1)/\(r.length:Int)≠0/\ix (cD ((i:Int)+r.length-1) (r.length:Int)) r.length/\(aEY r (cD ((i:Int)+r.length-1) (r.length:Int)).toNat).x=(prv r i).x/\(aEY r (cD ((i:Int)+r.length-1) (r.length:Int)).toNat).y=(prv r i).y) (by kernel_rfl) (by
 change i<r.length/\r.length<=1000000 at hp;have h:cD ((i:Int)+r.length-1) (r.length:Int)=(((i+r.length-1) % r.length:Nat):Int):=by rw[show(i:Int)+r.length-1=((i+r.length-1:Nat):Int) by omega,<-Int.ofNat_tmod]
 rw[h];exact⟨bD (by omega),bD (by omega),by omega,gH (by omega),rfl,rfl⟩)
noncomputable def Qz:=Qw.adk aCE
noncomputable def aEe:Con:=con (ac (aL .V) (a1 aN)) (λ(r,i)=>[i<r.length,r.length<=1000000]) (λ(r,i)=>aV.enc (nxt r i)
 )
def aCD:aEe.Okz 154:=ag Qz (λ(_,_)=>[]) (λ(_,_)=>⟨_,rfl⟩) λ(r,i) hp=>aY (aA ((i+1) % r.length) λA=>aE ((i:Int)+1)/\(r.length:Int)≠0/\ix (((i+1) % r.length:Nat):Int) r.length/\(aEY r A).x=(nxt r i).x/\(aEY r A).y=(nxt r i).y) (by kernel_rfl) (by change i<r.length/\r.length<=1000000 at hp;exact⟨bD (by omega),by omega,gH (by omega),rfl,rfl⟩)
noncomputable def Qy:=Qz.adk aCD
noncomputable def R6:Con:=yQ (a1 (aL .V)) (λr=>[r.length<=1000]) 46 .S (λr=>aJ r) (λ_=>[])
def Rx:R6.Okz 155:=A8 (mT Qy.o) (raw:=rB) (λr=>[lp 5 11 r.length bW [21] (λk=>[(3,.own 21 .S k)]) (λk=>[(21,.row 46 .S ((aJ r).take k))])]
  ) (λ_=>⟨[],rfl⟩) λr hp=>aY (aA (aJ r) λB=>aA (r.length:Int) λG=>aA ([] :List S) λH=>(G<2->aJ r=H)/\
 (¬G<2->(0=(0:Int)/\(0:Nat)=0/\aP 0 B=H/\(0:Nat)<=r.length)/\
  (∀x:Nat,aA (x:Int) λA=>aA (aP x B) λE=>aA (⟨(aEY r x),(nxt r x)⟩:S) λF=>x<=r.length->(A<r.length->ix A r.length/\x<r.length/\r.length<=1000000/\x=E.length/\E.length+[F].length<=1000000/\aE (A+1)/\A+1=((x+1:Nat):Int)/\(aP x B++[F]).length=x+1/\aP x B++[F] =aP (x+1) B/\x+1<=r.length/\r.length-(x+1)<r.length-x)/\
   (¬A<r.length->aP x B=aJ r/\x=E.length)))) (by kernel_rfl) (by
  change r.length<=1000 at hp;have e0:(r.length:Int)<2->aJ r=[] :=λh=>by unfold aJ;grind
  have e1:¬(r.length:Int)<2->(aJ r).length=r.length:=λh=>wK r (by omega);have e2:¬(r.length:Int)<2->∀x:Nat,(x:Int)<r.length->aP x (aJ r)++[⟨aEY r x,nxt r x⟩] =aP (x+1) (aJ r):=λh x hx=>by
   have hx':x<(aJ r).length:=by rw[e1 h];omega
   rw[iR hx',<-eZ hx',wU (by omega) (by omega)];rfl
  have e3:¬(r.length:Int)<2->∀x:Nat,x<=r.length->(aP x (aJ r)).length=x:=λh x hx=>by grind
  have e4:¬(r.length:Int)<2->∀x:Nat,¬(x:Int)<r.length->aP x (aJ r)=aJ r:=λh x hx=>fT (by omega)
  with_reducible ((repeat' first|apply bl|intro);all_goals repeat cases‹_/\_›)
  all_goals grind)
noncomputable def Qx:=Qy.adk Rx
noncomputable def aEg:Con:=con (a1 (aL .V)) (λr=>[near r=true,r.length<=100000]) (λr=> .iqz (area r))
def aCF:aEg.Okz 152:=ag Qx (λr=>[lp 3 8 r.length bW [] (λk=>[(3,.iqz (ar r k))]) bW]
  ) (λ_=>⟨_,rfl⟩) λr hp=>aY ((0=(0:Int)/\0=ar r 0/\(0:Nat)<=r.length)/\
 (∀x:Nat,aA (x:Int) λA=>aA (aEY r x) λB=>aA (nxt r x) λC=>x<=r.length->(A<r.length->ix A r.length/\x<r.length/\r.length<=1000000/\bd 2000000000 B/\bd 2000000000 C/\aE (ar r x+cross B C)/\aE (A+1)/\A+1=((x+1:Nat):Int)/\ar r x+cross B C=ar r (x+1)/\x+1<=r.length/\r.length-(x+1)<r.length-x)/\
  (¬A<r.length->ar r x=area r))) (by kernel_rfl) (by
  change near r=true/\r.length<=100000 at hp;have hn:=λi hi=> @lQ r hp.1 i hi 2000000000;have ha:=λk (hk:k<=r.length)=>vE hp.1 k hk;have hs:=BD r;have hE:∀x:Nat,¬(x:Int)<r.length->x<=r.length->ar r x=area r:=λx h1 h2=>by rw[show x=r.length by omega];rfl
  have hI:∀x:Nat,(x:Int)<r.length->aE (ar r x+cross (aEY r x) (nxt r x)):=λx h=>by have h1:=ha (x+1) (by omega);rw[hs x]at h1;exact bD (by unfold nxt;omega)
  with_reducible ((repeat' first|apply bl|intro);all_goals repeat cases‹_/\_›)
  all_goals first|rfl|with_reducible solve_by_elim|exact hn _ (by omega) (by decide)|exact hn _ (bq _ (by omega)) (by decide)|exact(hs _).symm|grind)
noncomputable def Q0:=Qx.adk aCF
noncomputable def aDL:Con:=con (a1 aV) (λ_=>[]) (λv=> .bool (!bL v 2000)
 )
def aB9:aDL.Okz 198:=ag Q0 bW (λ_=>⟨_,rfl⟩) λv _=>aY (aA (!bL v 2000) λA=>(0:Int)<=2000/\(2000:Int)<=9000000000000000000/\A=A) (by kernel_rfl) (by grind)
noncomputable def QU:=Q0.adk aB9
def aF(f:Nat):Ar Unit where
 enc _:= .fnp f [] []
 dec s:=match s with
  | .fnp g [] [] =>(match bH g f with|true=>some ()|false=>none)
  |_=>none
 ok s a h:=by
  split at h
  .split at h<;>cases h;simp_all
  .cases h
 pl _:=⟨_,rfl⟩
def fI{α:Type}(q:α->Bool)(l:List α):Int:=match l.findIdx? q with
 |some i=>(i:Int)
 |none=> -1
def qE{t:LT}{l:List t.ty}{q:t.ty->Bool}{k:Nat}(hk:k<l.length)(h:q (t.nth l k)=true)(hu:aM (λj=>q (t.nth l j)=false) k):(k:Int)=fI q l:=by
 have e:l.findIdx? q=some k:=by rw[List.findIdx?_eq_some_iff_getElem];refine⟨hk,by rw[<-t.nth_eq l hk];exact h,λj hj=> ?_⟩;have:=hu j hj;dsimp only at this;rw[t.nth_eq l (by omega)]at this;rw[this];simp
 unfold fI;rw[e]
def sm{t:LT}{l:List t.ty}{q:t.ty->Bool}(hu:aM (λj=>q (t.nth l j)=false) l.length): -1=fI q l:=by
 have e:l.findIdx? q=none:=by rw[List.findIdx?_eq_none_iff];intro x hx;obtain⟨j,hj,rfl⟩:=jX hx;have:=hu j hj;dsimp only at this;rwa[t.nth_eq l hj]at this
 unfold fI;rw[e]
def um{α:Type}(q:α->Bool)(l:List α):decide (0<=fI q l)=l.any q:=by unfold fI;grind
noncomputable def aDC:Con:=con (ac (aL .V) (a1 (aF 198))) (λ(l,_)=>[l.length<=1000000]) (λ(l,_)=> .iqz (fI (λv=> !bL v 2000) l))
def aB0:aDC.Okz 215:=ag QU (λ(l,_)=>[cnt 2 8 l.length (aM λj=>(!bL (aEY l j) 2000)=false)]
  ) (λ(_,_)=>⟨_,rfl⟩) λ(l,u) hp=>aY ((0=(0:Int)/\(0:Nat)<=l.length/\aM (λj=>(!bL (aEY l j) 2000)=false) 0)/\
 (∀x:Nat,aA (x:Int) λA=>aA (!bL (aEY l x) 2000) λB=>x<=l.length/\aM (λj=>(!bL (aEY l j) 2000)=false) x->(A<l.length->ix A l.length/\(B=true->A=fI (λv=>(!bL v 2000)) l)/\
   (B=false->aE (A+1)/\A+1=((x+1:Nat):Int)/\x+1<=l.length/\aM (λj=>(!bL (aEY l j) 2000)=false) (x+1)/\l.length-(x+1)<l.length-x))/\
  (¬A<l.length-> -1=fI (λv=>(!bL v 2000)) l))) (by kernel_rfl) (by
  change l.length<=1000000 at hp
  with_reducible ((repeat' first|apply bl|intro);all_goals repeat cases‹_/\_›)
  all_goals first|rfl|exact qE (t:= .V) (by omega) ‹_› ‹_› |(obtain rfl:_=l.length:=tf ‹_› (by omega);exact sm (t:= .V) ‹_›)|grind)
noncomputable def QM:=QU.adk aB0
noncomputable def aDM:Con:=con (ac (aL .V) (a1 (aF 198))) (λ(l,_)=>[l.length<=1000000]) (λ(l,_)=> .bool (l.any λv=> !bL v 2000)
 )
def aCa:aDM.Okz 197:=ag QM (λ(_,_)=>[]) (λ(_,_)=>⟨_,rfl⟩) λ(l,u) hp=>aY (l.length<=1000000/\decide (0<=fI (λv=>(!bL v 2000)) l)=fe l (λv=>(!bL v 2000))) (by kernel_rfl) (by change l.length<=1000000 at hp;exact⟨hp,um _ _⟩)
noncomputable def QV:=QM.adk aCa
noncomputable def aEh:Con:=con (a1 (aL .V)) (λl=>[l.length<=1000000]) (λl=> .bool (near l)
 )
def aCG:aEh.Okz 151:=ag QV bW (λ_=>⟨_,rfl⟩) λl hp=>aY (l.length<=1000000/\(!fe l (λv=>(!bL v 2000)))=near l) (by kernel_rfl) (by change l.length<=1000000 at hp;refine⟨hp,?_⟩;unfold near;grind)
noncomputable def Q1:=QV.adk aCG
def tP(r:aH)(i:Nat):Prop:=¬turn (prv r i) (aEY r i) (nxt r i)=0
def fh(r:aH)(i k:Nat):Bool:=(decide (¬(k:Int)=i+1)&&(decide (¬(i:Int)=0)||decide (¬(k:Int)=r.length-1)))&&decide (¬cC (bP r i) (bP r k)=0)
def up2{p:Nat->Nat->Prop}{i k n:Nat}(h:∀j,i<j->j<k->p i j)(hk:¬(k:Int)<n):∀j,i<j->j<n->p i j:=λj h1 h2=>h j h1 (by omega)
def DH(r:aH):co r=true↔3<=r.length/\r.length<=40/\near r=true/\0<area r/\(∀i,i<r.length->tP r i)/\(∀i k,i<k->k<r.length->fh r i k=false):=by unfold co tP fh;simp only[bw,decide_eq_true_eq,bk,cG,jv,bne_iff_ne,beq_iff_eq,Bool.and_eq_false_imp,decide_eq_false_iff_not,ne_eq,and_assoc,SL];grind
noncomputable def c83:Con:=con (a1 (aL .V)) (λr=>[r.length<=1000]) (λr=> .bool (co r))
def k83:c83.Okz 83:=ag Q1 (λr=>[jP 4 [3<=r.length,r.length<=40,near r=true,0<area r],cnt 5 29 r.length (aM (tP r)),lp 12 47 r.length (λi=>[aM (λi=>∀k,i<k->k<r.length->fh r i k=false) i]) [] bW bW λi=>[(15,.mk Nat (λF _=>mP F 8) [] (λk=>[i<k,k<=r.length,∀j,i<j->j<k->fh r i j=false]) (λk=>[(8,.iqz (k:Int))]) bW (λk=>r.length-k) λk=>[jb 18 82 (fh r i k)])]]
  ) (λ_=>⟨_,rfl⟩) λr hp=>aY (aA (aJ r) λD=>aA (r.length:Int) λI=>((I<3->false=co r)/\
  (¬I<3->(40<I->false=co r)/\
   (¬40<I->r.length<=1000000/\((!near r)=true->false=co r)/\
    ((!near r)=false->near r=true/\r.length<=100000/\(area r<=0->false=co r)/\
     (¬area r<=0->(3:Nat)<=r.length/\r.length<=40/\near r=true/\0<area r)))))/\
 (∀y:Unit,(3:Nat)<=r.length/\r.length<=40/\near r=true/\0<area r->(0=(0:Int)/\(0:Nat)<=r.length/\aM (tP r) 0)/\
  (∀x:Nat,aA (x:Int) λA=>aA (prv r x) λE=>aA (aEY r x) λF=>aA (nxt r x) λG=>x<=r.length/\aM (tP r) x->(A<r.length->ix A r.length/\x<r.length/\r.length<=1000000/\x<r.length/\r.length<=1000000/\bd 1000000000 E/\bd 1000000000 F/\bd 1000000000 G/\(turn E F G=0->false=co r)/\
    (¬turn E F G=0->aE (A+1)/\A+1=((x+1:Nat):Int)/\x+1<=r.length/\aM (tP r) (x+1)/\r.length-(x+1)<r.length-x))/\
   (¬A<r.length->r.length<=1000/\(0=(0:Int)/\(0:Nat)<=r.length/\aM (λi=>∀k:Nat,i<k->k<r.length->fh r i k=false) 0)/\
    (∀x_1:Nat,aA (x_1:Int) λB=>aA (x_1+1:Nat) λH=>x_1<=r.length/\aM (λi=>∀k:Nat,i<k->k<r.length->fh r i k=false) x_1->(B<r.length->aE (B+1)/\(B+1=(H:Int)/\x_1<x_1+1/\x_1+1<=r.length/\(∀j:Nat,x_1<j->j<x_1+1->fh r x_1 j=false))/\
      (∀x_2:Nat,aA (x_2:Int) λC=>x_1<x_2/\x_2<=r.length/\(∀j:Nat,x_1<j->j<x_2->fh r x_1 j=false)->(C<r.length->(aE (B+1)/\(¬C=x_1+1->(¬B=0->ix B D.length/\x_1<D.length/\ix C D.length/\x_2<D.length/\decide (¬cC (aK D x_1) (aK D x_2)=0)=fh r x_1 x_2)/\
          (¬(¬B=0)->aE (I-1)/\(¬C=r.length-1->ix B D.length/\x_1<D.length/\ix C D.length/\x_2<D.length/\decide (¬cC (aK D x_1) (aK D x_2)=0)=fh r x_1 x_2)/\
           (¬(¬C=r.length-1)->false=fh r x_1 x_2)))/\
         (¬(¬C=x_1+1)->false=fh r x_1 x_2))/\
        (∀y_1:Unit,(fh r x_1 x_2=true->false=co r)/\
         (fh r x_1 x_2=false->aE (C+1)/\C+1=((x_2+1:Nat):Int)/\x_1<x_2+1/\x_2+1<=r.length/\(∀j:Nat,x_1<j->j<x_2+1->fh r x_1 j=false)/\r.length-(x_2+1)<r.length-x_2)))/\
       (¬C<r.length->aE (B+1)/\B+1=(H:Int)/\x_1+1<=r.length/\aM (λi=>∀k:Nat,i<k->k<r.length->fh r i k=false) (x_1+1)/\r.length-(x_1+1)<r.length-x_1)))/\
     (¬B<r.length->true=co r)))))) (by kernel_rfl) (by
  change r.length<=1000 at hp;have iff:=DH r;have hf:(co r=true->False)->false=co r:=λh=>by grind
  have el:3<=r.length->(aJ r).length=r.length:=λh=>wK r (by omega);have en:near r=true->∀i,i<r.length->bd 1000000000 (aEY r i):=λh i hi=>lQ h hi;have ep:3<=r.length->∀i,i<r.length->aK (aJ r) i=bP r i:=λh i hi=>wU (by omega) hi;have hE:3<=r.length->r.length<=40->near r=true->0<area r->∀x y:Nat,¬(x:Int)<r.length->¬(y:Int)<r.length->aM (tP r) x->aM (λi=>∀k:Nat,i<k->k<r.length->fh r i k=false) y->true=co r:=λh1 h2 h3 h4 x y hx hy h5 h6=>
   (iff.2 ⟨h1,h2,h3,h4,λi hi=>h5 i (by omega),λi k hi hk=>h6 i (by omega) k hi hk⟩).symm
  have b0:∀x y:Nat,¬(¬(y:Int)=x+1)->false=fh r x y:=λx y h=>by unfold fh;grind
  have b1:∀x y:Nat,¬(¬(x:Int)=0)->¬(¬(y:Int)=r.length-1)->false=fh r x y:=λx y h1 h2=>by unfold fh;grind
  have b2:∀x y:Nat,3<=r.length->¬(y:Int)=x+1->¬(x:Int)=0->(x:Int)<r.length->(y:Int)<r.length->decide (¬cC (aK (aJ r) x) (aK (aJ r) y)=0)=fh r x y:=λx y h0 h1 h2 h3 h4=>by unfold fh;grind
  have b3:∀x y:Nat,3<=r.length->¬(y:Int)=x+1->¬(y:Int)=r.length-1->(x:Int)<r.length->(y:Int)<r.length->decide (¬cC (aK (aJ r) x) (aK (aJ r) y)=0)=fh r x y:=λx y h0 h1 h2 h3 h4=>by unfold fh;grind
  with_reducible ((repeat' first|apply bl|intro);all_goals repeat cases‹_/\_›)
  all_goals first|assumption|rfl|exact trivial|exact nb ‹_› |exact nb' ‹_› |omega|exact gH (by omega)|(unfold ix;omega)|(unfold aE;omega)|exact fz _|exact bz ‹_› ‹_› |(refine bz ‹_› ?_;simp_all;done)|exact en ‹_› _ (by omega)|exact en ‹_› _ (bq _ (by omega))|(rw[el ‹_›];exact dQ (by omega))|(rw[el ‹_›];omega)|exact b0 _ _ ‹_› |exact b1 _ _ ‹_› ‹_› |exact b2 _ _ ‹_› ‹_› ‹_› ‹_› ‹_› |exact b3 _ _ ‹_› ‹_› ‹_› ‹_› ‹_› |exact hE ‹_› ‹_› ‹_› ‹_› _ _ ‹_› ‹_› ‹_› ‹_› |(refine hf λh=> ?_;have h:=iff.1 h;first|omega|(have h4:=‹(!near r)=true›;rw[h.2.2.1]at h4;cases h4)|(exact absurd ‹turn _ _ _=0› (h.2.2.2.2.1 _ (by omega)))|grind)|exact bz ‹_› (show tP r _ from‹¬turn _ _ _=0›)|(intro j h1 h2;omega)|exact bz ‹_› (up2 (p:=λi k=>fh r i k=false) ‹_› ‹_›)|grind)
noncomputable def t83:=Q1.adk k83
def YT(n:Nat)(w:World)(h0:0<n)(hn:n<=100000):
  Calls bE 207 #[.slice none 0 0,.int .i64 n] w λe w'=>∃v,e= .returned v/\w'.ownsRow w.heap.size 44 2 v 0 []/\Below w.heap.size w w':=by
 have hinf:(bE.info? 44).map (λi=>(i.zero,i.size,i.bytes))=some (some (.agg #[.int .i64 0,.int .i64 0]),2,16):=by kernel_rfl
 obtain⟨i,hi1,hi2⟩:=l5.1 hinf;simp only[Prod.mk.injEq]at hi2;obtain⟨i1,i2,i3⟩:=hi2;have hold:(Builtin.firstCells i.size 0 (.slice none 0 0)).run bE w.drew= .ok ([] :List Value).toArray w.drew:=run_firstCells_none w.drew i.size 0 0 0;have hrz:∀ty,(Builtin.append_ #[23,3] ty #[.slice none 0 0,.int .i64 n]).run bE w= .ok (.slice (some ⟨w.heap.size,0,none⟩) n (grownCap w n 0 44))
   (w.drew.alloc (.cells (#[] ++Builtin.zeroCells #[.int .i64 0,.int .i64 0] n++Builtin.zeroCells #[.int .i64 0,.int .i64 0] (grownCap w n 0 44-n)) 44)):=λty=>by
  have h:=Lib.run_append_grow_zeros w 23 3 ty 44 i (.agg #[.int .i64 0,.int .i64 0]) .i64 .i64 Tryz.underlying23 rY hi1 i1 none 0 0 [] hold n h0 (by omega) (by omega) (by omega) (by grind)
   (by unfold Builtin.nextslicecap;grind)
  rw[jy]at h;exact h
 have hGn:n<=grownCap w n 0 44:=grownCap_ge w _ _ _;have hGm:=grownCap_le_maxLen w n 0 44 (by unfold maxLen;omega);obtain⟨G,hG⟩:∃G,G=grownCap w n 0 44:=⟨_,rfl⟩;rw[<-hG]at hrz hGn hGm;have hG63:G<=9223372036854775807:=by unfold maxLen at hGm;omega
 have hzc:∀m,(Builtin.zeroCells #[.int .i64 0,.int .i64 0] m).size=m*2:=by intro m;unfold Builtin.zeroCells;simp
 obtain⟨cur,hcur⟩:∃cur,cur=(#[] ++Builtin.zeroCells #[.int .i64 0,.int .i64 0] n++Builtin.zeroCells #[.int .i64 0,.int .i64 0] (G-n):Array Value):=⟨_,rfl⟩;have hcs:cur.size=G*2:=by rw[hcur];simp[hzc];omega
 rw[<-hcur]at hrz;have hrow:(w.drew.alloc (.cells cur 44)).ownsRow w.heap.size 44 2 (.slice (some ⟨w.heap.size,0,none⟩) 0 G) 0 [] :=
  ⟨by simp,.inr ⟨w.heap.size,G,cur,rfl,bI _,Blk.new w.drew 44 cur,by omega,hGm,hcs,by simp⟩⟩
 have hbl:Below w.heap.size w (w.drew.alloc (.cells cur 44)):=((Below.refl _ _).drew).alloc (bI _) _;clear hold hinf hi1 i1 i2 i3 hcur hcs hzc hG hGm
 go_enter Tryz.func207,Tryz.ntmps207
 go_wp2_with (at_builtin;refine Lib.wpList_append_run _ rfl _ _ _ _ rfl _ _ rfl rfl _ _ (hrz _) ?_)
 all_goals
  go_ret
  exact⟨_,rfl,hrow,hbl⟩
def Vw{n:Nat}(h0:0<n)(hn:n<=100000):Hv bE 207 [.int .i64 n] 44 2 [] 0 [] :=by
 refine⟨by kernel_rfl,by decide,λC w vs hC h=> ?_⟩;unfold az at h;obtain⟨v,r,rfl,h1,h2⟩:=h;unfold aX at h1;unfold az at h2;subst h1 h2;refine(YT n w h0 hn).mono ?_;rintro e w' ⟨v,rfl,⟨_,h3⟩,hb⟩;rcases h3 with⟨rfl,_⟩|⟨g,cap,cur,rfl,h4,h5,_,h6,h7,_⟩
 .exact⟨_,[],none,0,rfl,hb,by unfold az;rfl,.inl ⟨rfl,rfl,rfl,rfl,rfl⟩⟩
 .exact⟨_,[],some g,cap,rfl,hb,by unfold az;rfl,.inr ⟨g,cur,rfl,rfl,iY _,h4,h5,h7,iY _,h6,λi x hi=>by simp at hi⟩⟩
def Hp:List SV->Option Nat
 |[.nil,.int .i64 (.ofNat n)] =>some n
 |_=>none
def Wk{s:List SV}{n:Nat}(h:Hp s=some n):s=[.nil,.int .i64 (n:Int)] :=by
 unfold Hp at h;split at h
 .cases h;rfl
 .cases h
def aDF:Con:=⟨Nat,Hp,λn=>[0<n,n<=100000],.ownN 44 .V (λ_=>[])⟩
def aB3:aDF.Okz 207:=by intro s n hd hp;rw[Wk hd];exact⟨[.int .i64 ((show Nat from n:Nat):Int)],rfl,Vw (hp _ cI) (hp _ (cE _ cI))⟩
def aPt:Ar Pt where
 enc p:= .pro [.int .i64 p.x,.int .i64 p.y,.int .i64 p.den] 0
 dec s:=match s with
  | .pro [.int .i64 x,.int .i64 y,.int .i64 z] 0=>some ⟨x,y,z⟩
  |_=>none
 ok s a h:=by grind
 pl _:=⟨_,rfl⟩
def jPU(key:Nat)(I:List Prop)(u:Frm):Nat×Ann:=(key+10000,.mk Unit (λ_ _=>some ()) [] (λ_=>I) (λ_=>u) (λ_=>[]) (λ_=>0) (λ_=>[]))
def yN(p:Pt)(l:List S):Bool:=l.foldl (λb s=>b !=dr s p) false
def WE{p:Pt}{l:List S}{k:Nat}(h:k<l.length):yN p (l.take (k+1))=(yN p (l.take k) !=dr (aK l k) p):=by unfold yN;rw[lJ,dp h,vz,eZ h];rfl
def Lg{p:Pt}:∀{l:List S} {k:Nat} (ins:Bool),k<l.length->(∀j,j<k->onP (aK l j) p=false)->onP (aK l k) p=true->eQ p l ins=1
 |[],k,ins,h,_,_=>by simp at h
 |s::l,0,ins,h,_,h2=>by
  unfold eQ;rw[show onP s p=true from h2];rfl
 |s::l,k+1,ins,h,h1,h2=>by
  unfold eQ;rw[show onP s p=false from h1 0 (by omega)];exact Lg (l:=l) (k:=k) _ (by simpa using h) (λj hj=>h1 (j+1) (by omega)) h2
def KG{p:Pt}:∀{l:List S} (ins:Bool),(∀j,j<l.length->onP (aK l j) p=false)->eQ p l ins=if l.foldl (λb s=>b !=dr s p) ins=true then 2 else 0
 |[],ins,_=>rfl
 |s::l,ins,h1=>by
  unfold eQ;rw[show onP s p=false from h1 0 (by simp)];exact KG (l:=l) _ (λj hj=>h1 (j+1) (by grind))
def pb(r:aH)(p:Pt)(k:Nat):Bool:=yN p ((aJ r).take k)
def Yf{r:aH}(h:co r=true){j:Nat}(hj:j<(aJ r).length):bd 2000 (aK (aJ r) j).a/\bd 2000 (aK (aJ r) j).b:=OJ (by rw[<-uG];exact h) hj
def cOK(a b:V):Prop:=(-4000000000000000000<=a.x*b.y/\a.x*b.y<=4000000000000000000)/\(-4000000000000000000<=a.y*b.x/\a.y*b.x<=4000000000000000000)
noncomputable def aBy:Con:=con (ac aV (a1 aV)) (λ(a,b)=>[cOK a b]) (λ(a,b)=> .iqz (cross a b)
 )
def aBk:aBy.Okz 111:=ag t83 (λ(_,_)=>[]) (λ(_,_)=>⟨_,rfl⟩) λ(a,b) hp=>aY (aE (a.x*b.y)/\aE (a.y*b.x)/\aE (a.x*b.y-a.y*b.x)/\a.x*b.y-a.y*b.x=cross a b) (by kernel_rfl) (by change cOK a b at hp;unfold cOK at hp;exact⟨bD (by omega),bD (by omega),bD (by omega),rfl⟩)
noncomputable def Pb:=t83.adk aBk
noncomputable def aDN:Con:=con (ac aV (a1 aPt)) (λ(v,p)=>[PtB p,bd 10000 v]) (λ(v,p)=>aV.enc (toV p v)
 )
def aCb:aDN.Okz 186:=ag Pb (λ(_,_)=>[]) (λ(_,_)=>⟨_,rfl⟩) λ(v,p) hp=>aY (aE (v.x*p.den)/\aE (p.x-v.x*p.den)/\aE (v.y*p.den)/\aE (p.y-v.y*p.den)/\p.x-v.x*p.den=(toV p v).x/\p.y-v.y*p.den=(toV p v).y) (by kernel_rfl) (by change PtB p/\bd 10000 v at hp;have h:=hp.1.off hp.2;have h2:(-600000000000<=p.x/\p.x<=600000000000)/\(-600000000000<=p.y/\p.y<=600000000000):=hp.1.2;exact⟨bD (by omega),bD (by omega),bD (by omega),bD (by omega),rfl,rfl⟩)
noncomputable def QW:=Pb.adk aCb
noncomputable def aEq:Con:=con (ac (aL .V) (a1 aT)) (λ(r,_)=>[r.length<=1000]) (λ(r,p)=> .iqz (bj r p))
def aCO:aEq.Okz 140:=ag QW (λ(r,p)=>[jP 3 [co r=true,dK p=true],lp 6 25 (aJ r).length (λk=>[aM (λj=>onP (nE r j) p=false) k]) [] (λk=>[(6,.bool (pb r p k))]) bW λk=>[jb 11 77 (onP (nE r k) p),jb 14 91 (dr (nE r k) p),jPU 15 [onP (nE r k) p=false] [(6,.bool (pb r p (k+1)))]]]
  ) (λ(_,_)=>⟨_,rfl⟩) λ(r,p) hp=>aY (aA (aJ r) λD=>aA (!co r) λG=>aA (!dK p) λH=>(r.length<=1000/\(G=true->0=bj r p)/\
  (G=false->(H=true->0=bj r p)/\
   (H=false->co r=true/\dK p=true)))/\
 (∀y:Unit,co r=true/\dK p=true->r.length<=1000/\(0=(0:Int)/\false=pb r p 0/\(0:Nat)<=D.length/\aM (λj=>onP (nE r j) p=false) 0)/\
  (∀x:Nat,aA (x+1) λA=>aA (nE r x) λB=>aA (x:Int) λC=>aA (toV p B.a) λE=>aA (toV p B.b) λF=>aA (aE1 B.b B.a) λI=>aA (decide (0<=E.y) !=decide (0<=F.y)) λJ=>x<=D.length/\aM (λj=>onP (nE r j) p=false) x->(C<D.length->(ix C D.length/\x<D.length/\PtB p/\bd 10000 B.a/\PtB p/\bd 10000 B.b/\bd 1000000000 B.b/\bd 1000000000 B.a/\cOK I E/\((cross I E=0->(Min.min E.x F.x<=0->(0<=Max.max E.x F.x->(Min.min E.y F.y<=0->decide (0<=Max.max E.y F.y)=onP B p)/\
         (¬Min.min E.y F.y<=0->false=onP B p))/\
        (¬0<=Max.max E.x F.x->false=onP B p))/\
       (¬Min.min E.x F.x<=0->false=onP B p))/\
      (¬cross I E=0->false=onP B p))/\
     (∀y_1:Unit,(onP B p=true->1=bj r p)/\
      (onP B p=false->((J=true->(decide (0<=E.y)==decide (0<cross I E))=dr B p)/\
        (J=false->false=dr B p))/\
       (∀y_2:Unit,(dr B p=true->(!pb r p x)=pb r p A/\onP B p=false)/\
        (dr B p=false->pb r p x=pb r p A/\onP B p=false)))))/\
    (∀y_1:Unit,onP B p=false->aE (C+1)/\C+1=((x+1:Nat):Int)/\pb r p A=pb r p A/\x+1<=D.length/\aM (λj=>onP (nE r j) p=false) A/\D.length-A<D.length-x))/\
   (¬C<D.length->(pb r p x=true->2=bj r p)/\
    (pb r p x=false->0=bj r p))))) (by kernel_rfl) (by
  change r.length<=1000 at hp;have e0:pb r p 0=false:=rfl;have es:∀k:Nat,(k:Int)<(aJ r).length->pb r p (k+1)=(pb r p k !=dr (nE r k) p):=λk h=>WE (by omega);have hw0:co r=false\/dK p=false->0=bj r p:=λh=>by unfold bj;grind
  have hw:co r=true->dK p=true->bj r p=eQ p (aJ r) false:=λh1 h2=>by unfold bj;simp[h1,h2]
  have eb:co r=true->∀j:Nat,(j:Int)<(aJ r).length->bd 2000 (aK (aJ r) j).a/\bd 2000 (aK (aJ r) j).b:=λh j hj=>Yf h (by omega);have el:(aJ r).length<=1000:=by unfold aJ;split<;>simp<;>omega
  have s1:∀j:Nat,(j:Int)<(aJ r).length->aM (λj=>onP (nE r j) p=false) j->onP (nE r j) p=true->eQ p (aJ r) false=1:=λj h1 h2 h3=>Lg false (by omega) h2 h3;have s2:∀k:Nat,¬(k:Int)<(aJ r).length->k<=(aJ r).length->aM (λj=>onP (nE r j) p=false) k->eQ p (aJ r) false=if pb r p k=true then 2 else 0:=λk h1 h2 h=>by
   obtain rfl:k=(aJ r).length:=by omega
   rw[KG false h];unfold pb yN;grind
  have gV:co r=true->dK p=true->∀j:Nat,(j:Int)<(aJ r).length->cOK (aE1 (aK (aJ r) j).b (aK (aJ r) j).a) (toV p (aK (aJ r) j).a):=λh1 h2 j hj=>by
   have b1:=io (eb h1 j hj).2 (eb h1 j hj).1;have hB:=PtB.of h2;have b2:=hB.off (eb h1 j hj).1.mono;have h2:(-600000000000<=p.x/\p.x<=600000000000)/\(-600000000000<=p.y/\p.y<=600000000000):=hB.2;have b3:bd 2000000000000 (toV p (aK (aJ r) j).a):=by unfold bd toV;dsimp only;omega
   exact⟨by have:=gG b1.1 b3.2;omega,by have:=gG b1.2 b3.1;omega⟩
  have oN:∀j:Nat,(¬gQ (nE r j) p=0\/¬Min.min (toV p (nE r j).a).x (toV p (nE r j).b).x<=0\/¬0<=Max.max (toV p (nE r j).a).x (toV p (nE r j).b).x\/¬Min.min (toV p (nE r j).a).y (toV p (nE r j).b).y<=0)->false=onP (nE r j) p:=λj h=>by symm;unfold onP;grind
  have oY:∀j:Nat,gQ (nE r j) p=0->Min.min (toV p (nE r j).a).x (toV p (nE r j).b).x<=0->0<=Max.max (toV p (nE r j).a).x (toV p (nE r j).b).x->Min.min (toV p (nE r j).a).y (toV p (nE r j).b).y<=0->decide (0<=Max.max (toV p (nE r j).a).y (toV p (nE r j).b).y)=onP (nE r j) p:=λj h1 h2 h3 h4=>by unfold onP;grind
  have hN:∀j:Nat,(decide (0<=(toV p (nE r j).a).y) !=decide (0<=(toV p (nE r j).b).y))=false->false=dr (nE r j) p:=λj h=>by unfold dr;rw[h];rfl
  have hY:∀j:Nat,(decide (0<=(toV p (nE r j).a).y) !=decide (0<=(toV p (nE r j).b).y))=true->(decide (0<=(toV p (nE r j).a).y)==decide (0<gQ (nE r j) p))=dr (nE r j) p:=λj h=>by unfold dr;rw[h];rfl
  with_reducible ((repeat' first|apply bl|intro);all_goals repeat cases‹_/\_›)
  all_goals first|rfl|with_reducible solve_by_elim|exact PtB.of ‹_› |exact(eb ‹_› _ ‹_›).1.mono|exact(eb ‹_› _ ‹_›).2.mono|exact gV ‹_› ‹_› _ ‹_› |exact oN _ (.inl ‹_›)|exact oN _ (.inr (.inl ‹_›))|exact oN _ (.inr (.inr (.inl ‹_›)))|exact oN _ (.inr (.inr (.inr ‹_›)))|exact hw0 (.inl (nb' ‹_›))|exact hw0 (.inr (nb' ‹_›))|(rw[hw ‹_› ‹_›,s1 _ ‹_› ‹_› ‹_›];done)|(rw[hw ‹_› ‹_›,s2 _ ‹_› ‹_› ‹_›,‹pb _ _ _=_›];rfl)|(rw[es _ ‹_›,‹dr _ _=_›];simp;done)|grind)
noncomputable def RB:=QW.adk aCO
noncomputable def c65:Con:=con (ac (aL .V) (a1 aV)) (λ(r,_)=>[r.length<=1000]) (λ(r,v)=> .iqz (dN r v)
 )
def k65:c65.Okz 65:=ag RB (λ(_,_)=>[]) (λ(_,_)=>⟨_,rfl⟩) λ(r,v) hp=>aY (aA (!bL v 4000) λA=>(0:Int)<=4000/\(4000:Int)<=9000000000000000000/\(A=true->0=dN r v)/\
 (A=false->r.length<=1000/\bj r (eJ v)=dN r v)) (by kernel_rfl) (by change r.length<=1000 at hp;have e:dN r v=if(!bL v 4000)=true then 0 else bj r (eJ v):=rfl;grind)
noncomputable def t65:=RB.adk k65
noncomputable def c89:Con:=con (a1 (aL .V)) (λr=>[r.length<=1000]) (λr=> .iqz (if co r=true then area r else 0)
 )
def k89:c89.Okz 89:=ag t65 bW (λ_=>⟨_,rfl⟩) λr hp=>aY (aA (!co r) λA=>r.length<=1000/\(A=true->0=(if co r=true then area r else 0))/\
 (A=false->near r=true/\r.length<=100000/\area r=(if co r=true then area r else 0))) (by kernel_rfl) (by change r.length<=1000 at hp;refine⟨hp,λh=>by grind,λh=>⟨?_,by omega,by grind⟩⟩;exact((DH r).1 (nb h)).2.2.1)
noncomputable def t89:=t65.adk k89
noncomputable def QP:=t89.adk aB3
noncomputable def aDS:Con:=con (a1 (aL .R)) (λl=>[l.length<=1000,0<l.flatten.length,l.flatten.length<=1000]) (λl=> .lst .V l.flatten)
def aCg:aDS.Okz 181:=uo (mT QP.o) (raw:=λr i=>bH r 1&&bH i 0) (λl=>[lp 3 11 l.length (λ_=>[]) [] (λk=>[(3,.int .i64 (((l.take k).flatten.length:Nat):Int))]) (λ_=>[]),lp 11 27 l.length (λ_=>[]) [7] (λk=>[(6,.own 7 .V ((l.take k).flatten.length))]) (λk=>[(7,.row 44 .V ((l.take k).flatten))])]
  ) (λ_=>⟨_,rfl⟩) λl hp=>aY (aA (0:Nat) λB=>aA (aP 0 l) λG=>aA (ff G) λK=>aA ([] :List V) λN=>(0=(0:Int)/\0=(K.length:Int)/\B<=l.length)/\
 (∀x:Nat,aA (x:Int) λA=>aA (aC l x) λE=>aA (ff (aP x l)) λI=>aA (I.length:Int) λJ=>x<=l.length->(A<l.length->ix A l.length/\aE (J+E.length)/\(J+E.length<0->False)/\
   (¬J+E.length<0->aE (A+1)/\A+1=((x+1:Nat):Int)/\J+E.length=(ff (aP (x+1) l)).length/\x+1<=l.length/\l.length-(x+1)<l.length-x))/\
  (¬A<l.length->B<I.length/\I.length<=100000/\(0=(0:Int)/\N.length=K.length/\N=ff G/\B<=l.length)/\
   (∀x_1:Nat,aA (x_1:Int) λD=>aA (aP (x_1+1) l) λH=>aA (aP x_1 l) λL=>aA (ff L) λM=>x_1<=l.length->(D<l.length->ix D l.length/\M.length=M.length/\M.length+(aC l x_1).length<=1000000/\aE (D+1)/\D+1=((x_1+1:Nat):Int)/\(ff L++aC l x_1).length=(ff H).length/\ff L++aC l x_1=ff H/\x_1+1<=l.length/\l.length-(x_1+1)<l.length-x_1)/\
    (¬D<l.length->M.length=M.length/\ff L=ff l))))) (by kernel_rfl) (by
  change l.length<=1000/\0<l.flatten.length/\l.flatten.length<=1000 at hp;have e1:∀x:Nat,(x:Int)<l.length->(l.take (x+1)).flatten=(l.take x).flatten++aC l x:=λx h=>by rw[iR (by omega),te,List.flatten_singleton,je (by omega)]
  have e2:∀x:Nat,(l.take x).flatten.length<=l.flatten.length:=λx=>by
   conv=>rhs;rw[<-List.take_append_drop x l,te,eW]
   omega
  have e3:∀x:Nat,¬(x:Int)<l.length->aP x l=l:=λx h=>fT (by omega);have e4:∀x:Nat,(x:Int)<l.length->(l.take x).flatten.length+(aC l x).length<=l.flatten.length:=λx h=>by grind
  have e5:∀x:Nat,(x:Int)<l.length->((ff (aP x l)).length:Int)+(aC l x).length=(ff (aP (x+1) l)).length:=λx h=>by grind
  have e6:∀x:Nat,(x:Int)<l.length->aE (((ff (aP x l)).length:Int)+(aC l x).length):=λx h=>bD (by grind)
  repeat' first|with_reducible apply bl|with_reducible intro
  all_goals repeat with_reducible cases‹_/\_›
  all_goals grind)
noncomputable def Qb:=QP.adk aCg
def xY(a b:V):bn a b<0↔bf a b=true:=by unfold bn bf aE2;grind
def EE(a:V):bf a a=false:=by unfold bf;grind
noncomputable def aDX:Con:=con (ac (aL .V) (a1 (aF 78))) (λ(r,_)=>[0<r.length,r.length<=1000]) (λ(r,_)=>aV.enc (aEY r (dO r)))
def aCm:aDX.Okz 175:=ag Qb (λ(r,_)=>[(5,.mk Nat (λF _=>mP F 6) [] (λk=>[0<k,k<=r.length]) (λk=>[(6,.iqz (k:Int))]) (λk=>[(7,.box 44 [.iqz (aEY r (dC r k)).x,.iqz (aEY r (dC r k)).y])]) (λk=>r.length-k) bW)]
  ) (λ(_,_)=>⟨_,rfl⟩) λ(r,u) hp=>aY (aA (0:Nat) λC=>aA (dO r) λE=>aA (r.length:Int) λF=>aA (dC r 1) λK=>(F<1->False)/\
 (¬F<1->ix 0 r.length/\(1=(1:Int)/\(aEY r 0).x=(aEY r K).x/\(aEY r 0).y=(aEY r K).y/\C<1/\(1:Nat)<=r.length)/\
  (∀x:Nat,aA (x+1) λA=>aA (x:Int) λB=>aA (aEY r x) λD=>aA (aEY r (dC r x)) λH=>aA (aEY r (dC r A)) λJ=>aA ((x+1:Nat):Int) λL=>C<x/\x<=r.length->(B<r.length->ix B r.length/\(bn D H<0->ix B r.length/\aE (B+1)/\B+1=L/\D.x=J.x/\D.y=J.y/\C<x+1/\x+1<=r.length/\r.length-A<r.length-x)/\
    (¬bn D H<0->aE (B+1)/\B+1=L/\H.x=J.x/\H.y=J.y/\C<x+1/\x+1<=r.length/\r.length-A<r.length-x))/\
   (¬B<r.length->H.x=(aEY r E).x/\H.y=(aEY r E).y)))) (by kernel_rfl) (by
  change 0<r.length/\r.length<=1000 at hp;have e0:dC r 1=0:=by unfold dC dC;split<;>rfl
  have e1:∀x:Nat,bn (aEY r x) (aEY r (dC r x))<0->dC r (x+1)=x:=λx h=>if_pos ((xY _ _).1 h);have e2:∀x:Nat,¬bn (aEY r x) (aEY r (dC r x))<0->dC r (x+1)=dC r x:=λx h=>if_neg λh2=>h ((xY _ _).2 h2);have e3:∀x:Nat,¬(x:Int)<r.length->x<=r.length->dC r x=dO r:=λx h1 h2=>by rw[show x=r.length by omega];rfl
  with_reducible ((repeat' first|apply bl|intro);all_goals repeat cases‹_/\_›)
  all_goals grind)
noncomputable def Qg:=Qb.adk aCm
noncomputable def aDY:Con:=con (ac (aL .V) (a1 aV)) (λ(r,_)=>[r.length<=1000]) (λ(r,v)=> .iqz (fI (λx=>decide (v=x)) r))
def aCn:aDY.Okz 174:=ag Qg (λ(r,v)=>[cnt 2 8 r.length (aM λj=>decide (v=aEY r j)=false)]
  ) (λ(_,_)=>⟨_,rfl⟩) λ(r,v) hp=>aY ((0=(0:Int)/\(0:Nat)<=r.length/\aM (λj=>decide (v=aEY r j)=false) 0)/\
 (∀x:Nat,aA (x:Int) λA=>x<=r.length/\aM (λj=>decide (v=aEY r j)=false) x->(A<r.length->ix A r.length/\(v=(aEY r x)->A=fI (λx=>decide (v=x)) r)/\
   (¬v=(aEY r x)->aE (A+1)/\A+1=((x+1:Nat):Int)/\x+1<=r.length/\aM (λj=>decide (v=aEY r j)=false) (x+1)/\r.length-(x+1)<r.length-x))/\
  (¬A<r.length-> -1=fI (λx=>decide (v=x)) r))) (by kernel_rfl) (by
  change r.length<=1000 at hp
  with_reducible ((repeat' first|apply bl|intro);all_goals repeat cases‹_/\_›)
  all_goals first|rfl|exact qE (t:= .V) (by omega) (decide_eq_true ‹_›) ‹_› |(obtain rfl:_=r.length:=tf ‹_› (by omega);exact sm (t:= .V) ‹_›)|grind)
noncomputable def Qh:=Qg.adk aCn
noncomputable def aEC:Con:=con (a1 (aL .V)) (λr=>[r.length<=1000]) (λr=> .lst .V (dd r)
 )
def aC1:aEC.Okz 126:=ag Qh bW (λ_=>⟨_,rfl⟩) λr hp=>aY (aA (aEY r (dO r)) λB=>aA (!co r) λC=>r.length<=1000/\(C=true->dd r=([] :List V))/\
 (C=false->(0:Nat)<r.length/\r.length<=1000/\r.length<=1000/\(0<=fI (λx=>decide (B=x)) r/\fI (λx=>decide (B=x)) r<=r.length)/\(0<=fI (λx=>decide (B=x)) r/\fI (λx=>decide (B=x)) r<=r.length)/\[cY (fI (λx=>decide (B=x)) r).toNat r,aP (fI (λx=>decide (B=x)) r).toNat r].length<=1000/\(0:Nat)<(ff [cY (fI (λx=>decide (B=x)) r).toNat r,aP (fI (λx=>decide (B=x)) r).toNat r]).length/\(ff [cY (fI (λx=>decide (B=x)) r).toNat r,aP (fI (λx=>decide (B=x)) r).toNat r]).length<=1000/\ff [cY (fI (λx=>decide (B=x)) r).toNat r,aP (fI (λx=>decide (B=x)) r).toNat r] =dd r)) (by kernel_rfl) (by
  change r.length<=1000 at hp;have h0:(!co r)=false->0<r.length:=λh=>by have:=((DH r).1 (nb h)).1;omega
  have hf:0<r.length->fI (λx=>decide (aEY r (dO r)=x)) r=(dO r:Int):=λh=>by
   have hl:=qY h;symm;exact qE (t:= .V) hl (decide_eq_true rfl) λj hj=>decide_eq_false λe=>by have:=C4 r r.length j hj;rw[show dC r r.length=dO r from rfl,e]at this;exact absurd ((EE (aEY r j)).symm.trans this) (by decide)
  refine⟨hp,λh=>by unfold dd;grind,λh=> ?_⟩;have h1:=h0 h;have hl:=qY h1;rw[hf h1];have hc:[cY ((dO r:Nat):Int).toNat r,aP ((dO r:Nat):Int).toNat r].flatten=dd r:=by unfold dd;rw[nb h];simp[bo]
  grind)
noncomputable def RN:=Qh.adk aC1
def aPR:Ar aH where
 enc r:= .pro [.lst .V r] 0
 dec s:=match s with
  | .pro [x] 0=>ol .V x
  |_=>none
 ok s a h:=by
  split at h
  .have e:=qt h;show(match bM (avs [_])with|some q=>AV.p (.pro q 0)|none=> .any)=_;rw[avs,avs,e];rfl
  .cases h
 pl _:=⟨_,rfl⟩
def aPi:Ar Int where
 enc n:= .pro [.int .i64 n] 0
 dec s:=match s with
  | .pro [.int .i64 n] 0=>some n
  |_=>none
 ok s a h:=by grind
 pl _:=⟨_,rfl⟩
def aCl(f:Nat){α:Type}(A:Arl α):Ar α where
 enc a:= .fnp f [] (A.enc a)
 dec s:=match s with
  | .fnp g [] b=>(match bH g f with|true=>A.dec b|false=>none)
  |_=>none
 ok s a h:=by
  split at h
  .split at h
   .rename_i b e;have:=A.ok _ _ h;simp only[SV.av,this];simp_all
   .cases h
  .cases h
 pl a:=by obtain⟨q,h⟩:=A.pl a;exact⟨.fn (.func f) [] q,by simp only[SV.av,h,avs,dU];rfl⟩
def P4:Ar (aH×Int×Unit):=aCl 180 (ac aPR (ac aPi a0))
def Bd{t:LT}{l:List t.ty}{q:t.ty->Bool}{j:Nat}(hj:j<l.length)(h:q (t.nth l j)=false):l.all q=false:=
 v6.2 ⟨_,List.getElem_mem hj,by rw[<-t.nth_eq l hj,h];simp⟩
def BE{t:LT}{l:List t.ty}{q:t.ty->Bool}(h:aM (λj=>q (t.nth l j)=true) l.length):l.all q=true:=
 bk.2 λx hx=>by obtain⟨j,hj,rfl⟩:=jX hx;have:=h j hj;dsimp only at this;rwa[t.nth_eq l hj]at this
noncomputable def aDT:Con:=con (ac aV (ac aPR (a1 aPi))) (λ(_,r,_)=>[r.length<=1000]) (λ(v,r,p)=> .bool (decide (¬dN r v=p))
 )
def aCh:aDT.Okz 180:=ag RN (λ(_,_,_)=>[]) (λ(_,_,_)=>⟨_,rfl⟩) λ(v,r,p) hp=>aY (r.length<=1000/\decide (¬dN r v=p)=decide (¬dN r v=p)) (by kernel_rfl) (by change r.length<=1000 at hp;grind)
noncomputable def Qc:=RN.adk aCh
noncomputable def aEc:Con:=con (ac (aL .V) (a1 P4)) (λ(l,c)=>[l.length<=1000000,c.1.length<=1000]) (λ(l,c)=> .iqz (fI (λv=>decide (¬dN c.1 v=c.2.1)) l))
def aCB:aEc.Okz 157:=ag Qc (λ(l,c)=>[cnt 2 8 l.length (aM λj=>decide (¬dN c.1 (aEY l j)=c.2.1)=false)]
  ) (λ(_,_)=>⟨_,rfl⟩) λ(l,c) hp=>aY ((0=(0:Int)/\(0:Nat)<=l.length/\aM (λj=>decide (¬dN c.1 (aEY l j)=c.2.1)=false) 0)/\
 (∀x:Nat,aA (x:Int) λA=>x<=l.length/\aM (λj=>decide (¬dN c.1 (aEY l j)=c.2.1)=false) x->(A<l.length->ix A l.length/\c.1.length<=1000/\(decide (¬dN c.1 (aEY l x)=c.2.1)=true->A=fI (λv=>decide (¬dN c.1 v=c.2.1)) l)/\
   (decide (¬dN c.1 (aEY l x)=c.2.1)=false->aE (A+1)/\A+1=((x+1:Nat):Int)/\x+1<=l.length/\aM (λj=>decide (¬dN c.1 (aEY l j)=c.2.1)=false) (x+1)/\l.length-(x+1)<l.length-x))/\
  (¬A<l.length-> -1=fI (λv=>decide (¬dN c.1 v=c.2.1)) l))) (by kernel_rfl) (by
  change l.length<=1000000/\c.1.length<=1000 at hp
  with_reducible ((repeat' first|apply bl|intro);all_goals repeat cases‹_/\_›)
  all_goals first|rfl|exact qE (t:= .V) (by omega) ‹_› ‹_› |(obtain rfl:_=l.length:=tf ‹_› (by omega);exact sm (t:= .V) ‹_›)|grind)
noncomputable def Qv:=Qc.adk aCB
noncomputable def c84:Con:=con (ac (aL .V) (a1 P4)) (λ(l,c)=>[l.length<=1000000,c.1.length<=1000]) (λ(l,c)=> .bool (l.any λv=>decide (¬dN c.1 v=c.2.1))
 )
def k84:c84.Okz 84:=ag Qv (λ(_,_)=>[]) (λ(_,_)=>⟨_,rfl⟩) λ(l,c) hp=>aY (l.length<=1000000/\c.fst.length<=1000/\decide (0<=fI (λv=>decide (¬dN c.fst v=c.2.1)) l)=fe l (λv=>decide (¬dN c.1 v=c.2.1))) (by kernel_rfl) (by change l.length<=1000000/\c.1.length<=1000 at hp;exact⟨hp.1,hp.2,um _ _⟩)
noncomputable def t84:=Qv.adk k84
noncomputable def SA:Con:=con (ac (aL .V) (ac (aL .V) (a1 aI))) (λ(r,q,_)=>[r.length<=1000,q.length<=1000]) (λ(r,q,p)=> .bool (aE5 r q p)
 )
def R3:SA.Okz 123:=ag t84 (λ(_,_,_)=>[]) (λ(_,_,_)=>⟨_,rfl⟩) λ(r,q,p) hp=>aY (r.length<=1000000/\q.length<=1000/\(!fe r (λv=>decide (¬dN q v=p)))=aE5 r q p) (by kernel_rfl) (by change r.length<=1000/\q.length<=1000 at hp;refine⟨by omega,hp.2,?_⟩;unfold aE5;grind)
noncomputable def RP:=t84.adk R3
noncomputable def R9:Con:=con (ac (aL .V) (a1 (aL .V))) (λ(a,b)=>[a.length<=1000,b.length<=1000]) (λ(a,b)=> .bool (eE a b))
def R0:R9.Okz 124:=ag RP (λ(a,b)=>[cnt 2 12 (aJ a).length (aM λi=>((aJ b).all λy=>cC (aK (aJ a) i) y==0)=true) λi=>[cnt 5 19 (aJ b).length (aM λk=>(cC (aK (aJ a) i) (aK (aJ b) k)==0)=true)]]
  ) (λ(_,_)=>⟨_,rfl⟩) λ(a,b) hp=>aY (aA (aJ a) λC=>aA (aJ b) λE=>a.length<=1000/\(0=(0:Int)/\(0:Nat)<=C.length/\aM (λi=>tg E (λy=>cC (aK C i) y==0)=true) 0)/\
 (∀x:Nat,aA (x:Int) λA=>aA (aK C x) λD=>x<=C.length/\aM (λi=>tg E (λy=>cC (aK C i) y==0)=true) x->(A<C.length->ix A C.length/\x<C.length/\b.length<=1000/\(0=(0:Int)/\(0:Nat)<=E.length/\aM (λk=>(cC D (aK E k)==0)=true) 0)/\
   (∀x_1:Nat,aA (x_1:Int) λB=>x_1<=E.length/\aM (λk=>(cC D (aK E k)==0)=true) x_1->(B<E.length->ix B E.length/\x_1<E.length/\(¬cC D (aK E x_1)=0->false=eE a b)/\
     (¬(¬cC D (aK E x_1)=0)->aE (B+1)/\B+1=((x_1+1:Nat):Int)/\x_1+1<=E.length/\aM (λk=>(cC D (aK E k)==0)=true) (x_1+1)/\E.length-(x_1+1)<E.length-x_1))/\
    (¬B<E.length->aE (A+1)/\A+1=((x+1:Nat):Int)/\x+1<=C.length/\aM (λi=>tg E (λy=>cC (aK C i) y==0)=true) (x+1)/\C.length-(x+1)<C.length-x)))/\
  (¬A<C.length->true=eE a b))) (by kernel_rfl) (by
  change a.length<=1000/\b.length<=1000 at hp;have el:∀r:aH,r.length<=1000->(aJ r).length<=1000:=λr h=>by unfold aJ;grind
  have ea:=el a hp.1;have eb:=el b hp.2;have h1:∀x y:Nat,(x:Int)<(aJ a).length->(y:Int)<(aJ b).length->¬cC (aK (aJ a) x) (aK (aJ b) y)=0->false=eE a b:=λx y hx hy h=>
   (Bd (t:= .S) (l:=aJ a) (j:=x) (by omega) (Bd (t:= .S) (l:=aJ b) (q:=λy=>cC (aK (aJ a) x) y==0) (j:=y) (by omega) (beq_eq_false_iff_ne.2 h))).symm
  have h2:∀x:Nat,¬(x:Int)<(aJ a).length->x<=(aJ a).length->aM (λi=>((aJ b).all λy=>cC (aK (aJ a) i) y==0)=true) x->true=eE a b:=λx hx hx2 h=>by
   obtain rfl:x=(aJ a).length:=by omega
   exact(BE (t:= .S) h).symm
  have h3:∀x y:Nat,¬(y:Int)<(aJ b).length->y<=(aJ b).length->aM (λk=>(cC (aK (aJ a) x) (aK (aJ b) k)==0)=true) y->((aJ b).all λz=>cC (aK (aJ a) x) z==0)=true:=λx y hy hy2 h=>by
   obtain rfl:y=(aJ b).length:=by omega
   exact BE (t:= .S) h
  with_reducible ((repeat' first|apply bl|intro);all_goals repeat cases‹_/\_›)
  all_goals first|rfl|with_reducible solve_by_elim|exact bz ‹_› (h3 _ _ ‹_› ‹_› ‹_›)|exact bz ‹_› (beq_iff_eq.2 (rb ‹¬¬_›))|grind)
noncomputable def B9:=RP.adk R0
def ZL{r n:Nat}{P:Program}{row:String}{args:Array Value}{w:World}{R:Value->World->Prop}(h:Rows P row args w R):RowsIn (Fence.wide.inRound r) n P row args w R:=
 λc cs _=>let⟨v,w',hr,s⟩:=h c cs;⟨v,w',hr,stepsIn_wide.2 s⟩
def qg{r n:Nat}{P:Program}{ops:Array Oper}{Q:Exit->Act->World->Prop}(hd:∀(i:Nat) (o:Oper),ops[i]? =some o->∀c,o.op≠ .defer c)(hno:¬LetsOut Q):
  ∀(l:List Nat) (a:Act) (w:World),wpOps P ops Q l a w->wpOpsIn (Fence.wide.inRound r) n P ops Q l a w
 |[],_,_,h=>h
 |i::rest,a,w,h=>by
  unfold wpOps at h;unfold wpOpsIn;cases ho:ops[i]? with
  |none=>rw[ho]at h;exact qg hd hno rest a w h
  |some o=>
   rw[ho]at h;simp only[]at h|-;by_cases hw:ia o (yielded ops a.tmps)=true
   .rw[if_pos hw]at h|-;rcases h with h|⟨_,h⟩
    .refine⟨λ_ _=>trivial,?_⟩;show o.uponIn _ n P a _ Q ((Oper.semAt (some r) a.eval o).run P w);rw[yy r a.eval o (hd i o ho)];unfold Oper.wp at h;generalize (execOp a.eval o).run P w=res at h|-;cases res with
     |ok x w'=>
      cases x with
      |value v=>exact qg hd hno rest _ _ h
      |skip=>exact qg hd hno rest _ _ h
      |defer d=>exact qg hd hno rest _ _ h
      |enter f args=>
       refine⟨λh=>by simp[Fence.wide]at h,CallsIn.inRound r (callsIn_wide.2 (Calls.mono h ?_))⟩;intro e w'' he;cases e with
       |returned v=>exact qg hd hno rest _ _ he
       |panicked c=>exact he
       |outgrown=>exact he
      |row row args=>
       refine⟨λh=>by simp[Fence.wide]at h,ZL (Rows.mono h ?_)⟩;intro v w'' he;exact qg hd hno rest _ _ he
      |_=>exact h.elim
     |halt x w'=>cases x<;>first|exact h|exact h.elim
    grind
   .rw[if_neg hw]at h|-;exact⟨λ_ _=>trivial,qg hd hno rest _ _ h⟩
def Pg(Q:Exit->Act->World->Prop):Exit->Act->World->Prop:=λe a w=>e= .normal/\Q .normal a w
def Xy(Q:Exit->Act->World->Prop):¬LetsOut (Pg Q):=λh=>by obtain⟨a,w,e,_⟩:=h;cases e
def Xx{F:Fence}{n:Nat}{P:Program}{c:Code}{Q:Exit->Act->World->Prop}{a:Act}{w:World}(h:c.wpIn F n P (Pg Q) a w):c.wpIn F n P Q a w:=
 wpIn_mono h λe a w he=>by obtain⟨rfl,he⟩:=he;exact he
def Ss{P:Program}{ops:Array Oper}{Q:Exit->Act->World->Prop}{a0:Act}{w0:World}
  (hac:∀(i:Nat) (o:Oper),ops[i]? =some o->∀e∈o.after.toList,iD .any e=true->e.on<i)
  (Inv:(Nat->Bool)->Act->World->Prop) (h0:Inv (λ_=>false) a0 w0.drew)
  (hstep:∀(i:Nat) (o:Oper) (D:Nat->Bool) (a:Act) (w:World),ops[i]? =some o->Inv D a w->D i=false->(∀e∈o.after.toList,iD .any e=true->D e.on=true)->
    wpOp P ops Q i (λa' w'=>Inv (λj=>if j=i then true else D j) a' w') a w)
  (hend:∀(D:Nat->Bool) (a:Act) (w:World),Inv D a w->(∀i,i<ops.size->D i=true)->Q .normal a w):
  wpAny P .any ops Q ops.size (ng ops.size false) a0 w0.drew:=by
 refine(J5 hac Inv hstep hend _ _ _ _ (by simp) ?_ ?_)
 .simp
 .have e:(λj=>(ng ops.size false).getD j false)=(λ_=>false):=by
   funext j
   rw[fy,Array.getElem?_replicate];split<;>rfl
  grind
def TK{P:Program}{ops:Array Oper}{Q:Exit->Act->World->Prop}{a0:Act}{w0:World}
  (dsts:List Nat)
  (hok:((bQ ops.size).all λi=>((ops[i]?).map λo=>(o.after.toList.all λe=> !iD .any e||decide (e.on<i))&&(match o.dst with|some d=>dsts.contains d|none=>true)).getD true)=true)
  (hds:∀s∈dsts,s<a0.tmps.size)
  (F:(Nat->Bool)->(Nat->Value)->World->Prop) (h0:F (λ_=>false) (λs=>a0.tmps.getD s undef) w0.drew)
  (hstep:∀(i:Nat) (o:Oper) (D:Nat->Bool) (V:Nat->Value) (w:World),ops[i]? =some o->F D V w->D i=false->(∀e∈o.after.toList,iD .any e=true->D e.on=true)->
    (∀s,s∉dsts->V s=a0.tmps.getD s undef)->
    if ia o (gdV ops V)=true then
     cN P o V w (λv w'=>F (λj=>if j=i then true else D j) (match o.dst with|some d=>λs=>if s=d then v else V s|none=>V) w')
    else F (λj=>if j=i then true else D j) (match o.dst with|some d=>λs=>if s=d then undef else V s|none=>V) w)
  (hend:∀(D:Nat->Bool) (V:Nat->Value) (w:World),F D V w->(∀i,i<ops.size->D i=true)->Q .normal (iK a0 dsts V) w):
  wpAny P .any ops Q ops.size (ng ops.size false) a0 w0.drew:=by
 have hops:∀(i:Nat) (o:Oper),ops[i]? =some o->(∀e∈o.after.toList,iD .any e=true->e.on<i)/\(∀d,o.dst=some d->d∈dsts):=by
  intro i o ho;have hi:i<ops.size:=by grind
  rw[bk]at hok;have:=hok i (cG.2 hi);rw[ho]at this;simp only[eO,lH,bw]at this;obtain⟨g2,g3⟩:=this;refine⟨?_,?_⟩
  .grind
  .grind
 refine Ss (by grind) (λD a w=>a.defers=a0.defers/\a.tmps.size=a0.tmps.size/\(∀s,s∉dsts->a.tmps.getD s undef=a0.tmps.getD s undef)/\F D (λs=>a.tmps.getD s undef) w) (by grind) ?_ ?_
 .intro i o D a w ho ⟨i1,i2,i3,i4⟩ hD hpre;obtain⟨_,hdst⟩:=hops i o ho;have hrun:=hstep i o D (λs=>a.tmps.getD s undef) w ho i4 hD hpre i3;have hput:∀(v:Value) (w':World),F (λj=>if j=i then true else D j) (match o.dst with|some d=>λs=>if s=d then v else a.tmps.getD s undef|none=>λs=>a.tmps.getD s undef) w'->
    (a.put o.dst v).defers=a0.defers/\(a.put o.dst v).tmps.size=a0.tmps.size/\(∀s,s∉dsts->(a.put o.dst v).tmps.getD s undef=a0.tmps.getD s undef)/\F (λj=>if j=i then true else D j) (λs=>(a.put o.dst v).tmps.getD s undef) w':=by
   intro v w' hF;cases hd:o.dst with
   |none=>rw[hd]at hF;exact⟨i1,i2,i3,hF⟩
   |some d=>
    have hdm:=hdst d hd;have hget:∀s,(a.put (some d) v).tmps.getD s undef=if s=d then v else a.tmps.getD s undef:=by
     intro s;simp only[mh,fy,Array.getElem?_setIfInBounds];by_cases e:d=s
     .grind
     .grind
    refine⟨i1,by simpa[mh]using i2,?_,?_⟩
    .intro s hs;rw[hget,if_neg (by grind)];exact i3 s hs
    .have e:(λs=>(a.put (some d) v).tmps.getD s undef)=(λs=>if s=d then v else a.tmps.getD s undef):=funext hget;grind
  unfold wpOp;rw[ho];simp only[];rw[DF];by_cases hw:ia o (gdV ops λs=>a.tmps.getD s undef)=true
  .rw[if_pos hw]at hrun|-;refine .inl ?_;unfold Oper.wp;rw[Act.eval_evalV];unfold cN at hrun;cases hr:(execOp (bK λs=>a.tmps.getD s undef) o).run P w with
   |halt x w'=>grind
   |ok n w'=>
    rw[hr]at hrun;cases n<;>simp only[]at hrun<;>first|exact hrun.elim|skip
    .exact hput _ _ hrun
    .exact hput _ _ hrun
    .rename_i f args;refine hrun.mono ?_;rintro e w'' ⟨v,rfl,hK⟩;exact hput _ _ hK
  .rw[if_neg hw]at hrun|-;exact hput _ _ hrun
 .intro D a w ⟨i1,i2,i3,i4⟩ hall;obtain⟨p1,p2,p3⟩:=zC (λs=>a.tmps.getD s undef) dsts a0 hds;have e:iK a0 dsts (λs=>a.tmps.getD s undef)=a:=by
   obtain⟨t,df⟩:=a;have ht:(iK a0 dsts (λs=>t.getD s undef)).tmps=t:=by
    apply Array.ext
    .rw[p2];exact i2.symm
    .intro s h1 h2;have h3:=p3 s (by grind);rw[fy,Array.getElem?_eq_getElem h1,lH]at h3;rw[h3];by_cases hm:s∈dsts
     .rw[if_pos hm];simp[fy,h2]
     .rw[if_neg hm,<-i3 s hm];simp[fy,h2]
   have hdf:(iK a0 dsts (λs=>t.getD s undef)).defers=df:=p1.trans i1.symm;show iK a0 dsts (λs=>t.getD s undef)={tmps:=t,defers:=df};cases hp:iK a0 dsts (λs=>t.getD s undef)with
   |mk t' df'=>
    grind
  grind
def TM{P:Program}{l:List Oper}{Q:Exit->Act->World->Prop}{a0:Act}{w0:World}
  (dsts:List Nat) (anc:List (List Nat)) (hok:okF l anc=true) (hdst:((bQ l.length).all λi=>de l i==1000000||dsts.contains (de l i))=true) (hds:∀s∈dsts,s<a0.tmps.size)
  (WR:(Nat->Bool)->World->Prop) (fact:Nat->Value->World->Prop) (h0:WR (λ_=>false) w0.drew)
  (hmono:∀j v w w',fact j v w->Below w.heap.size w w'->fact j v w')
  (hstep:Ak (Pc P l anc a0 WR fact) l 0)
  (hend:∀(D:Nat->Bool) (V:Nat->Value) (w:World),(∀i,i<l.length->D i=true)->(∀i,i<l.length->fact i (lh l V i) w)->WR D w->Q .normal (iK a0 dsts V) w):
  wpAny P .any l.toArray Q l.toArray.size (ng l.toArray.size false) a0 w0.drew:=by
 unfold okF at hok;rw[bk]at hok;have hget:∀i o,l[i]? =some o->i<l.length:=by grind
 have hop:∀i o,l[i]? =some o->(∀e∈o.after.toList,iD .any e=true->e.on<i/\(fk anc i).contains e.on=true)/\o.guard=none/\
   (∀j,(fk anc i).contains j=true->j<i/\∃e∈o.after.toList,iD .any e=true/\(e.on=j\/(fk anc e.on).contains j=true))/\(∀d,o.dst=some d->de l i=d/\d≠1000000)/\(o.dst=none->de l i=1000000):=by
  intro i o ho;have h1:=hok i (cG.2 (hget i o ho));simp only[bw]at h1;obtain⟨⟨h2,h3⟩,_⟩:=h1;rw[ho]at h2;simp only[eO,lH,bw,Option.isNone_iff_eq_none,bne_iff_ne,ne_eq]at h2;refine⟨?_,h2.1.2,?_,?_,?_⟩
  .grind
  .intro j hj;rw[bk]at h3;have:=h3 j (by grind);simp only[bw,decide_eq_true_eq]at this;obtain⟨h4,h5⟩:=this;refine⟨h4,?_⟩;rw[ho]at h5;simp only[eO,lH,l0,bw,jv,beq_iff_eq]at h5;exact h5
  .intro d hd;refine⟨by unfold de;grind,?_⟩;grind
  .unfold de;grind
 have huniq:∀i j,i<l.length->j<l.length->j≠i->de l j=de l i->de l i=1000000:=by
  intro i j hi hj hne he;have h1:=hok i (cG.2 hi);simp only[bw]at h1;obtain⟨_,h3⟩:=h1;rw[bk]at h3;have:=h3 j (cG.2 hj);simp only[jv,beq_iff_eq,bne_iff_ne,ne_eq]at this;rcases this with(h|h)|h
  .omega
  .omega
  .exact h
 let G:(Nat->Bool)->(Nat->Value)->World->Prop:=λD V w=>
  (∀i j,D i=true->(fk anc i).contains j=true->D j=true)/\(∀i,i<l.length->D i=true->fact i (lh l V i) w)/\
  (∀s,(∀j,j<l.length->de l j=s->D j=false)->V s=a0.tmps.getD s undef)/\WR D w
 refine TK dsts ?_ hds G ?_ ?_ ?_
 .rw[bk];intro i hi;have hi':=cG.1 hi;have ho:l[i]? =some l[i] :=dp hi';simp only[List.getElem?_toArray,ho,eO,lH,bw];refine⟨?_,?_⟩
  .grind
  .cases hd:l[i].dst with
   |none=>rfl
   |some d=>
    grind
 .grind
 .intro i o D V w ho ⟨g1,g2,g3,g4⟩ hD hpre hV;have ho':l[i]? =some o:=by simpa using ho
  obtain⟨q1,q2,q3,q4,q5⟩:=hop i o ho';have hi:=hget i o ho';have hanc:∀j,(fk anc i).contains j=true->D j=true:=by
   intro j hj;obtain⟨_,e,he,hb,h⟩:=q3 j hj;have:=hpre e he hb;rcases h with rfl|h
   .exact this
   .grind
  have hdesc:∀j,(fk anc j).contains i=true->D j=false:=by
   intro j hj;cases hx:D j with
   |false=>rfl
   |true=>grind
  have hs:=Ix l 0 hstep i o ho';rw[jy]at hs;have hrun:=hs D V w hD (λj hj=>⟨hanc j hj,g2 j (Nat.lt_trans (q3 j hj).1 hi) (hanc j hj)⟩) hdesc (λs hsl=>g3 s (λj hj hjs=>by unfold O2 at hsl;grind)) g4
  rw[if_pos (by unfold ia;rw[q2])];have hmono':∀(K K':Value->World->Prop),(∀v w,K v w->K' v w)->cN P o V w K->cN P o V w K':=by
   intro K K' hk h;unfold cN at h|-;split at h
   .grind
   .grind
   .exact h.mono λe w'' ⟨v,he,hv⟩=>⟨v,he,hk _ _ hv⟩
   .exact h.elim
  have key:∀(U:Nat->Value) (v:Value) (w':World),(∀s,s≠de l i->U s=V s)->(de l i≠1000000->U (de l i)=v)->
    (fact i (if de l i=1000000 then undef else v) w'/\WR (gT D i) w'/\(w'=w\/Below w.heap.size w w'\/∀j,D j=true->fact j (lh l V j) w->fact j (lh l V j) w'))->G (gT D i) U w':=by
   rintro U v w' hVd hVv ⟨k1,k2,k3⟩;refine⟨?_,?_,?_,k2⟩
   .intro i' j h1 h2;by_cases e:j=i
    .simp[gT,e]
    .by_cases e':i'=i
     .simp only[gT,e,if_false];grind
     .simp only[gT,e',if_false]at h1;simp only[gT,e,if_false];grind
   .intro i' hi' h1;by_cases e:i'=i
    .subst e;have:lh l U i'=if de l i'=1000000 then undef else v:=by
      unfold lh;by_cases h6:de l i'=1000000
      .grind
      .grind
     grind
    .simp only[gT,e,if_false]at h1;have:lh l U i'=lh l V i':=by
      unfold lh;by_cases h6:de l i'=1000000
      .grind
      .grind
     rw[this];have h8:=g2 i' hi' h1;rcases k3 with rfl|k3|k3
     .exact h8
     .grind
     grind
   .intro s hs;have hne:s≠de l i:=by intro h;have:=hs i hi h.symm;simp[gT]at this
    rw[hVd s hne];refine g3 s (λj hj hjs=> ?_);have:=hs j hj hjs;by_cases e:j=i
    .grind
    .simpa[gT,e]using this
  refine hmono' _ _ ?_ hrun;intro v w' hk;show G (gT D i) _ w';cases hd:o.dst with
  |none=>
   have e1:=q5 hd;refine key _ v w' ?_ (λh=>absurd e1 h) hk;grind
  |some d=>
   refine key _ v w' ?_ ?_ hk
   .grind
   grind
 grind
def C3{r n:Nat}{P:Program}{id:Nat}{l:List Oper}{Q:Exit->Act->World->Prop}{a0:Act}{w0:World}(hm:P.follows .mixedOrders=true)
  (hdf:(l.all λo=>match o.op with| .defer _=>false|_=>true)=true)
  (dsts:List Nat) (anc:List (List Nat)) (hok:okF l anc=true) (hdst:((bQ l.length).all λi=>de l i==1000000||dsts.contains (de l i))=true) (hds:∀s∈dsts,s<a0.tmps.size)
  (WR:(Nat->Bool)->World->Prop) (fact:Nat->Value->World->Prop) (h0:WR (λ_=>false) w0.drew)
  (hmono:∀j v w w',fact j v w->Below w.heap.size w w'->fact j v w')
  (hstep:Ak (Pc P l anc a0 WR fact) l 0)
  (hend:∀(D:Nat->Bool) (V:Nat->Value) (w:World),(∀i,i<l.length->D i=true)->(∀i,i<l.length->fact i (lh l V i) w)->WR D w->Q .normal (iK a0 dsts V) w):
  (Code.region id l.toArray true).wpIn (Fence.wide.inRound r) n P Q a0 w0:=by
 refine Xx (wpIn_region_draw λt=> ?_);simp only[Region.schedule,hm,Bool.true_or,if_true];refine qg ?_ (Xy Q) _ _ _ (wpAny_sound _ t _ _ _ (TM dsts anc hok hdst hds WR fact h0 hmono hstep λD V w h1 h2 h3=>⟨rfl,by grind⟩));grind
def RdV(w:World)(a:Option Addr)(xs:List V):Prop:=
 ∀i,i<xs.length->∃b off,a=some ⟨b,off,none⟩/\b<w.heap.size/\w.cell? ⟨b,off+i*2,none⟩=some (.int .i64 (aEY xs i).x)/\w.cell? ⟨b,off+i*2+1,none⟩=some (.int .i64 (aEY xs i).y)
def RdV.below{w w':World}{a:Option Addr}{xs:List V}(h:RdV w a xs)(hb:Below w.heap.size w w'):RdV w' a xs:=by intro i hi;obtain⟨b,off,ha,hlt,h1,h2⟩:=h i hi;exact⟨b,off,ha,vl hlt hb.size,(hb.cell (p:=⟨b,_,none⟩) hlt).trans h1,(hb.cell (p:=⟨b,_,none⟩) hlt).trans h2⟩
def ir(xs:List S):List Value:=xs.flatMap λs=>[.int .i64 s.a.x,.int .i64 s.a.y,.int .i64 s.b.x,.int .i64 s.b.y]
def Iv(xs:List S):(ir xs).length=xs.length*4:=by
 induction xs with
 |nil=>rfl
 |cons s l ih=>unfold ir at*;simp only[fM,eW,ih,gk,lv];omega
def TX(xs ys:List S):ir (xs++ys)=ir xs++ir ys:=by unfold ir;grind
def Rd.Nn{w:World}{base:Nat}{e:TypeId}{size:Nat}{v:Value}{n:Nat}{cs:List Value}(h:w.ownsRow base e size v n cs):∃a c,v= .slice a n c/\Rd w a cs/\jV base a/\(a=none->c=0)/\n<=c:=by
 obtain⟨a,c,hv,h1,h2,h3⟩:=Rd.GU h;refine⟨a,c,hv,h1,h2,h3,?_⟩;rcases h.2 with⟨h4,h5⟩|⟨g,cap,cur,h4,_,_,h5,_⟩
 .omega
 grind
def Ir{w:World}{base base':Nat}{e:TypeId}{size:Nat}{v:Value}{n:Nat}{xs:List Value}(h:w.ownsRow base e size v n xs)(hb:base'<=base):w.ownsRow base' e size v n xs:=
 ⟨h.1,h.2.imp id λ⟨g,cap,cur,h1,h2,h3⟩=>⟨g,cap,cur,h1,cF hb h2,h3⟩⟩
def kB(xs:List V):List Value:=xs.flatMap λv=>[.int .i64 v.x,.int .i64 v.y]
def DB(xs:List V):(kB xs).length=xs.length*2:=by
 induction xs with
 |nil=>rfl
 |cons s l ih=>unfold kB at*;grind
def EN(xs:List V):∀(i:Nat),i<xs.length->(kB xs)[i*2]? =some (.int .i64 (aEY xs i).x)/\(kB xs)[i*2+1]? =some (.int .i64 (aEY xs i).y):=by
 induction xs with
 |nil=>grind
 |cons s l ih=>
  intro i hi;have e:kB (s::l)=[.int .i64 s.x,.int .i64 s.y] ++kB l:=by unfold kB;rw[fM]
  rw[e];cases i with
  |zero=>simp[aEY]
  |succ i=>
   have h:=ih i (by grind);have e0:(i+1)*2=2+i*2:=by omega
   rw[e0,kZ (by simp),kZ (by simp;omega)];simpa[rS,Nat.add_sub_cancel_left,aEY]using h
def RdV.aBe{w:World}{a:Option Addr}{xs:List V}(h:Rd w a (kB xs)):RdV w a xs:=by intro i hi;obtain⟨g0,g1⟩:=EN xs i hi;obtain⟨b,off,ha,hlt,h0⟩:=h _ _ g0;obtain⟨b',off',he,_,h1⟩:=h _ _ g1;grind
def RdV.rd{w:World}{a:Option Addr}{xs:List V}(h:RdV w a xs):Rd w a (kB xs):=by intro i u hi;have hlt:i<(kB xs).length:=(rX.1 hi).1;rw[DB]at hlt;obtain⟨g0,g1⟩:=EN xs (i/2) (by omega);obtain⟨b,off,ha,hb,h0,h1⟩:=h (i/2) (by omega);refine⟨b,off,ha,hb,?_⟩;grind
structure RV where
 a:Option Addr
 c:Nat
 r:aH
instance:Inhabited RV:=⟨⟨none,0,[]⟩⟩
def RV.enc(x:RV):Value:= .slice x.a x.r.length x.c
def Len(x:RV):Prop:=x.r.length<=1000/\x.r.length<=x.c/\(x.a=none->x.c=0)
def nO(w:World):bG:=λb o v=>w.cell? ⟨b,o,none⟩=some v
def pU{w:World}{a:Option Addr}{c:Nat}{r:List V}(h:RdV w a r)(hl:Len ⟨a,c,r⟩):aX (nO w) (.sl r.length (fZ r)) (.slice a r.length c):=by
 obtain⟨_,h2,h3⟩:=hl;dsimp only at h2 h3;unfold aX;refine⟨a,c,rfl,h2,λha=>⟨h3 ha,?_⟩,?_⟩
 .cases r with
  |nil=>rfl
  |cons v r=>grind
 .rintro ad rfl;refine⟨λh0=> ?_,cP.of _ _ _ λi x hi=> ?_⟩
  .obtain⟨b,off,hb,_⟩:=h 0 h0;cases hb;rfl
  .have hlt:i<(fZ r).length:=(rX.1 hi).1;rw[ur.length]at hlt;obtain⟨b,off,hb,_,h0,h1⟩:=h (i/2) (by omega);cases hb;have h4:=Z0 (v:=r) (i:=i/2) (by omega);have g:∀j,j<2->(fZ r)[i/2*2+j]? =([.int .i64 (aEY r (i/2)).x,.int .i64 (aEY r (i/2)).y] :List PV)[j]? :=λj hj=>by grind
   rcases Nat.mod_two_eq_zero_or_one i with hm|hm
   .have:=g 0 (by decide);rw[show i/2*2+0=i by omega,hi]at this;cases this;exact⟨_,by show w.cell? _=_;rw[show off+i=off+i/2*2 by omega];exact h0,rfl,by unfold aX;rfl⟩
   .have:=g 1 (by decide);rw[show i/2*2+1=i by omega,hi]at this;cases this;exact⟨_,by show w.cell? _=_;rw[show off+i=off+i/2*2+1 by omega];exact h1,rfl,by unfold aX;rfl⟩
def az.one{C:bG}{x:PV}{v:Value}(h:aX C x v):az C [x] [v] :=by unfold az;exact⟨_,_,rfl,h,by unfold az;rfl⟩
def az.By{C:bG}{x:PV}{v:Value}{l:List PV}{vs:List Value}(h:aX C x v)(h2:az C l vs):az C (x::l) (v::vs):=by unfold az;grind
def xI{f:FuncId}{xs:List SV}{r:SV}{B:List PV}{q:PV}{vs:List Value}{u:Value}{w:World}(h:∃A q,avs xs=A.map .p/\r.av= .p q/\Sat bE false f A q)(hB:avs xs=B.map .p)(hq:r.av= .p q)
  (hu:∀C v,aX C q v->v=u) (hr:az (nO w) B vs):Calls bE f vs.toArray w λe w'=>e= .returned u/\Below w.heap.size w w':=by
 obtain⟨A,q',h1,h2,h3⟩:=h;rw[hq]at h2;cases h2;rw[hB]at h1;have:B=A:=by have:=congrArg bM h1;rw[dU,dU]at this;cases this;rfl
 subst this;refine(h3.2 (nO w) w vs (λ_ _ _ h=>h) hr).mono ?_;grind
def TF(a:Option Addr)(c:Nat)(xs:List V)(w:World)(h:RdV w a xs)(hl:Len ⟨a,c,xs⟩):
  Calls bE 83 #[.slice a xs.length c] w λe w'=>e= .returned (.bool (co xs))/\Below w.heap.size w w':=
 xI (k83 [.lst .V xs] xs rfl ((jd (l:=c83.pre xs)).1 hl.1)) (B:=[.sl xs.length (fZ xs)]) rfl rfl (λC v h=>by unfold aX at h;exact h) (az.one (pU h hl))
def K9(a:Option Addr)(c:Nat)(xs:List V)(w:World)(h:RdV w a xs)(hl:Len ⟨a,c,xs⟩):
  Calls bE 89 #[.slice a xs.length c] w λe w'=>e= .returned (.int .i64 (if co xs then area xs else 0))/\Below w.heap.size w w':=
 xI (k89 [.lst .V xs] xs rfl ((jd (l:=c89.pre xs)).1 hl.1)) (B:=[.sl xs.length (fZ xs)]) rfl rfl (λC v h=>by unfold aX at h;exact h) (az.one (pU h hl))
def m6(a:Option Addr)(c:Nat)(xs:List V)(a':Option Addr)(c':Nat)(ys:List V)(p:Int)(w:World)(h':RdV w a' ys)(hl':Len ⟨a',c',ys⟩)(h:RdV w a xs)(hl:Len ⟨a,c,xs⟩):
  Calls bE 123 #[.slice a xs.length c,.slice a' ys.length c',.int .i64 p] w λe w'=>e= .returned (.bool (aE5 xs ys p))/\Below w.heap.size w w':=
 xI (R3 [.lst .V xs,.lst .V ys,.int .i64 p] (xs,ys,p) rfl ((jd (l:=SA.pre (xs,ys,p))).1 ⟨hl.1,hl'.1⟩)) (B:=[.sl xs.length (fZ xs),.sl ys.length (fZ ys),.int .i64 p]) rfl rfl (λC v h=>by unfold aX at h;exact h)
  ((az.one (by unfold aX;rfl)).By (pU h' hl')|>.By (pU h hl))
def AM(a:Option Addr)(c:Nat)(xs:List V)(a':Option Addr)(c':Nat)(ys:List V)(w:World)(h:RdV w a xs)(h':RdV w a' ys)(hl:Len ⟨a,c,xs⟩)(hl':Len ⟨a',c',ys⟩):
  Calls bE 124 #[.slice a xs.length c,.slice a' ys.length c'] w λe w'=>e= .returned (.bool (eE xs ys))/\Below w.heap.size w w':=
 xI (R0 [.lst .V xs,.lst .V ys] (xs,ys) rfl ((jd (l:=R9.pre (xs,ys))).1 ⟨hl.1,hl'.1⟩)) (B:=[.sl xs.length (fZ xs),.sl ys.length (fZ ys)]) rfl rfl (λC v h=>by unfold aX at h;exact h)
  ((az.one (pU h' hl')).By (pU h hl))
def Nh{f:FuncId}{t:LT}{ty:Nat}{l:List t.ty}{n:List Int}(he:t.enc l=n.map (PV.int .i64)){a:Option Addr}{c:Nat}{xs:List V}{w:World}(h:RdV w a xs)(hl:Len ⟨a,c,xs⟩)
  (hk:∃A Y,avs [SV.lst .V xs] =A.map .p/\avs [] =Y.map .p/\vS bE f A ty t.w (t.enc l) l.length Y):
  Calls bE f #[.slice a xs.length c] w λe w'=>∃a' c',e= .returned (.slice a' l.length c')/\Rd w' a' (n.map (cg .i64))/\jV w.heap.size a'/\(a'=none->c'=0)/\l.length<=c'/\Below w.heap.size w w':=by
 obtain⟨A,Y,h1,h2,h3⟩:=hk;cases Y with
 |cons y Y=>simp[avs]at h2
 |nil=>
 have hA:A=[.sl xs.length (fZ xs)] :=by have h1:[AV.p (.sl xs.length (fZ xs))] =A.map .p:=h1;have:=congrArg bM h1;rw[dU]at this;cases this;rfl
 subst hA;refine(h3.2.2 (nO w) w [_] (λ_ _ _ h=>h) (az.one (pU h hl))).mono ?_;rintro e w' ⟨v,us,q,c',rfl,hb,hys,hrow⟩;unfold az at hys;subst hys;rw[he]at hrow;rcases hrow with⟨_,rfl,hm,hn,_⟩|⟨b,arr,_,rfl,h4,h5,h6,_,h7,_,h8⟩
 .refine⟨none,0,by rw[hm];rfl,(λi u hi=>by simp_all),(λb hb=>by cases hb),(λ_=>rfl),by omega,hb⟩
 .refine⟨some ⟨b,0,none⟩,c',rfl,λi u hi=> ?_,λb' hb'=>by grind,(λe=>by cases e),h4,hb⟩;rw[gW,l5]at hi;obtain⟨n,hn,rfl⟩:=hi;obtain⟨u,g1,_,g2⟩:=h8 i (.int .i64 n) (by grind);unfold aX at g2;subst g2;exact⟨b,0,rfl,(v7.1 h6).1,by rw[jy,cell_of_row w' b i arr ty (0,0) h6];exact g1⟩
def Wh(a:Option Addr)(c:Nat)(xs:List V)(w:World)(h:RdV w a xs)(hl:Len ⟨a,c,xs⟩):
  Calls bE 155 #[.slice a xs.length c] w λe w'=>∃a' c',e= .returned (.slice a' (aJ xs).length c')/\Rd w' a' (ir (aJ xs))/\jV w.heap.size a'/\(a'=none->c'=0)/\Below w.heap.size w w':=by
 have e1:ir (aJ xs)=((aJ xs).flatMap λs=>[s.a.x,s.a.y,s.b.x,s.b.y]).map (cg .i64):=by unfold ir;rw[IW];rfl
 rw[e1];refine(Nh (t:= .S) (l:=aJ xs) (n:=(aJ xs).flatMap λs=>[s.a.x,s.a.y,s.b.x,s.b.y]) (by unfold LT.enc;rw[IW];rfl) h hl (Rx [.lst .V xs] xs rfl ((jd (l:=R6.pre xs)).1 hl.1))).mono ?_;rintro e w' ⟨a',c',h1,h2,h3,h4,_,h5⟩;exact⟨a',c',h1,h2,h3,h4,h5⟩
section
open Go.RowKit Go.Shelf
attribute [local go_sem] yy
def RdH(n0:Nat)(w:World)(ah:Option Addr)(hs:List RV):Prop:=∀i,i<hs.length->∃b off,ah=some ⟨b,off,none⟩/\b<n0/\w.cell? ⟨b,off+i,none⟩=some (RV.enc (hs.getD i default))
def RdH.below{n0:Nat}{w w':World}{ah:Option Addr}{hs:List RV}(h:RdH n0 w ah hs)(hb:Below n0 w w'):RdH n0 w' ah hs:=by intro i hi;obtain⟨b,off,ha,hlt,h1⟩:=h i hi;exact⟨b,off,ha,hlt,(hb.cell (p:=⟨b,_,none⟩) hlt).trans h1⟩
def RdH.mono{n0 n1:Nat}{w:World}{ah:Option Addr}{hs:List RV}(h:RdH n0 w ah hs)(hn:n0<=n1):RdH n1 w ah hs:=by intro i hi;obtain⟨b,off,ha,hlt,h1⟩:=h i hi;grind
def Kp2(n0 b:Nat)(W W':World):Prop:=Below n0 W W'/\W'.heap[b]? =W.heap[b]?
def Kp2.trans{n0 b:Nat}{A B C:World}(h:Kp2 n0 b A B)(k:Kp2 n0 b B C):Kp2 n0 b A C:=⟨h.1.trans k.1,k.2.trans h.2⟩
def Kp2.blk{n0 b:Nat}{W W':World}{t:TypeId}{cs:Array Value}(h:Kp2 n0 b W W')(hb:Blk W b t cs):Blk W' b t cs:=h.2.trans hb
def V5(F:Fence)(n:Nat)(h179:F.fn 179)(hro:F.round=none)(hn:1<=n)(l b n0:Nat)(o:RV)(ah:Option Addr)(ch:Nat)(hs:List RV)(hhs:hs.length<=1000)(J Jx:List RV->World->Prop)
  (hY:∀pre x W,x∈o::hs->J pre W->pre.length<hs.length+1->YieldAt F (n-1) bE l #[RV.enc x] W λe W'=>
    (e= .returned (.bool true)/\J (pre++[x]) W'/\Kp2 n0 b W W')\/(e= .returned (.bool false)/\Jx (pre++[x]) W'))
  (W:World) (hB:Blk W b 26 #[RV.enc o,.slice ah hs.length ch]) (hH:RdH n0 W ah hs) (h0:J [] W):
  CallsIn F n bE 179 #[.func (.yield l) #[] #[],.pointer (some ⟨b,0,none⟩)] W λe W'=>(∃v,e= .returned v)/\
   ((∃ys,ys=o::hs/\J ys W')\/(∃pre,pre<+:o::hs/\Jx pre W')):=by
 obtain⟨fn,tmps,assign,body,hy,hR⟩:=hY [] o W cI h0 (by simp);dsimp only[RV.enc]at hy;have c0:=hB.cell 0;have c1:=hB.cell 1;simp[RV.enc]at c0 c1;refine callsIn_of_wp Ct rfl h179 ?_ hro;simp only[Tryz.ntmps179,rW,gk,lv,v8,wA,wC,wD,wF,wG,qT,kM]
 gi_wp2
 refine hR.mono ?_;rintro e W1 (⟨rfl,hJ1,hk1⟩|⟨rfl,hJx1⟩)
 .have hB1:=hk1.blk hB;have hH1:=hH.below hk1.1;clear c0 c1 hR hy;have c0:=hB1.cell 0;have c1:=hB1.cell 1;simp[RV.enc]at c0 c1
  gi_wp2
  gi_loopw [4,13] (λ_ i wr=>∃k:Nat,k<=hs.length/\i= .int .i64 k/\J (o::hs.take k) wr/\Kp2 n0 b W1 wr) (λ_ i _=>hs.length-(intOf i).toNat)
  case atStart=>exact⟨0,by omega,rfl,by grind,Below.refl _ _,rfl⟩
  case round=>
   obtain⟨k,hk,rfl,hJr,hkr⟩:=hrel;by_cases hlt:k<hs.length
   .obtain⟨bb,off,rfl,hbb,p0⟩:=hH1.below hkr.1 k hlt;have hblt:bb<wr.heap.size:=by
     rcases nY bb wr.heap.size with h|h
     .exact h
     .simp[World.cell?,Array.getElem?_eq_none h]at p0
    have htk:o::hs.take (k+1)=(o::hs.take k)++[hs.getD k default] :=by rw[lJ,List.getD_eq_getElem?_getD,dp hlt];simp
    obtain⟨fn,tmps,assign,body,hy,hR⟩:=hY (o::hs.take k) (hs.getD k default) wr (cE _ (by grind)) hJr (by simp;omega);rw[<-htk]at hR;dsimp only[RV.enc]at hy;unfold RV.enc at p0;clear htk;generalize hs.getD k default=z at hy p0
    gi_wp2
    refine hR.mono ?_;rintro e W3 (⟨rfl,hJ3,hk3⟩|⟨rfl,hJx3⟩)
    .gi_wp2
     go_roundw
     case rel=>exact⟨k+1,by omega,by go_num,hJ3,hkr.trans hk3⟩
     case measure=>simp[intOf];omega
    .gi_wp2
     refine bodyPost_ret (results_none rfl _ _ _) rfl ?_;grind
   .have hk2:k=hs.length:=by omega
    subst hk2;rw[ke]at hJr
    gi_wp2
    go_end0
    grind
 .gi_wp2
  refine bodyPost_ret (results_none rfl _ _ _) rfl ?_;grind
def zA(F:Fence)(n:Nat)(h179:F.fn 179)(hro:F.round=none)(hn:1<=n)(b n0:Nat)(o:RV)(ah:Option Addr)(ch:Nat)(hs:List RV)(hhs:hs.length<=1000)(w:World)(hn0:n0<=w.heap.size)(hB:Blk w b 26 #[RV.enc o,.slice ah hs.length ch])(hH:RdH n0 w ah hs):
  SeqStopsK F n bE 179 #[.pointer (some ⟨b,0,none⟩)] (λx:{x:RV//x∈o::hs}=> #[RV.enc x.1]) (Kp2 n0 b) (λys=>ys.map (·.1)=o::hs) (λpre=>pre.map (·.1)<+:o::hs) (hs.length+1) w:=λl J Jx W hW _ _ hY h0=>by
 refine(V5 F n h179 hro hn l b n0 o ah ch hs hhs (λpre W=>∃p:List {x:RV//x∈o::hs},p.map (·.1)=pre/\J p W) (λpre W=>∃p:List {x:RV//x∈o::hs},p.map (·.1)=pre/\Jx p W) ?_ W (hB.then_ hW) (hH.below (hW.mono hn0)) ⟨[],rfl,h0⟩).mono ?_
 .rintro pre x W' hx ⟨p,rfl,hJ⟩ hl;obtain⟨fn,tmps,assign,body,hy,hR⟩:=hY p ⟨x,hx⟩ W' hJ (by grind);refine⟨fn,tmps,assign,body,hy,hR.mono ?_⟩;grind
 grind
def Bv{n0 b:Nat}{w:World}(hn:n0<=w.heap.size)(hb:b<w.heap.size)(W:World)(l:Nat)(o o':Obj)(hl:w.heap.size<=l)(h:W.heap[l]? =some o)(h1:o.isCells=false)(h2:o.isWalk=false):Kp2 n0 b W (W.putObj l o'):=
 ⟨belowK_b hn W l o o' hl h h1 h2,World.putObj_heap_other (by omega)⟩
def zm(o:RV)(ah:Option Addr)(nh ch:Nat)(w:World):
  Calls bE 122 #[.agg #[RV.enc o,.slice ah nh ch]] w λe w'=>e= .returned (.func (.func 179) #[] #[.pointer (some ⟨w.heap.size,0,none⟩)])/\w'=w.alloc (.cells #[RV.enc o,.slice ah nh ch] 26):=by
 unfold RV.enc
 go_enter Tryz.func122,Tryz.ntmps122
 go_wp2
 go_ret
 simp_all
end
section
open Go.RowKit Go.Shelf
attribute [local go_sem] yy
structure RdSh(w:World)(o:RV)(ah:Option Addr)(hs:List RV):Prop where
 h:RdH w.heap.size w ah hs
 v:∀x∈o::hs,RdV w x.a x.r/\Len x
 n:hs.length<=1000
def RdSh.below{w w':World}{o:RV}{ah:Option Addr}{hs:List RV}(H:RdSh w o ah hs)(hb:Below w.heap.size w w'):RdSh w' o ah hs:=
 ⟨(H.h.below hb).mono hb.size,λx hx=>⟨(H.v x hx).1.below hb,(H.v x hx).2⟩,H.n⟩
def eK(o:RV)(hs:List RV):Shape:=⟨o.r,hs.map RV.r⟩
section
variable {F:Fence} {n:Nat} {P:Program} {fn:Func} {R:Ending->World->Prop} {a:Act} {w:World} {v:Value}
def JW(hr:(results fn a.tmps).run P w= .ok v w)(hd:a.defers=[])(hR:R (.returned v) w):bodyPostM F n P fn R .ret a w:=by show LeavesInM F n P fn a.tmps R a.defers .returning w;rw[hd];exact⟨v,hr,hR⟩
def JV{D:Nat}(hd:a.defers=[{target:= .collected D,args:= #[]}])(hK:w.heap[D]? =some (.deferred (some [])))(hr:(results fn a.tmps).run P (w.putObj D (.deferred none))= .ok v (w.putObj D (.deferred none)))
  (hR:R (.returned v) (w.putObj D (.deferred none))):bodyPostM F n P fn R .ret a w:=by
 show LeavesInM F n P fn a.tmps R a.defers .returning w;rw[hd];exact⟨by simp,.inl ⟨_,_,rfl,run_takeDeferred hK,v,hr,hR⟩⟩
end
def mq{n0 D:Nat}{W:World}(hD:n0<=D)(hK:W.heap[D]? =some (.deferred (some []))):Below n0 W (W.putObj D (.deferred none)):=
 (Below.refl n0 W).grown (grownBy_putObj' W D _) (by grind) (λk e=>by grind)
def zL{W W':World}(h:Below W.heap.size W W'):KeepsOthers W W':=
 ⟨h.size,λk _o hk _=>(h.block k (v7.1 hk).1).trans hk⟩
def mz{β:Type}{B g:Nat}{t:TypeId}{cs:β->Array Value}:OwnFrom B (λ(s:β) W=>Blk W g t (cs s)):=λs W W' row h hg hr=>by have h':W.heap[g]? =some (.cells (cs s) t (0,0)):=h;show W'.heap[g]? =some (.cells (cs s) t (0,0));refine(hg.block g (v7.1 h').1 ?_).trans h';intro e;obtain⟨_,o,ho,hc⟩:=hr g e.symm;rw[h']at ho;cases ho;cases hc
def qy{β:Type}{B:Nat}{p:β->Prop}:OwnFrom B (λ(s:β) (_:World)=>p s):=λ_ _ _ _ h _ _=>h
def Yn{W:World}{D g:Nat}{t:TypeId}{cs:Array Value}(h:Blk W g t cs)(hK:W.heap[D]? =some (.deferred (some [])))(o':Obj):Blk (W.putObj D o') g t cs:=by have h':W.heap[g]? =some (.cells cs t (0,0)):=h;refine(World.putObj_heap_other ?_).trans h';grind
def qw{F:Fence}{n:Nat}{R:Ending->World->Prop}{W:World}{D s:Nat}{T:Array Value}{v:Bool}(hT:T.getD 2 undef= .pointer (some ⟨s,0,none⟩))(b2:Blk W s 4 #[.bool v])(hK:W.heap[D]? =some (.deferred (some [])))
  (hR:R (.returned (.bool v)) (W.putObj D (.deferred none))):bodyPostM F n bE Tryz.f55 R .ret {tmps:=T,defers:=[{target:= .collected D,args:= #[]}]} W:=by
 refine JV (v:= .bool v) rfl hK ?_ hR;have c2:=(Yn b2 hK (.deferred none)).cell 0;simp at c2;rw[fy]at hT;simp[results,Tryz.f55,go_sem,hT,c2]
def Tk{s:Shape}(h:6<s.holes.length):ak s=false:=by unfold ak;grind
def lc(o:aH)(L:List aH)(i:Nat):Bool:=aE5 (aC L i) o 2&&eE (aC L i) o&&
 ((bQ i).all λk=>eE (aC L i) (aC L k)&&aE5 (aC L i) (aC L k) 0&&aE5 (aC L k) (aC L i) 0)
def s8(L:List aH)(i k:Nat):Bool:=eE (aC L i) (aC L k)&&aE5 (aC L i) (aC L k) 0&&aE5 (aC L k) (aC L i) 0
def wM(s:Shape):ak s=(decide (s.holes.length<=6)&&(aD s).all co&&decide (gF s<=80)&&((bQ s.holes.length).all (lc s.outer s.holes))):=rfl
def Tl{s:Shape}{i:Nat}(hi:i<s.holes.length)(h:lc s.outer s.holes i=false):ak s=false:=by rw[wM];grind
def Su{s:Shape}(h:80<gF s):ak s=false:=by rw[wM,decide_eq_false (show¬gF s<=80 by omega)];simp
def Tj{s:Shape}{r:aH}(hr:r∈aD s)(h:co r=false):ak s=false:=by rw[wM];grind
def UX{s:Shape}(h1:¬6<s.holes.length)(h2:∀r∈aD s,co r=true)(h3:¬80<gF s)(h4:∀i,i<s.holes.length->lc s.outer s.holes i=true):ak s=true:=by rw[wM,decide_eq_true (show s.holes.length<=6 by omega),decide_eq_true (show gF s<=80 by omega),bk.2 h2];grind
def WX{o:aH}{L:List aH}{i:Nat}(h1:aE5 (aC L i) o 2=true)(h2:eE (aC L i) o=true)(h3:∀k,k<i->s8 L i k=true):lc o L i=true:=by unfold lc;rw[h1,h2];simp only[nT,bk,cG];exact h3
def VC{o:aH}{L:List aH}{i:Nat}(h1:aE5 (aC L i) o 2=false):lc o L i=false:=by unfold lc;rw[h1];simp
def VB{o:aH}{L:List aH}{i:Nat}(h1:eE (aC L i) o=false):lc o L i=false:=by unfold lc;rw[h1];simp
def VA{o:aH}{L:List aH}{i k:Nat}(hk:k<i)(h1:s8 L i k=false):lc o L i=false:=by unfold lc;have:((bQ i).all λk=>eE (aC L i) (aC L k)&&aE5 (aC L i) (aC L k) 0&&aE5 (aC L k) (aC L i) 0)=false:=v6.2 ⟨k,cG.2 hk,by simpa[s8]using h1⟩;grind
def X4(hs:List RV){k:Nat}(hk:k<hs.length):aC (hs.map RV.r) k=(hs.getD k default).r:=by unfold aC;grind
def MQ(hs:List RV){k:Nat}(hk:k<hs.length):hs.getD k default∈hs:=by grind
def Cz(o:RV)(ah:Option Addr)(ch:Nat)(hs:List RV)(w:World)(H:RdSh w o ah hs)(hch:hs.length<=ch):
  Calls bE 55 #[.agg #[RV.enc o,.slice ah hs.length ch]] w λe w'=>e= .returned (.bool (ak (eK o hs)))/\Below w.heap.size w w':=by
 have hN:=H.n;by_cases c1:6<hs.length
 .have HV:Hid (ak (eK o hs)=false):=Lib.hid (Tk (by unfold eK;grind));have d1:decide ((6:Int)<hs.length)=true:=decide_eq_true (by omega);refine(callsIn_wide (n:=9)).1 (callsIn_of_wp_marks Tryz.func55 rfl trivial ((wpIn_wide (n:=9)).2 ?_) rfl);simp only[Tryz.ntmps55,rW,gk,lv,v8,wA,wC,wD,wF,wG,qT,kM];dsimp only[RV.enc]
  go_wp2_with fail
  have hBW:Below w.heap.size w (((w.alloc (.cells #[.slice o.a o.r.length o.c,.slice ah hs.length ch] 26)).alloc (.cells #[.bool false] 4))):=((Below.refl _ _).alloc (bI _) _).alloc (by simp) _;refine JW (v:= .bool false) ?_ rfl ?_
  .simp[results,Tryz.f55,go_sem]
  .exact⟨by rw[HV.out],hBW⟩
 .have d1:decide ((6:Int)<hs.length)=false:=decide_eq_false (by omega);refine(callsIn_wide (n:=9)).1 (callsIn_of_wp_marks Tryz.func55 rfl trivial ((wpIn_wide (n:=9)).2 ?_) rfl);simp only[Tryz.ntmps55,rW,gk,lv,v8,wA,wC,wD,wF,wG,qT,kM];dsimp only[RV.enc]
  go_wp2_with fail
  refine(zm o ah hs.length ch _).mono ?_;rintro e w1 ⟨rfl,rfl⟩
  go_wp2_with fail
  have B1:=(((Blk.new w 26 #[.slice o.a o.r.length o.c,.slice ah hs.length ch]).alloc (.cells #[.bool false] 4)).alloc (.cells #[.int .i64 0] 3)).alloc (.cells #[RV.enc o,.slice ah hs.length ch] 26);have B2:=((Blk.new (w.alloc (.cells #[.slice o.a o.r.length o.c,.slice ah hs.length ch] 26)) 4 #[.bool false]).alloc (.cells #[.int .i64 0] 3)).alloc (.cells #[RV.enc o,.slice ah hs.length ch] 26);have B3:=(Blk.new ((w.alloc (.cells #[.slice o.a o.r.length o.c,.slice ah hs.length ch] 26)).alloc (.cells #[.bool false] 4)) 3 #[.int .i64 0]).alloc (.cells #[RV.enc o,.slice ah hs.length ch] 26);have B4:=Blk.new (((w.alloc (.cells #[.slice o.a o.r.length o.c,.slice ah hs.length ch] 26)).alloc (.cells #[.bool false] 4)).alloc (.cells #[.int .i64 0] 3)) 26 #[RV.enc o,.slice ah hs.length ch];have hBW:Below w.heap.size w ((((w.alloc (.cells #[.slice o.a o.r.length o.c,.slice ah hs.length ch] 26)).alloc (.cells #[.bool false] 4)).alloc (.cells #[.int .i64 0] 3)).alloc (.cells #[RV.enc o,.slice ah hs.length ch] 26)):=((((Below.refl _ _).alloc (bI _) _).alloc (by simp) _).alloc (by simp;omega) _).alloc (by simp;omega) _;have hs0:w.heap.size+4=((((w.alloc (.cells #[.slice o.a o.r.length o.c,.slice ah hs.length ch] 26)).alloc (.cells #[.bool false] 4)).alloc (.cells #[.int .i64 0] 3)).alloc (.cells #[RV.enc o,.slice ah hs.length ch] 26)).heap.size:=by simp
  simp only[World.size_alloc]at B1 B2 B3 B4;generalize (((w.alloc (.cells #[.slice o.a o.r.length o.c,.slice ah hs.length ch] 26)).alloc (.cells #[.bool false] 4)).alloc (.cells #[.int .i64 0] 3)).alloc (.cells #[RV.enc o,.slice ah hs.length ch] 26)=W0 at B1 B2 B3 B4 hBW hs0|-;refine(wpIn_wide (n:=9)).1 ?_
  refine' wpIn_rangeFunc_ownF (F:=Fence.wide) (n:=9) rfl (by omega) (gf:=179) (lb:= #[.pointer (some ⟨w.heap.size+1+1+1,0,none⟩)]) rfl trivial (enters_of Ct (by kernel_rfl) rfl)
   (zA Fence.wide 8 trivial rfl (by omega) (w.heap.size+1+1+1) w.heap.size o ah ch hs H.n W0 (by omega) B4 (H.h.below hBW)) Kp2.trans (Bv (by omega) (by omega)) (Below.refl _ _) (λ_=>rfl)
   (λpre W=>((Blk W w.heap.size 26 #[.slice o.a o.r.length o.c,.slice ah hs.length ch]/\(Blk W (w.heap.size+1) 4 #[.bool false]/\Blk W (w.heap.size+1+1+1) 26 #[RV.enc o,.slice ah hs.length ch]))/\Blk W (w.heap.size+1+1) 3 #[.int .i64 ((pre.map λx=>x.1.r.length).sum:Nat)])/\(((pre.map λx=>x.1.r.length).sum<=1000*pre.length/\∀x∈pre,co x.1.r=true)/\Below w.heap.size w W))
   (λc pre W=>Blk W (w.heap.size+1) 4 #[.bool false]/\((c= .ret/\∃x∈pre,co x.1.r=false)/\Below w.heap.size w W))
   (OwnFrom.and (OwnFrom.and (OwnFrom.and mz (OwnFrom.and mz mz)) mz) (OwnFrom.and qy (ownFrom_below (bI _) (by omega))))
   (λc=>OwnFrom.and mz (OwnFrom.and qy (ownFrom_below (bI _) (by omega))))
   ⟨⟨⟨B1,B2,B4⟩,B3⟩,⟨by simp,by simp⟩,hBW⟩ _ ?assign ?body ?done ?stop
  case assign=>
   intro l x W K hK;dsimp only[RV.enc]
   gi_wp2
   exact hK
  case body=>
   rintro l pre ⟨⟨xa,xc,xr⟩,hxm⟩ W ⟨⟨⟨b1,b2,b4⟩,b3⟩,⟨hsum,hval⟩,hb⟩ hlen;obtain⟨hxr,hxl⟩:=H.v _ hxm;dsimp only at hxr hxl;have hxn:xr.length<=1000:=hxl.1;have HS:Hid (((pre++[(⟨⟨xa,xc,xr⟩,hxm⟩:{x:RV//x∈o::hs})]).map λx:{x:RV//x∈o::hs}=>x.1.r.length).sum=(pre.map λx=>x.1.r.length).sum+xr.length):=Lib.hid (by simp);obtain⟨S,hS⟩:∃S,S=(List.map (λx:{x:RV//x∈o::hs}=>dA x.1.r) pre).sum:=⟨_,rfl⟩;rw[<-hS]at b3 hsum HS;clear hS;have hSb:S<=1001000:=by have:=H.n;omega
   have c2:=b2.cell 0;have c3:=b3.cell 0;have f2:=b2.frozen 0;have f3:=b3.frozen 0;simp at c2 c3;dsimp only[RV.enc];clear H d1 hN hBW B1 B2 B3 B4 hs0
   gi_wp2_with fail
   refine⟨trivial,(CallsIn.inRound l (callsIn_wide.2 (TF xa xc xr _ (hxr.below (hb.setCell (p:=⟨w.heap.size+1+1,0,none⟩) (by simp;omega) _)) hxl))).mono ?_⟩;rintro e w1 ⟨rfl,hb1⟩;have hk:KeepsOthers W w1:=(KeepsOthers.setCell W _ _).trans (zL hb1);have q2:=(b2.far (p:=⟨w.heap.size+1+1,0,none⟩) (by simp) (.int .i64 ((S:Int)+xr.length))).then_ hb1;have q1:=(b1.far (p:=⟨w.heap.size+1+1,0,none⟩) (by simp;omega) (.int .i64 ((S:Int)+xr.length))).then_ hb1;have q4:=(b4.far (p:=⟨w.heap.size+1+1,0,none⟩) (by simp) (.int .i64 ((S:Int)+xr.length))).then_ hb1;have q3:=(b3.iy 0 (.int .i64 ((S:Int)+xr.length))).then_ hb1;have hB1:Below w.heap.size W w1:=((Below.refl _ W).setCell (p:=⟨w.heap.size+1+1,0,none⟩) (by simp;omega) _).trans (hb1.mono (by have:=hb.size;simp_all));have hK:Kp2 w.heap.size (w.heap.size+1+1+1) W w1:=⟨hB1,Eq.trans q4 (Eq.symm b4)⟩;clear hb1 c2 c3 f2 f3 b1 b2 b3 b4;cases hv:co xr with
   |true=>
    gi_wp2
    refine⟨hk,hK,⟨⟨q1,q2,q4⟩,?_⟩,⟨?_,?_⟩,hb.trans hB1⟩
    .rw[HS.out];grind
    .rw[HS.out];simp;omega
    grind
   |false=>
    have c2:=q2.cell 0;have f2:=q2.frozen 0;simp at c2
    gi_wp2
    refine⟨hk.trans (KeepsOthers.setCell _ _ _),by simpa using q2.iy 0 (.bool false),⟨rfl,⟨_,List.mem_append.2 (.inr cI),hv⟩⟩,(hb.trans hB1).setCell (p:=⟨w.heap.size+1,0,none⟩) (by simp) _⟩
  case stop=>
   rintro D c pre W hD hpre ⟨b2,⟨rfl,x,hx,hv⟩,hb⟩ hK;have HV:Hid (ak (eK o hs)=false):=Lib.hid (Tj (r:=x.1.r) (by have:=x.2;unfold eK aD;grind) hv)
   gi_wp2
   exact qw rfl b2 hK ⟨by rw[HV.out],hb.trans (mq (by omega) hK)⟩
  case done=>
   rintro D xs W hD hxs ⟨⟨⟨b1,b2,b4⟩,b3⟩,⟨hsum,hval⟩,hb⟩ hK;have hN7:xs.length<=7:=by have:=congrArg dA hxs;simp at this;omega
   have HC:(xs.map λx=>x.1.r.length).sum=gF (eK o hs):=by
    have e:(xs.map λx=>x.1.r.length)=(xs.map (·.1)).map λx=>x.r.length:=by rw[dq];rfl
    rw[e,hxs];unfold gF aD eK;simp[Function.comp_def]
   have HA:Hid (∀r∈aD (eK o hs),co r=true):=Lib.hid (by
    intro r hr;have hr2:r∈(o::hs).map RV.r:=by unfold aD eK at hr;simpa using hr
    grind)
   rw[HC]at b3 hsum;clear HC hval hxs b4 B1 B2 B3 B4;have c80':=Lib.hid (λh:80<gF (eK o hs)=>Su h);have HVA:=Lib.hid (λ(h:¬80<gF (eK o hs)) h4=>UX (s:=eK o hs) (by unfold eK;grind) HA.out h h4);generalize gF (eK o hs)=N at b3 hsum c80' HVA;have hNb:N<=7000:=by omega
   clear HA hsum hN7 xs;have c3:=b3.cell 0;have f2:=b2.frozen 0;have c2:=b2.cell 0;have d0:=b1.cell 0;have d1':=b1.cell 1;simp at c2 c3 d0 d1';have hne:D≠w.heap.size+1:=by omega
   have hKs:∀v,(W.setCell ⟨w.heap.size+1,0,none⟩ v).heap[D]? =some (.deferred (some [])):=λv=>(Below.heap_setCell W ⟨w.heap.size+1,0,none⟩ v D (by omega)).trans hK;by_cases c80:80<N
   .have d80:decide ((80:Int)<N)=true:=decide_eq_true (by omega);have HV:=Lib.hid (c80'.out c80);clear c80' HVA hNb c80
    go_wp2
    exact qw rfl (by simpa using b2.iy 0 (.bool false)) (hKs _) ⟨by rw[HV.out],(hb.setCell (p:=⟨w.heap.size+1,0,none⟩) (by simp) _).trans (mq (by omega) (hKs _))⟩
   .have d80:decide ((80:Int)<N)=false:=decide_eq_false (by omega);replace HVA:=Lib.hid (HVA.out c80);clear c80' c80 hNb b3
    go_wp2_with fail
    have hDl:D<W.heap.size:=(v7.1 hK).1;have hKX:∀wx,Below W.heap.size W wx->(wx.setCell ⟨w.heap.size+1,0,none⟩ (.bool false)).heap[D]? =some (.deferred (some [])):=λwx h=>(Below.heap_setCell wx ⟨w.heap.size+1,0,none⟩ _ D (by omega)).trans ((h.block D hDl).trans hK);have hKT:∀wx,Below W.heap.size W wx->(wx.setCell ⟨w.heap.size+1,0,none⟩ (.bool true)).heap[D]? =some (.deferred (some [])):=λwx h=>(Below.heap_setCell wx ⟨w.heap.size+1,0,none⟩ _ D (by omega)).trans ((h.block D hDl).trans hK);have ho:=H.v o cI;have hol:(eK o hs).outer=o.r:=rfl;have hhl:(eK o hs).holes=hs.map RV.r:=rfl;have hlen:(eK o hs).holes.length=hs.length:=by rw[hhl,da]
    have HNO:=Lib.hid (λi (hi:i<hs.length) h=>Tl (s:=eK o hs) (i:=i) (by omega) h);rw[hol,hhl]at HNO;rw[hol,hhl,da]at HVA;have HM:=Lib.hid (λk (hk:k<hs.length)=>X4 hs hk);clear hol hhl hlen hKs f2 c2 c3 d0 d1' hBW;have HC:=Lib.hid (λ(wx:World) (h:Below W.heap.size W wx)=>(show wx.cell? ⟨w.heap.size,0,none⟩=some (.slice o.a o.r.length o.c)/\wx.cell? ⟨w.heap.size,1,none⟩=some (.slice ah hs.length ch)/\wx.cell? ⟨w.heap.size+1,0,none⟩=some (.bool false)/\wx.frozen? ⟨w.heap.size+1,0,none⟩=false from
     ⟨by simpa using(b1.then_ h).cell 0,by simpa using(b1.then_ h).cell 1,by simpa using(b2.then_ h).cell 0,(b2.then_ h).frozen 0⟩))
    go_loopw [5,6,8,28] (λ_ _ _ i wr=>∃k:Nat,k<=hs.length/\i= .int .i64 k/\Hid (∀i,i<k->lc o.r (hs.map RV.r) i=true)/\Below W.heap.size W wr) (λ_ _ _ i _=>hs.length-(intOf i).toNat)
    case atStart=>exact⟨0,by omega,rfl,Lib.hid (λi hi=>by omega),Below.refl _ _⟩
    case round=>
     obtain⟨k,hk,rfl,HT,hbr⟩:=hrel;by_cases hlt:k<hs.length
     .obtain⟨bb,off,rfl,hbb,p0⟩:=H.h k hlt;have hbw:=hb.trans (hbr.mono hb.size);replace p0:=(hbw.cell (p:=⟨bb,_,none⟩) hbb).trans p0;have hx:=H.v _ (cE _ (MQ hs hlt));have HMk:=HM.out k hlt;obtain⟨d0,d1',e1,e2⟩:=HC.out _ hbr;have hbbr:bb<wr.heap.size:=vl hbb hbw.size;obtain⟨⟨xa,xc,xr⟩,hz⟩:∃z,z=hs.getD k default:=⟨_,rfl⟩;rw[<-hz]at p0 hx HMk;dsimp only[RV.enc]at p0 hx HMk;clear hz;have HNK:=Lib.hid (HNO.out k hlt);cases h1:aE5 xr o.r 2 with
      |false=>
       have HV:=Lib.hid (HNK.out (VC (by grind)));clear HNK HMk
       go_wp2_with fail
       refine(m6 xa xc xr o.a o.c o.r 2 _ (ho.1.below hbw) ho.2 (hx.1.below hbw) hx.2).mono ?_;rintro e w1 ⟨rfl,hb1⟩;rw[h1];have hbX:=hbr.trans (hb1.mono hbr.size);clear d0 d1' e1 e2 p0 hb1;obtain⟨d0,d1',e1,e2⟩:=HC.out _ hbX
       go_wp2
       exact qw rfl (by simpa using(b2.then_ hbX).iy 0 (.bool false)) (hKX _ hbX) ⟨by rw[HV.out],((hb.trans (hbX.mono hb.size)).setCell (p:=⟨w.heap.size+1,0,none⟩) (by simp) _).trans (mq (by omega) (hKX _ hbX))⟩
      |true=>
       go_wp2_with fail
       refine(m6 xa xc xr o.a o.c o.r 2 _ (ho.1.below hbw) ho.2 (hx.1.below hbw) hx.2).mono ?_;rintro e w1 ⟨rfl,hb1⟩;rw[h1];have hbY:=hbr.trans (hb1.mono hbr.size);have hbv:=hbw.trans (hb1.mono hbw.size);clear d0 d1' e1 e2 hb1 p0 hbr hbw;obtain⟨d0,d1',e1,e2⟩:=HC.out _ hbY;cases h2:eE xr o.r with
       |false=>
        have HV:=Lib.hid (HNK.out (VB (by simp_all)));clear HNK HMk
        go_wp2_with fail
        refine(AM xa xc xr o.a o.c o.r _ (hx.1.below hbv) (ho.1.below hbv) hx.2 ho.2).mono ?_;rintro e w2 ⟨rfl,hb2⟩;rw[h2];have hbX:=hbY.trans (hb2.mono hbY.size);clear d0 d1' e1 e2 hb2;obtain⟨d0,d1',e1,e2⟩:=HC.out _ hbX
        go_wp2
        exact qw rfl (by simpa using(b2.then_ hbX).iy 0 (.bool false)) (hKX _ hbX) ⟨by rw[HV.out],((hb.trans (hbX.mono hb.size)).setCell (p:=⟨w.heap.size+1,0,none⟩) (by simp) _).trans (mq (by omega) (hKX _ hbX))⟩
       |true=>
        go_wp2_with fail
        refine(AM xa xc xr o.a o.c o.r _ (hx.1.below hbv) (ho.1.below hbv) hx.2 ho.2).mono ?_;rintro e w2 ⟨rfl,hb2⟩;rw[h2];have hbX:=hbY.trans (hb2.mono hbY.size);clear d0 d1' e1 e2 hb2 hbY hbv hbbr;obtain⟨d0,d1',e1,e2⟩:=HC.out _ hbX;have hkc:k<=ch:=by omega
        go_wp2_with fail
        clear d0 d1' e1 e2 HNO;have hbv2:=hb.trans (hbX.mono hb.size)
        go_loopw [8,50] (λ_ i wr=>∃q:Nat,q<=k/\i= .int .i64 q/\Hid (∀i,i<q->s8 (hs.map RV.r) k i=true)/\Below W.heap.size W wr) (λ_ i _=>k-(intOf i).toNat)
        case atStart=>exact⟨0,by omega,rfl,Lib.hid (λi hi=>by omega),hbX⟩
        case round=>
         obtain⟨q,hq,rfl,HQ,hbq⟩:=hrel;by_cases hlq:q<k
         .have hqs:q<hs.length:=by omega
          obtain⟨bb',off',he,hbb',p0⟩:=H.h q hqs;simp only[Option.some.injEq,Addr.mk.injEq,and_true]at he;obtain⟨rfl,rfl⟩:=he;have hbw:=hb.trans (hbq.mono hb.size);replace p0:=(hbw.cell (p:=⟨bb,_,none⟩) hbb).trans p0;have hy:=H.v _ (cE _ (MQ hs hqs));have HMq:=HM.out q hqs;have hbbr:bb<wr.heap.size:=vl hbb hbw.size;obtain⟨⟨ya,yc,yr⟩,hz⟩:∃z,z=hs.getD q default:=⟨_,rfl⟩;rw[<-hz]at p0 hy HMq;dsimp only[RV.enc]at p0 hy HMq;clear hz hbb';have HNQ:=Lib.hid (λh=>HNK.out (VA hlq h));have HP:Hid (s8 (hs.map RV.r) k q=(eE xr yr&&aE5 xr yr 0&&aE5 yr xr 0)):=Lib.hid (by unfold s8;rw[HMk,HMq]);cases h3:eE xr yr with
          |false=>
           have HV:=Lib.hid (HNQ.out (by rw[HP.out,h3];rfl))
           go_wp2_with fail
           refine(AM xa xc xr ya yc yr _ (hx.1.below hbw) (hy.1.below hbw) hx.2 hy.2).mono ?_;rintro e w3 ⟨rfl,hbw3⟩;rw[h3];have hbz:=hbq.trans (hbw3.mono hbq.size);have hbv3:=hbw.trans (hbw3.mono hbw.size);clear hbw3;obtain⟨d0,d1',e1,e2⟩:=HC.out _ hbz
           go_wp2
           exact qw rfl (by simpa using(b2.then_ hbz).iy 0 (.bool false)) (hKX _ hbz) ⟨by rw[HV.out],((hb.trans (hbz.mono hb.size)).setCell (p:=⟨w.heap.size+1,0,none⟩) (by simp) _).trans (mq (by omega) (hKX _ hbz))⟩
          |true=>
           go_wp2_with fail
           refine(AM xa xc xr ya yc yr _ (hx.1.below hbw) (hy.1.below hbw) hx.2 hy.2).mono ?_;rintro e w3 ⟨rfl,hbw3⟩;rw[h3];have hbz:=hbq.trans (hbw3.mono hbq.size);have hbv3:=hbw.trans (hbw3.mono hbw.size);clear hbw3;clear p0 hbw;cases h4:aE5 xr yr 0 with
           |false=>
            have HV:=Lib.hid (HNQ.out (by rw[HP.out,h3,h4];rfl))
            go_wp2_with fail
            refine(m6 xa xc xr ya yc yr 0 _ (hy.1.below hbv3) hy.2 (hx.1.below hbv3) hx.2).mono ?_;rintro e w4 ⟨rfl,hbw4⟩;rw[h4];have hbz4:=hbz.trans (hbw4.mono hbz.size);have hbv4:=hbv3.trans (hbw4.mono hbv3.size);clear hbw4;obtain⟨d0,d1',e1,e2⟩:=HC.out _ hbz4
            go_wp2
            exact qw rfl (by simpa using(b2.then_ hbz4).iy 0 (.bool false)) (hKX _ hbz4) ⟨by rw[HV.out],((hb.trans (hbz4.mono hb.size)).setCell (p:=⟨w.heap.size+1,0,none⟩) (by simp) _).trans (mq (by omega) (hKX _ hbz4))⟩
           |true=>
            go_wp2_with fail
            refine(m6 xa xc xr ya yc yr 0 _ (hy.1.below hbv3) hy.2 (hx.1.below hbv3) hx.2).mono ?_;rintro e w4 ⟨rfl,hbw4⟩;rw[h4];have hbz4:=hbz.trans (hbw4.mono hbz.size);have hbv4:=hbv3.trans (hbw4.mono hbv3.size);clear hbw4;clear hbv3;cases h5:aE5 yr xr 0 with
            |false=>
             have HV:=Lib.hid (HNQ.out (by rw[HP.out,h3,h4,h5];rfl))
             go_wp2_with fail
             refine(m6 ya yc yr xa xc xr 0 _ (hx.1.below hbv4) hx.2 (hy.1.below hbv4) hy.2).mono ?_;rintro e w5 ⟨rfl,hbw5⟩;rw[h5];have hbz5:=hbz4.trans (hbw5.mono hbz4.size);have hbv5:=hbv4.trans (hbw5.mono hbv4.size);clear hbw5;obtain⟨d0,d1',e1,e2⟩:=HC.out _ hbz5
             go_wp2
             exact qw rfl (by simpa using(b2.then_ hbz5).iy 0 (.bool false)) (hKX _ hbz5) ⟨by rw[HV.out],((hb.trans (hbz5.mono hb.size)).setCell (p:=⟨w.heap.size+1,0,none⟩) (by simp) _).trans (mq (by omega) (hKX _ hbz5))⟩
            |true=>
             have HQ2:Hid (∀i,i<q+1->s8 (hs.map RV.r) k i=true):=Lib.hid (λi hi=>by
              by_cases e:i=q
              .subst e;rw[HP.out,h3,h4,h5];rfl
              .exact HQ.out i (by omega))
             go_wp2_with fail
             refine(m6 ya yc yr xa xc xr 0 _ (hx.1.below hbv4) hx.2 (hy.1.below hbv4) hy.2).mono ?_;rintro e w5 ⟨rfl,hbw5⟩;rw[h5];have hbz5:=hbz4.trans (hbw5.mono hbz4.size);have hbv5:=hbv4.trans (hbw5.mono hbv4.size);clear hbw5
             go_wp2
             go_roundw
             case rel=>exact⟨q+1,by omega,by go_num,HQ2,hbz5⟩
             case measure=>simp[intOf];omega
         .have HT2:Hid (∀i,i<k+1->lc o.r (hs.map RV.r) i=true):=Lib.hid (λi hi=>by
           by_cases e:i=k
           .subst e;exact WX (by simp_all) (by simp_all) (λj hj=>HQ.out j (by omega))
           .exact HT.out i (by omega))
          go_wp2
          go_roundw
          case rel=>exact⟨k+1,by omega,by go_num,HT2,hbq⟩
          case measure=>simp[intOf];omega
     .have HV:=Lib.hid (HVA.out (λi hi=>HT.out i (by omega)));obtain⟨d0,d1',e1,e2⟩:=HC.out _ hbr
      go_wp2
      exact qw rfl (by simpa using(b2.then_ hbr).iy 0 (.bool true)) (hKT _ hbr) ⟨by rw[HV.out],((hb.trans (hbr.mono hb.size)).setCell (p:=⟨w.heap.size+1,0,none⟩) (by simp) _).trans (mq (by omega) (hKT _ hbr))⟩
end
section
open Go.RowKit Go.Shelf
attribute [local go_sem] yy
def DL{W W':World}{base:Nat}{e:TypeId}{size:Nat}{v:Value}{n:Nat}{xs:List Value}{row:Option Nat}(h:W.ownsRow base e size v n xs)(hg:W.grownBy W' row)(hr:∀r,row=some r->∃o:Obj,W.heap[r]? =some o/\o.isCells=false):W'.ownsRow base e size v n xs:=
 ⟨h.1,h.2.imp id λ⟨g,cap,cur,h1,h2,h3,h4⟩=>⟨g,cap,cur,h1,h2,(hg.block g (by grind) (λe=>by obtain⟨o,ho,hc⟩:=hr g e.symm;rw[h3]at ho;cases ho;cases hc)).trans h3,h4⟩⟩
def ZM{β:Type}{B bx base:Nat}{t:TypeId}{e:TypeId}{size:Nat}{n:β->Nat}{xs:β->List Value}:OwnFrom B (λ(s:β) W=>∃v,Blk W bx t #[v]/\W.ownsRow base e size v (n s) (xs s)):=λs W W' row ⟨v,h1,h2⟩ hg hr=>
 ⟨v,mz (cs:=λ_:β=> #[v]) s W W' row h1 hg hr,DL h2 hg (by grind)⟩
def Iq{W:World}{D base:Nat}{e:TypeId}{size:Nat}{v:Value}{n:Nat}{xs:List Value}(h:W.ownsRow base e size v n xs)(hK:W.heap[D]? =some (.deferred (some [])))(o':Obj):(W.putObj D o').ownsRow base e size v n xs:=
 DL h (grownBy_putObj' W D o') (λr e=>by cases e;exact⟨_,hK,rfl⟩)
def LB{W W':World}{base:Nat}{e:TypeId}{size:Nat}{v:Value}{n:Nat}{xs:List Value}(h:W.ownsRow base e size v n xs)(hg:W.grownBy W' v.ownBlock):KeepsOthers W W':=
 KeepsOthers.of_grownBy hg (λj o hj ho=>by
  rcases h.2 with⟨h1,h2⟩|⟨g,cap,cur,h1,h2,h3,h4⟩
  .rw[h1]at hj;simp[Ci]at hj
  .rw[h1]at hj;simp[Ci]at hj;subst hj;rw[h3]at ho;cases ho;rfl)
def D7{F:Fence}{n:Nat}{P:Program}{fn:Func}{R:Ending->World->Prop}{W:World}{D:Nat}{T:Array Value}{t:Tmp}{v:Value}(hf:fn.results= #[.tmp t])(hT:T.getD t undef=v)(hK:W.heap[D]? =some (.deferred (some [])))
  (hR:R (.returned v) (W.putObj D (.deferred none))):bodyPostM F n P fn R .ret {tmps:=T,defers:=[{target:= .collected D,args:= #[]}]} W:=by
 refine JV (v:=v) rfl hK ?_ hR;rw[<-hT];simp[results,hf]
def Wa(xs:List S):∀u∈ir xs,u.oneCell'=true:=by intro u hu;obtain⟨v,_,hv⟩:=List.mem_flatMap.1 hu;simp only[bT,List.not_mem_nil,or_false]at hv;rcases hv with rfl|rfl|rfl|rfl<;>rfl
def Rd.grown{w w':World}{a:Option Addr}{cs:List Value}{row:Option Nat}{m:Nat}(h:Rd w a cs)(hF:jV m a)(hr:∀k,row=some k->k<m)(hg:w.grownBy w' row):Rd w' a cs:=by intro i u hi;obtain⟨b,off,rfl,hb,hc⟩:=h i u hi;have hm:m<=b:=hF _ rfl;refine⟨b,off,rfl,vl hb hg.size,(jI (a:=⟨b,off+i,none⟩) (hg.block b hb ?_)).trans hc⟩;grind
def Rd.iy{w:World}{a:Option Addr}{cs:List Value}{m:Nat}{p:Addr}{u:Value}(h:Rd w a cs)(hF:jV m a)(hp:p.block<m):Rd (w.setCell p u) a cs:=by intro i v hi;obtain⟨b,off,rfl,hb,hc⟩:=h i v hi;have hm:m<=b:=hF _ rfl;exact⟨b,off,rfl,by simp_all,(jI (a:=⟨b,off+i,none⟩) (Below.heap_setCell w p u b (by omega))).trans hc⟩
def zK{W:World}{base:Nat}{e:TypeId}{size:Nat}{v:Value}{n:Nat}{xs:List Value}{p:Addr}{u:Value}(h:W.ownsRow base e size v n xs)(hp:p.block<base):(W.setCell p u).ownsRow base e size v n xs:=
 ⟨h.1,h.2.imp id λ⟨g,cap,cur,h1,h2,h3,h4⟩=>⟨g,cap,cur,h1,h2,(Below.heap_setCell W p u g (by omega)).trans h3,h4⟩⟩
abbrev Mem(o:RV)(hs:List RV):={x:RV//x∈o::hs}
def kQ{o:RV}{hs:List RV}(pre:List (Mem o hs)):List S:=pre.flatMap λx=>aJ x.1.r
def TY{o:RV}{hs:List RV}(pre:List (Mem o hs))(x:Mem o hs):kQ (pre++[x])=kQ pre++aJ x.1.r:=by unfold kQ;simp
def VO{o:RV}{hs:List RV}(h:∀x∈o::hs,x.r.length<=1000)(pre:List (Mem o hs)):(kQ pre).length<=1000*pre.length:=by
 induction pre with
 |nil=>simp[kQ]
 |cons x l ih=>
  have h2:=sP x.1.r;unfold kQ at*;grind
def UJ{o:RV}{hs:List RV}{xs:List (Mem o hs)}(h:xs.map (·.1)=o::hs):kQ xs=aa (eK o hs):=by
 have e:kQ xs=(xs.map (·.1)).flatMap λx=>aJ x.r:=by unfold kQ;rw[List.flatMap_map]
 rw[e,h];unfold aa aD eK;simp[fM,List.flatMap_map]
def Sw(o:RV)(ah:Option Addr)(ch:Nat)(hs:List RV)(w:World)(H:RdSh w o ah hs)(hn:hs.length<=900):
  Calls bE 131 #[.agg #[RV.enc o,.slice ah hs.length ch]] w λe w'=>∃v,e= .returned v/\w'.ownsRow w.heap.size 46 4 v (aa (eK o hs)).length (ir (aa (eK o hs)))/\Below w.heap.size w w':=by
 refine(callsIn_wide (n:=9)).1 (callsIn_of_wp_marks Tryz.func131 rfl trivial ((wpIn_wide (n:=9)).2 ?_) rfl);simp only[Tryz.ntmps131,rW,gk,lv,v8,wA,wC,wD,wF,wG,qT,kM];dsimp only[RV.enc]
 go_wp2_with fail
 refine(zm o ah hs.length ch _).mono ?_;rintro e w1 ⟨rfl,rfl⟩
 go_wp2_with fail
 have B3:=(Blk.new (w.alloc (.cells #[.slice o.a o.r.length o.c,.slice ah hs.length ch] 26)) 32 #[.slice none 0 0]).alloc (.cells #[RV.enc o,.slice ah hs.length ch] 26);have B4:=Blk.new ((w.alloc (.cells #[.slice o.a o.r.length o.c,.slice ah hs.length ch] 26)).alloc (.cells #[.slice none 0 0] 32)) 26 #[RV.enc o,.slice ah hs.length ch];have hBW:Below w.heap.size w ((((w.alloc (.cells #[.slice o.a o.r.length o.c,.slice ah hs.length ch] 26)).alloc (.cells #[.slice none 0 0] 32))).alloc (.cells #[RV.enc o,.slice ah hs.length ch] 26)):=(((Below.refl _ _).alloc (bI _) _).alloc (by simp) _).alloc (by simp;omega) _;have hs0:w.heap.size+3=((((w.alloc (.cells #[.slice o.a o.r.length o.c,.slice ah hs.length ch] 26)).alloc (.cells #[.slice none 0 0] 32))).alloc (.cells #[RV.enc o,.slice ah hs.length ch] 26)).heap.size:=by simp
 simp only[World.size_alloc]at B3 B4;generalize (((w.alloc (.cells #[.slice o.a o.r.length o.c,.slice ah hs.length ch] 26)).alloc (.cells #[.slice none 0 0] 32))).alloc (.cells #[RV.enc o,.slice ah hs.length ch] 26)=W0 at B3 B4 hBW hs0|-;refine(wpIn_wide (n:=9)).1 ?_
 refine' wpIn_rangeFunc_ownF (F:=Fence.wide) (n:=9) rfl (by omega) (gf:=179) (lb:= #[.pointer (some ⟨w.heap.size+1+1,0,none⟩)]) rfl trivial (enters_of Ct (by kernel_rfl) rfl)
  (zA Fence.wide 8 trivial rfl (by omega) (w.heap.size+1+1) w.heap.size o ah ch hs H.n W0 (by omega) B4 (H.h.below hBW)) Kp2.trans (Bv (by omega) (by omega)) (Below.refl _ _) (λ_=>rfl)
  (λpre W=>(Blk W (w.heap.size+1+1) 26 #[RV.enc o,.slice ah hs.length ch]/\∃v,Blk W (w.heap.size+1) 32 #[v]/\W.ownsRow (w.heap.size+3) 46 4 v (kQ pre).length (ir (kQ pre)))/\(w.heap.size+3<=W.heap.size/\Below w.heap.size w W))
  (λc pre W=>False/\False)
  (OwnFrom.and (OwnFrom.and mz ZM) (OwnFrom.and (λs A B row h hg _=>cF h hg.size) (ownFrom_below (bI _) (by omega))))
  (λc=>OwnFrom.and qy qy)
  ⟨⟨B4,_,B3,World.ownsRow_nil _ _ _ _⟩,by omega,hBW⟩ _ ?assign ?body ?done ?stop
 case assign=>
  intro l x W K hK
  gi_wp2
  exact hK
 case stop=>
  grind
 case done=>
  rintro D xs W hD hxs ⟨⟨b4,v,b3,hrow⟩,_,hb⟩ hK;have c3:=b3.cell 0;have hD2:w.heap.size<=D:=by omega
  rw[UJ hxs]at hrow
  go_wp2
  exact D7 (v:=v) rfl rfl hK ⟨v,rfl,Ir (Iq hrow hK _) (by omega),hb.trans (mq hD2 hK)⟩
 case body=>
  rintro l pre ⟨⟨xa,xc,xr⟩,hxm⟩ W ⟨⟨b4,u3,b3,hrow⟩,hsz,hb⟩ hlen;obtain⟨hxr,hxl⟩:=H.v _ hxm;dsimp only at hxr hxl;have hxn:xr.length<=1000:=hxl.1;have HE:Hid (kQ (pre++[(⟨⟨xa,xc,xr⟩,hxm⟩:Mem o hs)])=kQ pre++aJ xr):=Lib.hid (TY _ _);have hle:=VO (λx hx=>(H.v x hx).2.1) pre;have hle2:=sP xr;have hsz2:(kQ pre).length+(aJ xr).length<=1000000:=by omega
  rw[show(w.heap.size+3)=w.heap.size+3 from rfl]at hrow;generalize kQ pre=E at HE hrow hsz2;clear hle hle2 B3 B4 hBW hs0;refine wpIn_block ?_;dsimp only[RV.enc];refine C3 (by kernel_rfl) (by kernel_rfl) [8,9,10,11] [[],[],[1],[0,1,2],[0,1,2,3]] (by kernel_rfl) (by kernel_rfl) (by simp_all)
   (WR3 3 4 (λwx=>Below W.heap.size W wx) (λwx=>Blk wx (w.heap.size+1) 32 #[u3]/\Blk wx (w.heap.size+1+1) 26 #[RV.enc o,.slice ah hs.length ch]/\Below w.heap.size w wx/\KeepsOthers W wx/\Below w.heap.size W wx/\w.heap.size+3<=wx.heap.size) (λwx=>∃v,Blk wx (w.heap.size+1) 32 #[v]/\wx.ownsRow (w.heap.size+3) 46 4 v (E.length+(aJ xr).length) (ir (E++aJ xr))/\Blk wx (w.heap.size+1+1) 26 #[RV.enc o,.slice ah hs.length ch]/\Below w.heap.size w wx/\KeepsOthers W wx/\Below w.heap.size W wx/\w.heap.size+3<=wx.heap.size))
   (λi v wx=>match i with
     |0=>v=u3
     |1=>v= .slice xa xr.length xc
     |2=>∃a c,v= .slice a (aJ xr).length c/\Rd wx a (ir (aJ xr))/\(a=none->c=0)/\jV W.heap.size a
     |3=>wx.ownsRow (w.heap.size+3) 46 4 v (E.length+(aJ xr).length) (ir (E++aJ xr))
     |4=>True
     |_=>True)
   (WR3.start (Below.refl _ _).drew) ?_ ?_ ?_
  .intro j v wx wy hf hxy;match j with
   |0=>exact hf
   |1=>exact hf
   |2=>obtain⟨a,c,h1,h2,h3⟩:=hf;exact⟨a,c,h1,h2.below hxy,h3⟩
   |3=>exact th hf hxy
   |4=>exact hf
   |_+5=>exact trivial
  .refine⟨?_,?_,?_,?_,?_,trivial⟩
   .intro D V wx hD hanc hdesc hin hWR;have hA:=hWR.lo (hdesc 3 (by kernel_rfl)) (hdesc 4 (by kernel_rfl));have e3:=hin 3 (by kernel_rfl);have q0:=(Blk.then_ b3 hA).cell 0;refine opK ?_;intro K hK;simp[cN,execOp,bK,e3,q0,go_sem];exact hK _ _ ⟨rfl,(hWR.keep (by decide) (by decide)),.inl rfl⟩
   .intro D V wx hD hanc hdesc hin hWR;have e4:=hin 4 (by kernel_rfl);refine opK ?_;intro K hK;simp[cN,execOp,bK,e4,go_sem];exact hK _ _ ⟨rfl,(hWR.keep (by decide) (by decide)),.inl rfl⟩
   .intro D V wx hD hanc hdesc hin hWR;have hA:=hWR.lo (hdesc 3 (by kernel_rfl)) (hdesc 4 (by kernel_rfl));have e9:V 9= .slice xa xr.length xc:=(hanc 1 (by kernel_rfl)).2;refine opK ?_;intro K hK;simp[cN,execOp,bK,e9,go_sem];refine(Wh xa xc xr _ (hxr.below (hb.trans (hA.mono hb.size))) hxl).mono ?_;rintro e w1 ⟨a,c,rfl,hR,hF,hN,hc⟩;exact⟨_,rfl,hK _ _ ⟨⟨a,c,rfl,hR,hN,hF.mono hA.size⟩,(.mkLo (hdesc 3 (by kernel_rfl)) (hdesc 4 (by kernel_rfl)) (by decide) (by decide) (Below.then_ hA hc)),.inr (.inl hc)⟩⟩
   .intro D V wx hD hanc hdesc hin hWR;have hA:=hWR.lo hD (hdesc 4 (by kernel_rfl));have e8:V 8=u3:=(hanc 0 (by kernel_rfl)).2;have e10:=(hanc 2 (by kernel_rfl)).2;refine opK ?_;intro K hK;obtain⟨a,c,e10,hR,hN,hF⟩:=e10;refine D8 (.tmp 8) (.tmp 10) 32 rfl (w.heap.size+3) 46 (.agg #[.int .i64 0,.int .i64 0,.int .i64 0,.int .i64 0]) 4 32 Tryz.underlying32 (by kernel_rfl) rfl (by decide) u3 _ _ e8 (th hrow hA) _ _ _ (ir (aJ xr)) e10 (Iv _) hR hN (Wa _) (by omega) (by omega) (by have:=hA.size;omega) ?_;intro v' w' h1 h2 h3 h4;have hbx:=(Blk.then_ b3 hA);have hbr:=(Blk.then_ b4 hA);have hro:=th hrow hA;refine hK _ _ ⟨by rw[TX];exact h1,.mkMid (hdesc 4 (by kernel_rfl)) (by decide) ⟨wP h3 hbx (AR hro (by omega)),wP h3 hbr (AR hro (by omega)),(hb.trans (hA.mono hb.size)).trans (h2.mono (by omega)),(zL hA).trans (LB hro h3),((Below.refl w.heap.size W).trans (hA.mono hb.size)).trans (h2.mono (by omega)),by have:=hA.size;have:=h2.size;omega⟩,.inr (.inr ?_)⟩;intro j hj hf;match j with
    |0=>exact hf
    |1=>exact hf
    |2=>obtain⟨a,c,g1,g2,g3,g4⟩:=hf;exact⟨a,c,g1,g2.grown g4 (λk hk=>(qU hrow k hk).2) h3,g3,g4⟩
    |3=>grind
    |4=>omega
    |_+5=>exact trivial
   .intro D V wx hD hanc hdesc hin hWR;have hB:=hWR.mid (hanc 3 (by kernel_rfl)).1 hD;have e3:=hin 3 (by kernel_rfl);have e11:=(hanc 3 (by kernel_rfl)).2;refine opK ?_;intro K hK;have q0:=hB.1.cell 0;have f0:=hB.1.frozen 0;have e11:wx.ownsRow (w.heap.size+3) 46 4 (V 11) (E.length+(aJ xr).length) (ir (E++aJ xr)):=e11;obtain⟨ra,rc,hv11,_,_,_⟩:=Rd.GU e11;rw[hv11]at e11;simp[cN,execOp,bK,e3,hv11,q0,f0,go_sem];refine hK _ _ ⟨trivial,.mkHi ⟨_,by simpa using hB.1.iy 0 (.slice ra (E.length+(aJ xr).length) rc),zK e11 (by grind),hB.2.1.far (by simp) _,hB.2.2.1.setCell (p:=⟨w.heap.size+1,0,none⟩) (by simp) _,hB.2.2.2.1.trans (KeepsOthers.setCell _ _ _),hB.2.2.2.2.1.setCell (p:=⟨w.heap.size+1,0,none⟩) (by simp) _,by simpa using hB.2.2.2.2.2⟩,.inr (.inr ?_)⟩;intro j hj hf;match j with
    |0=>exact hf
    |1=>exact hf
    |2=>obtain⟨a,c,g1,g2,g3,g4⟩:=hf;exact⟨a,c,g1,g2.iy g4 b3.lt,g3,g4⟩
    |3=>exact zK hf (by grind)
    |4=>omega
    |_+5=>exact trivial
  intro D V wx hall hf hWR;replace hWR:=hWR.hi (by grind);have f0:V 8=u3:=hf 0 (by decide);have f1:V 9= .slice xa xr.length xc:=hf 1 (by decide);simp only[iK,List.foldl_cons,List.foldl_nil,f0,f1];obtain⟨v',k1,k2,k3,k4,k5,k6,k7⟩:=hWR;refine⟨k5,⟨k6,Eq.trans k3 (Eq.symm b4)⟩,⟨k3,v',k1,?_⟩,k7,k4⟩;rw[HE.out,eW];exact k2
end
noncomputable def R8:Con:=yQ (a1 (aL .V)) (λl=>[0<l.length,l.length<=1000]) 44 .V (λl=>l) (λ_=>[])
def Rz:R8.Okz 125:=A8 (mT B9.o) (raw:=rB) bW (λ_=>⟨[],rfl⟩) λl hp=>aY (aA ([] :List V) λA=>aA (A++l).length λB=>(0:Nat)<l.length/\A.length+l.length<=1000000/\A++l=l/\B=B) (by kernel_rfl) (by change 0<l.length/\l.length<=1000 at hp;exact⟨hp.1,by simp;omega,rfl,rfl⟩)
end Go.Proofs.YtdaeofhdgabhjaaGreat
