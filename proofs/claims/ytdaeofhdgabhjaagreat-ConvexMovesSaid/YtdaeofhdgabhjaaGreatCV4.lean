/- What the statement stands on: contracts of functions, plain laws. Part 4 of 6, no condition of its own. (X13 X8 X9 X10 Shelf2 L1 K1 K2 K3 K4 K5 K6 K7 K8 K9 K10 J1 K11 K12 E16 J2 J3 J4 J5 K42 J6) -/
import Derived.Test.YtdaeofhdgabhjaaGreatCV3
import Derived.ChangeKeysEq
import Derived.Shelf.SlSortCmp.NoneTotal
import Derived.Shelf.SlicesE.DeleteFunc
import Derived.Ground.SlsfProg
import Derived.Ground.SlgfProg
import Derived.Lib.SliceRun
import Derived.Lib.AppendZerosOnto
import Derived.OrdersIn
import Derived.RangeFuncCalls
import Derived.TacticsIn
import Derived.RangeFuncNested
import Derived.RangeFuncBound
import Derived.RangeFuncLeaves
import Derived.RangeFuncFrom
import Derived.Shelf.Abstract
import Derived.OwnWalkIn
import Derived.TacticsInMore
import Derived.LoopNIn
import Derived.LoopIn
import Derived.Deep.DeepCutAuto
set_option linter.all false
set_option maxRecDepth 100000
set_option maxHeartbeats 8000000
open Nat renaming beq->bB,ne_of_beq_eq_false->lT,ne_of_gt->nL,ble->mM,lt_or_ge->nF,blt->iM,zero_le->i5,le_of_ble_eq_true->o5,eq_of_beq_eq_true->dM,zero_add->jg,le_trans->cR,mod_lt->bk,gcd->bw,gcd_comm->IM,le_refl->bQ,add_assoc->rG,le_antisymm->tG,eq_zero_or_pos->rF,lt_of_lt_of_le->vU,reduceAdd->vu,reduceSub->vw
open List renaming mem_singleton->bh,mem_cons->bO,lookup_cons->dS,mem_append_left->gZ,mem_append_right->fY,mem_append->bq,take_left->Cj,mem_map->bM,mem_filterMap->IF,map_map->cv,length->fW,map_cons->cT,length_cons->gY,length_nil->mH,length_map->cL,map_nil->j6,replicate->cO,getElem?_map->fy,getElem?_eq_getElem->eZ,getElem?_append_right->kM,getElem?_eq_none->lS,range->bP,length_filter_le->IK,all_eq_true->bZ,size_toArray->rJ,getElem?_eq_some_iff->rK,mem_cons_self->cE,take_add_one->rL,foldl_append->Cm,take->aW,drop->gi,take_of_length_le->gu,take_length->vl,range_succ->vZ,map_append->dQ,sum_append->yW,getElem_of_mem->jf,mem_range->bz,ext_getElem->rH,all_eq_false->yk,any_eq_true->lO,any_eq_false->IN,take_succ_eq_append_getElem->kR,any->fc,mem_cons_of_mem->cB,flatten->fe,flatten_append->vo,length_append->fw,all->tH,flatMap_cons->fX,map_flatMap->CO,push_toArray->v7,append_toArray->v8,nil_append->rM,cons_append->j7,flatMap_map->Hv,foldl_cons->vH
open Option renaming map_some->eI,map_eq_some_iff->lQ,getD_some->kj
open Go.Sem renaming run->fm,run_bind->cn,run_pure->dZ
open Go.Proofs.Tryz renaming prog->bD,underlying3->o4,isAgg3->tF,sizeOf3->vh,underlying4->IJ,func179->Cn
open Go.Op renaming equalIn->ss
open Go.Value renaming int->cV,ownBlock->Cb
open Go.Result renaming andThen_ok->cp
open Bool renaming eq_iff_iff->eY,not_true->yO,false_eq_true->qB,and_eq_true->bm,or_eq_true->je
open Go.Instr renaming checkKey->ye
open Int renaming mul_nonneg->cM,natAbs->dU,tmod->c8,natAbs_tmod->IL,tdiv->fM
open And renaming intro->cF
open Decidable renaming of_not_not->nM,not_not->R9
open Go.IntKind renaming i64->ic
open Go.Region renaming wanted->iK,binds->gg
open Go.Oper renaming semAt_some->ym
open Array renaming replicate->nI,getD_eq_getD_getElem?->fx,getElem?_eq_some_iff->vq,replicate_succ->vz,replicate_zero->v6
open Go.Act renaming put->mL
open Go.World renaming cell?_of_block->i6,ownsRow_nil->IC
open Go.RowKit
open Go.Proofs.YtdaeofhdgabhjaaGreat.Geo
open Go.Proofs.YtdaeofhdgabhjaaGreat.Geo renaming sub->aEq,eE->aEr,nth->aEn,bG->aEu,V->aEo
namespace Go.Proofs.YtdaeofhdgabhjaaGreat
noncomputable section
def xn(d:Nat)(F:Frm)(L:aP):Option (List Prop×Frm×aP):=match F.at d with
 | .ownx s n=>(match L.at s with
   |some (.arr _ ez cs)=>(match bG (avs cs),bB ez 0 with
    |some _,false=>some ([],(d,.sl n cs)::F,(s,none)::L)
    |_,_=>none)
   |_=>none)
 | .own s _ n=>(match L.at s with
   |some (.row _ lt l)=>some ([n=l.length],(d,.lst lt l)::F,(s,none)::L)
   |_=>none)
 |_=>none
def Ah{L:aP}{s:Nat}{ob:SOb}(hs:L.at s=some ob)(hf:ob.flat=true){k:Nat}{o:Ob}(h:aP.fn ((s,none)::L) k=some o):k≠aM s/\L.fn k=some o:=by have h1:=(bX.flat (σ:=L.at) (rd:=[]) (W:=[(s,none)]) λq hq=>by rw[bh.1 hq,hs];exact⟨hf,rfl⟩).2.2;rw[aP.BU]at h1;have h2:aP.fn ((s,none)::L)=ao L.fn [(aM s,none)] :=h1.symm;rw[h2]at h;unfold ao at h;grind
def NO{n d t:Nat}{v:SV}{F:Frm}(ht:t<n):(Frm.av n ((d,v)::F)).getD t .any=if t=d then v.av else(F.av n).getD t .any:=by rw[Frm.lv ht,Frm.lv ht,Frm.kz];split<;>rfl
def Tu{n N d:Nat}{F F':Frm}{L L':aP}{ps:List Prop}(h:xn d F L=some (ps,F',L'))(hp:∀p∈ps,p):fV (F.av n) L.fn N (F'.av n) L'.fn N:=by
 unfold xn at h;split at h
 .rename_i s m hd;split at h
  case h_2=>cases h
  rename_i ty ez cs hs;split at h<;>cases h;rename_i q hq hz;refine C7 (aM s) q (ty:=ty) (esz:=ez) ?_ (lT hz) (by rw[Frm.jB,Frm.jB]) ?_ λk ob hk=>⟨(Ah hs rfl hk).1,.inl (Ah hs rfl hk).2⟩
  .show Sg.a L.at (aM s)=_;rw[Sg.cH,hs,<-il hq];rfl
  .intro t ht;rw[Frm.jB]at ht;rw[NO ht];by_cases e:t=d
   .subst e;rw[if_pos rfl,Frm.lv ht,hd];exact .inr (.inr ⟨m,rfl,by show(match bG (avs cs)with|some q=>AV.p (.sl m q)|none=> .any)=_;rw[hq]⟩)
   .rw[if_neg e];exact .inr (.inl rfl)
 .rename_i s t0 m hd;split at h<;>cases h;rename_i ty lt l hs;have hm:m=l.length:=hp _ (bh.2 rfl);refine C7 (aM s) (lt.enc l) (ty:=ty) (esz:=lt.w) ?_ (nL lt.kF) (by rw[Frm.jB,Frm.jB]) ?_ λk ob hk=>⟨(Ah hs rfl hk).1,.inl (Ah hs rfl hk).2⟩
  .show Sg.a L.at (aM s)=_;rw[Sg.cH,hs];rfl
  .intro t ht;rw[Frm.jB]at ht;rw[NO ht];by_cases e:t=d
   .subst e;rw[if_pos rfl,Frm.lv ht,hd];exact .inr (.inr ⟨m,rfl,by rw[hm];rfl⟩)
   .rw[if_neg e];exact .inr (.inl rfl)
 .cases h
def HZ(L:aP):SV->Option (List Prop×SV×Nat)
 | .ownx s n=>(match L.at s with
   |some (.arr _ ez cs)=>(match bG (avs cs),bB ez 0 with
    |some _,false=>some ([],.sl n cs,s)
    |_,_=>none)
   |_=>none)
 | .own s _ n=>(match L.at s with
   |some (.row _ lt l)=>some ([n=l.length],.lst lt l,s)
   |_=>none)
 |_=>none
def WC{L:aP}{v w:SV}{s:Nat}{ps:List Prop}(h:HZ L v=some (ps,w,s))(hp:∀p∈ps,p):∃ob,L.at s=some ob/\ob.flat=true/\∃ty esz cells n,ob.ob s=⟨ty,esz,cells.map .p⟩/\esz≠0/\v.av= .own (aM s) 0 n/\w.av= .p (.sl n cells)/\(∀ty cs,ob≠ .box ty cs):=by
 unfold HZ at h;split at h
 .rename_i s m;split at h
  case h_2=>cases h
  rename_i ty ez cs hs;split at h<;>cases h;rename_i q hq hz;exact⟨_,hs,rfl,ty,ez,q,m,by rw[<-il hq];rfl,lT hz,rfl,by show(match bG (avs cs)with|some q=>AV.p (.sl m q)|none=> .any)=_;rw[hq],λ_ _=>nofun⟩
 .rename_i s t0 m;split at h<;>cases h;rename_i ty lt l hs;have hm:m=l.length:=hp _ (bh.2 rfl);exact⟨_,hs,rfl,ty,lt.w,lt.enc l,m,rfl,nL lt.kF,rfl,by rw[hm];rfl,λ_ _=>nofun⟩
 .cases h
def xo(k i:Nat)(L:aP):Option (List Prop×aP):=match L.at k with
 |some (.box ty cs)=>(match cs[i]?,mM ty 1 with
  |some v,false=>(match HZ L v with
   |some (ps,w,s)=>some (ps,(k,some (.box ty (cs.set i w)))::(s,none)::L)
   |none=>none)
  |_,_=>none)
 |_=>none
def Tv{n N k i:Nat}{F:Frm}{L L':aP}{ps:List Prop}(h:xo k i L=some (ps,L'))(hp:∀p∈ps,p):fV (F.av n) L.fn N (F.av n) L'.fn N:=by
 unfold xo at h;split at h
 case h_2=>cases h
 rename_i ty cs hk;split at h
 case h_2=>cases h
 rename_i v hv hty;split at h<;>cases h;rename_i w s hf;obtain⟨ob,e1,e2,tys,esz,cells,m,e3,e4,e5,e6,e7⟩:=WC hf hp;have hks:k≠s:=λe=>by grind
 have hty:¬ty<=1:=λhh=>by rw[Nat.ble_eq_true_of_le hh]at hty;cases hty
 have up:aP.fn ((k,some (.box ty (cs.set i w)))::(s,none)::L)=ao L.fn [(aM k,some ((SOb.box ty (cs.set i w)).ob k)),(aM s,none)] :=by
  have h1:=(bX.flat (σ:=L.at) (rd:=[]) (W:=[(k,some (.box ty (cs.set i w))),(s,none)]) λq hq=>by
   rcases bO.1 hq with rfl|hq
   .rw[hk];exact⟨rfl,rfl⟩
   .rw[bh.1 hq,e1];exact⟨e2,rfl⟩).2.2
  rw[aP.BU]at h1;exact h1.symm
 refine C7 (aM s) cells (ty:=tys) (esz:=esz) ?_ e4 rfl (λt ht=> .inr (.inl rfl)) λj ob' hj=> ?_
 .show Sg.a L.at (aM s)=_;rw[Sg.cH,e1,eI,e3]
 .rw[up]at hj;unfold ao at hj;rw[dS,dS]at hj;by_cases h1:j=aM k
  .subst h1;rw[beq_iff_eq.2 rfl]at hj;cases hj;refine⟨λe=>hks (kn e),.inr ⟨(SOb.box ty cs).ob k,by show Sg.a L.at (aM k)=_;rw[Sg.cH,hk];rfl,rfl,rfl,?_,?_,?_⟩⟩
   .rintro⟨_,hh|hh⟩
    .have hh:ty=0:=hh;grind
    .have hh:ty=1:=hh;grind
   .show(avs (cs.set i w)).length=(avs cs).length;rw[jJ,jJ,List.length_set]
   .intro a x hx;have hx:(avs (cs.set i w))[a]? =some x:=hx;rw[OM,List.getElem?_set]at hx;by_cases ha:i=a
    .subst ha;have hlt:i<cs.length:=by
      rcases nF i cs.length with h|h
      .exact h
      .grind
     rw[if_pos rfl,if_pos (by grind)]at hx;cases hx;exact⟨v.av,by show(avs cs)[i]? =_;rw[xU,hv];rfl,.inr (.inr ⟨m,e5,e6⟩)⟩
    .rw[if_neg ha]at hx;exact⟨x,hx,.inr (.inl rfl)⟩
  .rw[beq_eq_false_iff_ne.2 h1]at hj;by_cases h2:j=aM s
   .grind
   .rw[beq_eq_false_iff_ne.2 h2]at hj;exact⟨h2,.inl hj⟩
def Ut{k i:Nat}{L L':aP}{ps:List Prop}(h:xo k i L=some (ps,L')):∃q,L'=q++L:=by
 unfold xo at h;split at h
 case h_2=>cases h
 split at h
 case h_2=>cases h
 split at h<;>cases h;exact⟨[(_,_),(_,_)],rfl⟩
def Gs(k:Nat):Nat->List SV->List (Nat×Nat)
 |_,[] =>[]
 |i,.lst _ _::r=>(k,i)::Gs k (i+1) r
 |i,_::r=>Gs k (i+1) r
def Hb:List (Nat×SOb)->List (Nat×Nat)
 |[] =>[]
 |(k,.box _ cs)::r=>Gs k 0 cs++Hb r
 |_::r=>Hb r
def sV:List (Nat×Nat)->aP->List Prop×aP
 |[],L=>([],L)
 |d::ds,L=>match xo d.1 d.2 L with
  |some (ps,L')=>(match sV ds L' with|(qs,r)=>(ps++qs,r))
  |none=>sV ds L
def DT{n N:Nat}{F:Frm}:∀{ds:List (Nat×Nat)} {L L':aP} {ps:List Prop},sV ds L=(ps,L')->(∀p∈ps,p)->fV (F.av n) L.fn N (F.av n) L'.fn N
 |[],L,L',ps,h,_=>by cases h;exact fV.rfl
 |d::ds,L,L',ps,h,hp=>by
  unfold sV at h;split at h
  .rename_i p1 L1 h1;split at h;rename_i qs r h2;cases h;have w1:=Tv (n:=n) (N:=N) (F:=F) h1 λp hq=>hp p (gZ _ hq);have w2:=DT (n:=n) (N:=N) (F:=F) h2 λp hq=>hp p (fY _ hq);exact λC0 B wI a w hst=>w2 C0 B wI a w (w1 C0 B wI a w hst)
  .exact DT h hp
def D7:∀{ds:List (Nat×Nat)} {L L':aP} {ps:List Prop},sV ds L=(ps,L')->∃q,L'=q++L
 |[],L,L',ps,h=>by cases h;simp_all
 |d::ds,L,L',ps,h=>by
  unfold sV at h;split at h
  .rename_i p1 L1 h1;split at h;rename_i qs r h2;cases h;obtain⟨q,e2⟩:=Ut h1;obtain⟨q',e4⟩:=D7 h2;grind
  .exact D7 h
def Ha:Frm->List Nat
 |[] =>[]
 |(d,.lst _ _)::r=>d::Ha r
 |_::r=>Ha r
def sf:List Nat->Frm->aP->List Prop×Frm×aP
 |[],F,L=>([],F,L)
 |d::ds,F,L=>match xn d F L with
  |some (ps,F',L')=>(match sf ds F' L' with|(qs,r)=>(ps++qs,r))
  |none=>sf ds F L
def D6{n N:Nat}:∀{ds:List Nat} {F F':Frm} {L L':aP} {ps:List Prop},sf ds F L=(ps,F',L')->(∀p∈ps,p)->fV (F.av n) L.fn N (F'.av n) L'.fn N
 |[],F,F',L,L',ps,h,_=>by cases h;exact fV.rfl
 |d::ds,F,F',L,L',ps,h,hp=>by
  unfold sf at h;split at h
  .rename_i p1 F1 L1 h1;split at h;rename_i qs r h2;cases h;have w1:=Tu (n:=n) (N:=N) h1 λp hq=>hp p (gZ _ hq);have w2:=D6 (n:=n) (N:=N) h2 λp hq=>hp p (fY _ hq);exact λC0 B wI a w hst=>w2 C0 B wI a w (w1 C0 B wI a w hst)
  .exact D6 h hp
def Ur{d:Nat}{F F':Frm}{L L':aP}{ps:List Prop}(h:xn d F L=some (ps,F',L')):(∃p,F'=p++F)/\∃q,L'=q++L:=by
 unfold xn at h;split at h
 .split at h
  case h_2=>cases h
  split at h<;>cases h;exact⟨⟨[_],rfl⟩,⟨[_],rfl⟩⟩
 .split at h<;>cases h;exact⟨⟨[_],rfl⟩,⟨[_],rfl⟩⟩
 .cases h
def Er:∀{ds:List Nat} {F F':Frm} {L L':aP} {ps:List Prop},sf ds F L=(ps,F',L')->(∃p,F'=p++F)/\∃q,L'=q++L
 |[],F,F',L,L',ps,h=>by cases h;simp_all
 |d::ds,F,F',L,L',ps,h=>by
  unfold sf at h;split at h
  .rename_i p1 F1 L1 h1;split at h;rename_i qs r h2;cases h;obtain⟨⟨p,e1⟩,⟨q,e2⟩⟩:=Ur h1;obtain⟨⟨p',e3⟩,⟨q',e4⟩⟩:=Er h2;grind
  .exact Er h
end
noncomputable section
inductive Ann:Type 1
 |mk (Y:Type) (wit:Frm->aP->Option Y) (rk:List Nat) (inv:Y->List Prop) (upd:Y->Frm) (obs:Y->List (Nat×SOb)) (mu:Y->Nat) (inner:Y->List (Nat×Ann))
def Ps:List (Nat×Ann)->Nat->Option Ann
 |[],_=>none
 |(k,a)::l,x=>match bB x k with|true=>some a|false=>Ps l x
def asg:Code->List Nat
 | .region _ ops _=>ops.toList.filterMap (·.dst)
 | .seq a b=>asg a++asg b
 | .cond _ t e=>asg t++asg e
 | .block _ c=>asg c
 | .loop c=>asg c
 | .scope c=>asg c
 |_=>[]
def qv:Code->Option Nat
 | .region id _ _=>some id
 | .seq a b=>(match qv a with|some k=>some k|none=>qv b)
 | .cond _ t e=>(match qv t with|some k=>some k|none=>qv e)
 | .block _ c=>qv c
 | .loop c=>qv c
 | .scope c=>qv c
 |_=>none
def G3(A:List (Nat×Ann))(c:Code)(j:Nat):Option Ann:=match qv c with
 |some k=>Ps A (k+j)
 |none=>none
def qz(N:Nat):List Nat->Nat
 |[] =>N
 |s::l=>(match iM (ncl s) (qz N l)with|true=>qz N l|false=>ncl s+1)
abbrev oL:=Exit->Frm->aP->Nat->Fm
def G5(X:Cx)(n:Nat)(raw:Nat->Nat->Bool)(id:Nat)(ops:List Oper)(draw:Bool)(F:Frm)(L:aP)(N:Nat)(K:Frm->aP->Fm):Fm:=match draw with
 |true=>(match X.P.follows .mixedOrders,Bi ops (GW ops),dOk ops n with
  |true,true,true=>gE X n (raw id) N (ops.map (·.dst)) ops 0 F L [] λF L log=>(match xe (GW ops) log with|true=>K F L|false=> .stuck (id+100000))
  |_,_,_=> .stuck (id+200000))
 |false=>(match gOk ops with
  |true=>gE X n (raw id) N (ops.map (·.dst)) ops 0 F L [] λF L _=>K F L
  |false=> .stuck (id+300000))
def yH(n:Nat)(F:Frm)(L:aP)(N:Nat)(rk:List Nat)(upd:Frm)(obs:List (Nat×SOb))(qs:List Prop)(F':Frm)(L':aP):Fm:=match sf (Ha upd) F' L' with
 |(pz,F0,La)=>match sV (Hb obs) La with
  |(pb,L0)=>match sP NM 100 (GP L0) F0 L0 with
   |(p0,F1,L1)=>(match eT (λq:Nat×SV=>mem ((F'.take (F'.length-F.length)).map (·.1)) q.1) (F1.take (F1.length-F'.length)),Bk n L N (qz N rk) rk upd obs F1 L1 with
    |true,some ps=>qt (pz++(pb++(p0++(ps++qs)))) .tt
    |_,_=> .stuck 400000)
def exq{Y:Type}(w:Option Y)(f:Y->Fm):Fm:=match w with
 |some y=>f y
 |none=> .ex Y f
def EE{Y:Type}{w:Option Y}{f:Y->Fm}(h:(exq w f).holds):∃y,(f y).holds:=by
 cases w with
 |some y=>exact⟨y,h⟩
 |none=>exact h
def O6(A:List (Nat×Ann))(c:Code):Nat->Option Nat
 |0=>none
 |k+1=>(match G3 A c (30001+k)with|some _=>some (k+1)|none=>O6 A c k)
def unr(body:oL->Frm->aP->Nat->Fm)(Q:oL):Nat->Frm->aP->Nat->Fm
 |0,_,_,_=> .stuck 810000
 |k+1,F,L,N=>body (λe F' L' N'=>match e with| .normal=>unr body Q k F' L' N'|e=>Q e F' L' N') F L N
abbrev Inl:=Nat->List SV->Frm->Nat->aP->Nat->(SV->aP->Nat->Fm)->Fm
def Gp:Inl:=λ_ _ _ _ _ _ _=> .stuck 990000
def xj:List Oper->Option (List Oper×Oper)
 |[] =>none
 |o::l=>(match xj l with|some (p,q)=>some (o::p,q)|none=>some ([],o))
def Kd:∀{l pre:List Oper} {o:Oper},xj l=some (pre,o)->l=pre++[o]
 |[],pre,o,h=>by cases h
 |x::l,pre,o,h=>by
  unfold xj at h;split at h
  .rename_i p q hp;cases h;rw[Kd hp];rfl
  .rename_i hp;cases h;cases l with
   |nil=>rfl
   |cons y l=>
    unfold xj at hp;grind
def Gu(X:Cx)(ops:List Oper):Option (List Oper×Oper×Nat×List Operand):=match xj ops with
 |some (pre,o)=>(match o.guard,o.op with
  |none,.call {callee:= .value (.func f),args, .. }=>(match X.inl f with|true=>some (pre,o,f,args.toList)|false=>none)
  |_,_=>none)
 |none=>none
def Ui{X:Cx}{ops pre:List Oper}{o:Oper}{f:Nat}{args:List Operand}(h:Gu X ops=some (pre,o,f,args)):ops=pre++[o]/\o.guard=none/\∃c:Call,o.op= .call c/\c.callee= .value (.func f)/\c.args.toList=args:=by
 unfold Gu at h;split at h
 case h_2=>cases h
 rename_i p q hl;split at h
 case h_2=>cases h
 rename_i hg ho;split at h<;>cases h;exact⟨Kd hl,hg,_,ho,rfl,rfl⟩
def G4(X:Cx)(I:Inl):Prop:=∀(f:Nat) (xs:List SV) (F:Frm) (n:Nat) (L:aP) (N:Nat) (K:SV->aP->Nat->Fm) (o:Oper) (c:Call),o.op= .call c->c.callee= .value (.func f)->c.args.toList.map (jt (F.av n))=avs xs->(I f xs F n L N K).holds->
 sn X.P o (F.av n) L.fn N λFA LA N'=>∃r L',r.ok/\FA=eL (F.av n) o.dst r.av/\LA=L'.fn/\gL L L'/\(K r L' N').holds
def L4(X:Cx):G4 X Gp:=λ_ _ _ _ _ _ _ _ _ _ _ _ h=>h.elim
def vc(X:Cx)(I:Inl)(n:Nat)(raw:Nat->Nat->Bool):Code->(Nat->Bool)->List (Nat×Ann)->oL->Frm->aP->Nat->Fm
 | .skip,_,_,Q,F,L,N=>Q .normal F L N
 | .region id ops draw,_,_,Q,F,L,N=>(match draw,Gu X ops.toList with
   |false,some (pre,o,f,args)=>gE X n (raw id) N (ops.toList.map (·.dst)) pre 0 F L [] λF L _=>I f (args.map (sW n F)) F n L (N+pre.length) λr L' N'=>Q .normal (oP n F o.dst r) L' N'
   |_,_=>G5 X n raw id ops.toList draw F L N λF L=>Q .normal F L (N+ops.size))
 | .seq a b,al,A,Q,F,L,N=>(match G3 A b 10000 with
   |none=>vc X I n raw a al A (λe F L N=>match e with| .normal=>vc X I n raw b al A Q F L N|e=>Q e F L N) F L N
   |some (.mk Y wit rk inv upd obs _ inner)=>(match eT al (ja F rk N F)with
    |true=> .both
     (vc X I n raw a (mem (asg a)) A (λe F1 L1 N1=>match e with| .normal=>exq (wit F1 L1) λy=>yH n F L N rk (upd y) (obs y) (inv y) F1 L1|e=>Q e F1 L1 N1) F L N)
     (.all Y λy=>HW (inv y) (match eT (λq=>mem (asg a++ja F rk N F) q.1) (upd y)with
       |true=>vc X I n raw b al (inner y++A) Q (ke F (upd y) (asg a++ja F rk N F)) (ir L (obs y)) (qz N rk)
       |false=> .stuck 500000))
    |false=> .stuck 600000))
 | .cond c t e,al,A,Q,F,L,N=>(match sW n F c with
   | .lit true=>vc X I n raw t al A Q F L N
   | .lit false=>vc X I n raw e al A Q F L N
   | .prop p _=> .both (.imp p (vc X I n raw t al A Q F L N)) (.imp (¬p) (vc X I n raw e al A Q F L N))
   | .bool b=> .both (.imp (b=true) (vc X I n raw t al A Q F L N)) (.imp (b=false) (vc X I n raw e al A Q F L N))
   |_=> .stuck 700000)
 | .block id c,al,A,Q,F,L,N=>vc X I n raw c al A (λe F L N=>match e with| .exit id'=>(match bB id' id with|true=>Q .normal F L N|false=>Q (.exit id') F L N)|e=>Q e F L N) F L N
 | .loop c,al,A,Q,F,L,N=>(match G3 A c 0 with
   |none=>(match O6 A c 6 with
    |some k=>unr (λQ F L N=>vc X I n raw c al A Q F L N) Q k F L N
    |none=> .stuck 800000)
   |some (.mk Y wit rk inv upd obs mu inner)=>(match eT al (ja F rk N F)with
    |true=> .both
     (exq (wit F L) λy=>yH n F L N rk (upd y) (obs y) (inv y) F L)
     (.all Y λx=>HW (inv x) (match eT (λq=>mem (asg c++ja F rk N F) q.1) (upd x)with
       |true=>vc X I n raw c (mem (asg c)) (inner x++A) (λe F1 L1 N1=>match e with| .normal=>exq (wit F1 L1) λy=>yH n F L N rk (upd y) (obs y) (inv y++[mu y<mu x]) F1 L1|e=>Q e F1 L1 N1) (ke F (upd x) (asg c++ja F rk N F)) (ir L (obs x)) (qz N rk)
       |false=> .stuck 500000))
    |false=> .stuck 600000))
 | .exit id,_,_,Q,F,L,N=>Q (.exit id) F L N
 | .ret,_,_,Q,F,L,N=>Q .ret F L N
 | .scope c,al,A,Q,F,L,N=>vc X I n raw c al A (λe F L N=>match e with| .goto _=> .stuck 910001|e=>Q e F L N) F L N
 | .label _,_,_,Q,F,L,N=>Q .normal F L N
 |_,_,_,_,_,_,_=> .stuck 900000
def gW.mono{n:Nat}{S T:Nat->Prop}{F:Frm}{L:aP}{FA:List AV}{LA:Sto}{G H:Frm->aP->Prop}(hS:∀d,S d->T d)(hG:∀F L,F.ok->G F L->H F L)(h:gW n S F L FA LA G):gW n T F L FA LA H:=by obtain⟨F',L',a,b,c,d,e,f⟩:=h;exact⟨F',L',a,b,c,d.mono hS,e,hG F' L' c f⟩
def least{p:Nat->Prop}(h:∃k,p k):∃k,p k/\∀j,p j->k<=j:=by
 obtain⟨k,hk⟩:=h;induction k using Nat.strongRecOn with
 |ind k ih=>
  grind
def Kj{F upd:Frm}{hav:List Nat}:Pre (λd=>d∈upd.map (·.1)\/d∈hav) F (ke F upd hav):=by refine⟨upd++(hav.map λd=>(d,SV.any)),by unfold ke;simp,λq hq=> ?_⟩;grind
def D5{L:aP}{obs:List (Nat×SOb)}:gL L (ir L obs):=⟨_,rfl⟩
def MI{F upd:Frm}{hav:List Nat}(hF:F.ok)(hu:∀q∈upd,q.2.ok):(ke F upd hav).ok:=by
 intro t;unfold ke;rw[Frm.o7,Frm.o7];split
 .split
  .rename_i h;exact hu _ (uw h)
  .rw[PK];split<;>trivial
 .exact hF t
def N8{n:Nat}{F':Frm}:∀{upd:Frm} {ps:List Prop} {r:Rm},vA n F' upd=some (ps,r)->∀q∈upd,q.2.ok
 |[],ps,r,_,q,hq=>by cases hq
 |(d,v)::upd,ps,r,h,q,hq=>by
  unfold vA at h;split at h<;>cases h;rename_i p1 m1 p2 m2 h1 h2 h3 h4;rcases bO.1 hq with rfl|hq
  .exact SV.mr h2
  .exact N8 h4 q hq
def Fp{n:Nat}{F F' upd:Frm}{L L':aP}{N N':Nat}{rk:List Nat}{obs:List (Nat×SOb)}{hav:List Nat}{qs:List Prop}(h:(yH n F L N rk upd obs qs F' L').holds)
  (hF:Pre (λd=>d∈hav) F F') (hbad:∀d∈ja F rk N F,d∈hav) (hL:gL L L'):
  fV (F'.av n) L'.fn N' ((ke F upd hav).av n) (ir L obs).fn (qz N rk)/\(∀p∈qs,p)/\∀q∈upd,q.2.ok:=by
 unfold yH at h;split at h;rename_i pz F0 La hz;split at h;rename_i pb L0 hb;split at h;rename_i p0 F1 L1 h0;split at h
 .rename_i ps hc hm;have hp:=(rQ h).1;obtain⟨⟨pa,ea1⟩,⟨qa,ea2⟩⟩:=Df h0;obtain⟨⟨pb',eb1⟩,⟨qb,eb2⟩⟩:=Er hz;obtain⟨qc,ec2⟩:=D7 hb;obtain⟨p,e1⟩:∃p,F1=p++F':=by grind
  obtain⟨q,e2⟩:∃q,L1=q++L':=by grind
  have wz1:=D6 (n:=n) (N:=N') hz λp hpp=>hp p (by grind);have wz2:=DT (n:=n) (N:=N') (F:=F0) hb λp hpp=>hp p (by grind);have wz:fV (F'.av n) L'.fn N' (F0.av n) L0.fn N':=λC0 B wI a w hst=>wz2 C0 B wI a w (wz1 C0 B wI a w hst);have hp:∀p∈p0++(ps++qs),p:=λp hpp=>hp p (by grind);have hF1:Pre (λd=>d∈hav) F F1:=by
   obtain⟨pre,e3,hpre⟩:=hF;refine⟨p++pre,by grind,λr hr=> ?_⟩;rcases bq.1 hr with hr|hr
   .have:=gR hc r (by rw[e1,show(p++F').length-F'.length=p.length by simp,Cj];exact hr);obtain⟨r',h1,h2⟩:=bM.1 ((mem_iff _ _).1 this);grind
   .grind
  have hL1:gL L L1:=by obtain⟨pre,e3⟩:=hL;exact⟨q++pre,by grind⟩
  have hps:∀p∈ps,p:=λp hpp=>hp p (by grind);refine⟨?_,λp hpp=>hp p (by grind),?_⟩
  .rcases DL (n:=n) h0 (λp hpp=>hp p (by grind)) N' with⟨_,f1,f2⟩|w
   .have:=KV (N':=N') hm hps hF1 hbad hL1;rw[f1,f2]at this;exact λC0 B wI a w' hst=>this C0 B wI a w' (wz C0 B wI a w' hst)
   .have:=KV (N':=NM) hm hps hF1 hbad hL1;exact λC0 B wI a w' hst=>this C0 B wI a w' (w C0 B wI a w' (wz C0 B wI a w' hst))
  unfold Bk at hm;split at hm
  .cases hm
  .rename_i h1;exact N8 h1
 .exact h.elim
def Mp{X:Cx}(hX:X.Ok){n:Nat}{raw:Nat->Nat->Bool}{id:Nat}{ops:Array Oper}{draw:Bool}{F:Frm}{L:aP}{N:Nat}{K:Frm->aP->Fm}(hF:F.ok)(h:(G5 X n raw id ops.toList draw F L N K).holds):
  R0 X.P draw ops.toList (F.av n) L.fn N λFA LA=>gW n (λd=>d∈asg (.region id ops draw)) F L FA LA λF' L'=>(K F' L').holds:=by
 have hd:∀o∈ops.toList,o.dst∈ops.toList.map (·.dst):=by grind
 have hS:∀d,some d∈ops.toList.map (·.dst)->d∈asg (.region id ops draw):=by intro d hd;obtain⟨o,ho,e⟩:=bM.1 hd;exact IF.2 ⟨o,ho,e⟩
 unfold G5 at h;split at h
 .split at h
  .rename_i h1 h2 h3;refine⟨_,h1,h2,by rw[Frm.jB];exact h3,?_⟩;refine jC ?_ (xM hX ops.toList 0 F L [] hd hF h);intro FA LA log ht;have hf:xe (GW ops.toList) log=true:=by
    obtain⟨_,_,_,_,_,_,_,hh⟩:=ht;split at hh
    .assumption
    .exact hh.elim
   refine⟨hf,ht.mono hS λF L _ hh=> ?_⟩;grind
  .exact h.elim
 .split at h
  .rename_i h1;exact⟨h1,jC (λ_ _ _ ht=>ht.mono hS λ_ _ _ h=>h) (xM hX ops.toList 0 F L [] hd hF h)⟩
  .exact h.elim
def EQ{X:Cx}(hX:X.Ok){I:Inl}(hI:G4 X I){n:Nat}{raw:Nat->Nat->Bool}:∀(c:Code) (al:Nat->Bool) (A:List (Nat×Ann)) (Q:oL) (F:Frm) (L:aP) (N:Nat),(∀d∈asg c,al d=true)->F.ok->(vc X I n raw c al A Q F L N).holds->
  awp X.P c (λe FA LA N'=>gW n (λd=>al d=true) F L FA LA λF' L'=>(Q e F' L' N').holds) (F.av n) L.fn N:=by
 intro c;induction c with
 |skip=>intro al A Q F L N hal hF h;exact⟨F,L,rfl,rfl,hF,Pre.rfl,gL.rfl,h⟩
 |region id ops draw=>
  intro al A Q F L N hal hF h;unfold vc at h;cases draw with
  |true=>
   have:=Mp (draw:=true) hX hF h;left;obtain⟨anc,h1,h2,h3,h4⟩:=this;exact⟨anc,h1,h2,h3,jC (λF L log ⟨a,b⟩=>⟨a,b.mono hal λ_ _ _ h=>h⟩) h4⟩
  |false=>
  split at h
  .rename_i pre o f args _ hin;obtain⟨e1,e2,c,e3,e4,e5⟩:=Ui hin;have hd:∀o'∈pre,o'.dst∈ops.toList.map (·.dst):=by grind
   have hS:∀d,some d∈ops.toList.map (·.dst)->al d=true:=by intro d hd;obtain⟨o',ho,e⟩:=bM.1 hd;exact hal d (IF.2 ⟨o',ho,e⟩)
   refine .inr ⟨rfl,pre,o,e1,e2,jC ?_ (xM hX pre 0 F L [] hd hF h)⟩;rintro FA LA log ⟨F',L',rfl,rfl,hF',hpre,hpreL,hh⟩;refine(hI f _ F' n L' _ _ o c e3 e4 ?_ hh).mono ?_
   .rw[e5,im,cv];exact List.map_congr_left λx _=>(Ev x).symm
   .rintro FA LA N' ⟨r,L2,hr,rfl,rfl,hpl,hq⟩;refine⟨oP n F' o.dst r,L2,by rw[FS],rfl,FR hF' hr,((hpre.mono hS).trans (Ec λt ht=>hS t ?_)),hpreL.trans hpl,hq⟩;grind
  .have:=Mp (draw:=false) hX hF h;left;obtain⟨h1,h2⟩:=this;exact⟨h1,jC (λF L log b=>b.mono hal λ_ _ _ h=>h) h2⟩
 |seq a b iha ihb=>
  intro al A Q F L N hal hF h;have hala:∀d∈asg a,al d=true:=λd hd=>hal d (gZ _ hd);have halb:∀d∈asg b,al d=true:=λd hd=>hal d (fY _ hd);unfold vc at h;split at h
  .have h1:=iha al A _ F L N hala hF h;refine⟨λFA LA N'=>gW n (λd=>al d=true) F L FA LA λF' L'=>(vc X I n raw b al A Q F' L' N').holds,mX a ?_ h1,?_⟩
   .grind
   .rintro FA LA N' ⟨F',L',rfl,rfl,hF',hpre,hpreL,hh⟩;refine⟨_,_,_,fV.rfl,mX b ?_ (ihb al A Q F' L' N' halb hF' hh)⟩;intro e FA LA N' ht;exact ht.step hpre hpreL
  .rename_i Y wit rk inv upd obs mu inner hA;split at h
   case h_2=>exact h.elim
   rename_i hbad;have hbad:=gR hbad;obtain⟨h1,h2⟩:=Fm.tU h;have hmem:∀d,mem (asg a) d=true->d∈asg a:=λd=>(mem_iff d _).1;have h1:=iha (mem (asg a)) A _ F L N (λd hd=>(mem_iff _ _).2 hd) hF h1;refine TP (λFA LA N'=>∃y,(∀p∈inv y,p)/\(∀q∈upd y,q.2.ok)/\FA=(ke F (upd y) (asg a++ja F rk N F)).av n/\LA=(ir L (obs y)).fn/\N'=qz N rk) (mX a ?_ h1) ?_
   .intro e FA LA N' ht;cases e
    case normal=>
     obtain⟨F',L',rfl,rfl,hF',hpre,hpreL,hh⟩:=ht;obtain⟨y,hh⟩:=EE hh;obtain⟨k1,k2,k3⟩:=Fp (N':=N') (hav:=asg a++ja F rk N F) hh (hpre.mono (by grind)) (by grind) hpreL;grind
    all_goals exact ht.mono (by grind) λ_ _ _ h=>h
   .rintro FA LA N' ⟨y,hy,hok,rfl,rfl,rfl⟩;have h2:=Jl ((h2:∀y:Y,Fm.holds _) y) hy;split at h2
    case h_2=>exact h2.elim
    rename_i hu;have hu:=gR hu;refine mX b ?_ (ihb al (inner y++A) Q _ _ _ halb (MI hF hok) h2);intro e FA LA N' ht;refine ht.step (Kj.mono ?_) D5;rintro d (hd|hd)
    .obtain⟨q,hq,rfl⟩:=bM.1 hd;rcases bq.1 ((mem_iff _ _).1 (hu q hq))with hd|hd
     .grind
     grind
    grind
 |cond c t e iht ihe=>
  intro al A Q F L N hal hF h;have halt:∀d∈asg t,al d=true:=λd hd=>hal d (gZ _ hd);have hale:∀d∈asg e,al d=true:=λd hd=>hal d (fY _ hd);unfold vc at h;have ev:∀v,sW n F c=v->jt (F.av n) c=v.av:=λv hv=>by rw[<-Ev,hv]
  split at h
  .rename_i hc;exact⟨true,ev _ hc,by grind,by grind⟩
  .rename_i hc;exact⟨false,ev _ hc,(by grind),by grind⟩
  .rename_i p d hc;obtain⟨h1,h2⟩:=Fm.tU h;refine⟨@decide p d,ev _ hc,λhh=>iht al A Q F L N halt hF ((h1:p->_) (by grind)),λhh=>ihe al A Q F L N hale hF ((h2:¬p->_) (by grind))⟩
  .rename_i b hc;obtain⟨h1,h2⟩:=Fm.tU h;exact⟨b,ev _ hc,λhh=>iht al A Q F L N halt hF ((h1:b=true->_) hh),λhh=>ihe al A Q F L N hale hF ((h2:b=false->_) hh)⟩
  .exact h.elim
 |block id c ih=>
  intro al A Q F L N hal hF h;have:=ih al A _ F L N hal hF h;refine mX c ?_ this;intro e FA LA N' ht;cases e
  case exit id'=>
   dsimp only at ht|-;cases hb:bB id' id with
   |true=>
    simp_all
   |false=>
    rw[if_neg (lT hb)];grind
  all_goals exact ht
 |loop c ih=>
  intro al A Q F L N hal hF h;unfold vc at h;split at h
  .split at h
   case h_2=>exact h.elim
   rename_i k0 _
   let rep:Nat->List AV->Sto->Nat->Prop:=λk FA LA N'=>gW n (λd=>al d=true) F L FA LA λF' L'=>(unr (λQ F L N=>vc X I n raw c al A Q F L N) Q k F' L' N').holds
   have hmu:∃μ:List AV->Sto->Nat->Nat,∀FA LA N',(∃k,rep k FA LA N')->rep (μ FA LA N') FA LA N'/\∀k,rep k FA LA N'->μ FA LA N'<=k:=by
    have:∀FA LA N',∃k,(∃k,rep k FA LA N')->rep k FA LA N'/\∀j,rep j FA LA N'->k<=j:=by
     intro FA LA N';by_cases hh:∃k,rep k FA LA N'
     .obtain⟨k,h1,h2⟩:=least hh;exact⟨k,by grind⟩
     .simp_all
    exact⟨λFA LA N'=>Classical.choose (this FA LA N'),λFA LA N'=>Classical.choose_spec (this FA LA N')⟩
   obtain⟨μ,hμ⟩:=hmu;refine Wj (λFA LA N'=>∃k,rep k FA LA N') μ ⟨_,_,_,fV.rfl,k0,⟨F,L,rfl,rfl,hF,Pre.rfl,gL.rfl,h⟩⟩ ?_;intro FA LA N' hr;have hk:=(hμ FA LA N' hr).1;generalize hkk:μ FA LA N'=k at hk|-;obtain⟨F',L',rfl,rfl,hF',hpre,hpreL,hh⟩:=hk;cases k with
   |zero=>exact hh.elim
   |succ k=>
    refine mX c ?_ (ih al A _ F' L' N' hal hF' hh);intro e FA LA N2 ht;have ht:=ht.step hpre hpreL;cases e
    case normal=>
     have hr2:rep k FA LA N2:=ht;exact⟨_,_,_,fV.rfl,⟨k,hr2⟩,Nat.lt_succ_of_le ((hμ _ _ _ ⟨k,hr2⟩).2 k hr2)⟩
    all_goals exact ht
  rename_i Y wit rk inv upd obs mu inner hA;split at h
  case h_2=>exact h.elim
  rename_i hbad;have hbad:=gR hbad;obtain⟨h1,h2⟩:=Fm.tU h;obtain⟨y0,h1⟩:=EE h1;have hmem:∀d,mem (asg c) d=true->d∈asg c:=λd=>(mem_iff d _).1
  let hav:=asg c++ja F rk N F
  let rep:Y->List AV->Sto->Prop:=λy FA LA=>(∀p∈inv y,p)/\(∀q∈upd y,q.2.ok)/\FA=(ke F (upd y) hav).av n/\LA=(ir L (obs y)).fn
  obtain⟨k1,k2,k3⟩:=Fp (N':=N) (hav:=hav) h1 Pre.rfl (by grind) gL.rfl;have hmu:∃μ:List AV->Sto->Nat,∀FA LA,(∃y,rep y FA LA)->∃y,rep y FA LA/\mu y=μ FA LA/\∀z,rep z FA LA->μ FA LA<=mu z:=by
   have:∀FA LA,∃k,(∃y,rep y FA LA)->∃y,rep y FA LA/\mu y=k/\∀z,rep z FA LA->k<=mu z:=by
    intro FA LA;by_cases hh:∃y,rep y FA LA
    .obtain⟨y,hy⟩:=hh;obtain⟨k,⟨z,hz,e⟩,hk⟩:=least (p:=λk=>∃y,rep y FA LA/\mu y=k) ⟨_,y,hy,rfl⟩;exact⟨k,by grind⟩
    .exact⟨0,by grind⟩
   exact⟨λFA LA=>Classical.choose (this FA LA),λFA LA=>Classical.choose_spec (this FA LA)⟩
  obtain⟨μ,hμ⟩:=hmu;refine YU (λFA LA N'=>(∃y,rep y FA LA)/\N'=qz N rk) μ (by grind) ?_;rintro FA LA N' ⟨hr,rfl⟩;obtain⟨x,⟨hx,hok,rfl,rfl⟩,hmx,_⟩:=hμ FA LA hr;have h2:=Jl ((h2:∀x:Y,Fm.holds _) x) hx;split at h2
  case h_2=>exact h2.elim
  rename_i hu;have hu:=gR hu;have hpre0:Pre (λd=>d∈hav) F (ke F (upd x) hav):=by
   refine Kj.mono ?_;rintro d (hd|hd)
   .obtain⟨q,hq,rfl⟩:=bM.1 hd;exact(mem_iff _ _).1 (hu q hq)
   .exact hd
  refine mX c ?_ (ih (mem (asg c)) (inner x++A) _ _ _ _ (λd hd=>(mem_iff _ _).2 hd) (MI hF hok) h2);intro e FA' LA' N' ht;have up:∀(G:Frm->aP->Prop),gW n (λd=>mem (asg c) d=true) (ke F (upd x) hav) (ir L (obs x)) FA' LA' G->gW n (λd=>al d=true) F L FA' LA' G:=by
   intro G ht;refine(ht.mono (λd hd=>hal d (hmem d hd)) λ_ _ _ h=>h).step (hpre0.mono ?_) D5;intro d hd;rcases bq.1 hd with hd|hd
   .exact hal d hd
   .grind
  cases e
  case normal=>
   obtain⟨F',L',rfl,rfl,hF',hpre,hpreL,hh⟩:=ht;obtain⟨y,hh⟩:=EE hh;obtain⟨k1,k2,k3⟩:=Fp (N':=N') (hav:=hav) hh (hpre0.trans (hpre.mono (by grind))) (by grind) (D5.trans hpreL);have hry:rep y ((ke F (upd y) hav).av n) (ir L (obs y)).fn:=⟨λp h=>k2 p (by grind),k3,rfl,rfl⟩;refine⟨_,_,_,k1,by grind,?_⟩;obtain⟨z,_,ez,hz⟩:=hμ _ _ ⟨y,hry⟩;have g1:=hz y hry;have g2:mu y<mu x:=k2 _ (by grind);omega
  all_goals exact up _ ht
 |exit id=>intro al A Q F L N hal hF h;exact⟨F,L,rfl,rfl,hF,Pre.rfl,gL.rfl,h⟩
 |ret=>intro al A Q F L N hal hF h;exact⟨F,L,rfl,rfl,hF,Pre.rfl,gL.rfl,h⟩
 |rangeFunc f params x y _ _=>intro al A Q F L N hal hF h;exact h.elim
 |scope c ih=>
  intro al A Q F L N hal hF h;refine mX c ?_ (ih al A _ F L N hal hF h);intro e FA LA N' ht;cases e<;>first|exact ht|(obtain⟨_,_,_,_,_,_,_,hh⟩:=ht;exact hh.elim)
 |label l=>intro al A Q F L N hal hF h;exact⟨F,L,rfl,rfl,hF,Pre.rfl,gL.rfl,h⟩
 |goto l=>intro al A Q F L N hal hF h;exact h.elim
 |refuse s=>intro al A Q F L N hal hF h;exact h.elim
end
section
noncomputable section
def oO(P:Program)(n:Nat)(F:Frm)(σ:Sg):List ResultVar->Option (List SV)
 |[] =>some []
 | .tmp t::rs=>(match iM t n,oO P n F σ rs with|true,some l=>some (F.at t::l)|_,_=>none)
 | .cell a t::rs=>(match iM a n,F.at a,oO P n F σ rs with
   |true,.ptr s off,some l=>(match σ s with
    |some (.box _ cs)=>(match oA P t cs off with|some r=>some (r::l)|none=>none)
    |some (.arr _ _ cs)=>(match oA P t cs off with|some r=>some (r::l)|none=>none)
    |_=>none)
   |_,_,_=>none)
def qY{P:Program}{n:Nat}{F:Frm}{σ:Sg}:∀{rs:List ResultVar} {l:List SV} {K:List AV->Prop},oO P n F σ rs=some l->K (avs l)->iW P rs (F.av n) σ.a K
 |[],l,K,h,hK=>by cases h;exact hK
 | .tmp t::rs,l,K,h,hK=>by
   unfold oO at h;split at h<;>cases h;rename_i l' h1 h2;unfold iW;refine qY h2 ?_;rw[Frm.lv ((jn _ _).1 h1)];exact hK
 | .cell a t::rs,l,K,h,hK=>by
   unfold oO at h;split at h
   case h_2=>cases h
   rename_i s off l' h1 h2 h3;unfold iW;rw[Frm.lv ((jn _ _).1 h1),h2];split at h
   .rename_i ty cs hs;split at h<;>cases h;rename_i r hr;exact⟨_,by rw[Sg.cH,hs];rfl,qS hr (qY h3 hK)⟩
   .rename_i ty ez cs hs;split at h<;>cases h;rename_i r hr;exact⟨_,by rw[Sg.cH,hs];rfl,qS hr (qY h3 hK)⟩
   .cases h
def sZ:List SV->SV
 |[x] =>x
 |l=> .tup l
def CG(P:Program)(n:Nat)(rs:List ResultVar)(r:SV)(F:Frm)(L:aP):Fm:=match oO P n F L.at rs with
 |some l=>(match jv (kH 3 L.at) l with
  |some (ps,m)=>(match eqv 3 r (sZ m)with
   |some (qs,[])=>qt (ps++qs) .tt
   |_=> .stuck 920000)
  |none=> .stuck 930000)
 |none=> .stuck 940000
def RZ(P:Program)(n:Nat)(rs:List ResultVar)(r:SV):oL:=λe F L _=>match e with
 | .normal=>CG P n rs r F L
 | .ret=>CG P n rs r F L
 |_=> .stuck 910000
def Yy{P:Program}{n:Nat}{rs:List ResultVar}{r:SV}{q:PV}(hr:r.av= .p q){e:Exit}{F:Frm}{L:aP}{N:Nat}(h:(RZ P n rs r e F L N).holds):HI P rs q e (F.av n) L.fn N:=by
 have key:(CG P n rs r F L).holds->iW P rs (F.av n) L.fn λl=>∃m,di (dL 3 L.fn) l=some m/\u7 m=q:=by
  intro h;unfold CG at h;split at h
  case h_2=>exact h.elim
  rename_i l hl;split at h
  case h_2=>exact h.elim
  rename_i ps m hm;split at h
  case h_2=>exact h.elim
  rename_i qs he;have hp:=(rQ h).1;have e2:Sg.a L.at=L.fn:=rfl;rw[<-e2];refine qY hl ?_;obtain⟨u,h1,h2⟩:=xP (λx ps y=>EU) hm (λp hpp=>hp p (by grind));refine⟨u,h1,?_⟩;have h3:=uL (m:=λ_=>none) 3 r (sZ m) qs [] he (λp hpp=>hp p (by grind)) (λq hq=>by cases hq);rw[hr]at h3;unfold cN at h3;have h4:(sZ m).av= .p (u7 u):=by
   cases m with
   |nil=>
    have:u=[] :=by have:=congrArg fW h2;simp[avs]at this;grind
    subst this;rfl
   |cons x m=>
    cases m with
    |nil=>
     cases u with
     |nil=>simp[avs]at h2
     |cons y u=>
      have h5:u=[] :=by have:=congrArg fW h2;simp only[avs,cT,gY,mH,cL]at this;grind
      subst h5;simp only[avs,cT,j6,List.cons.injEq,and_true]at h2;exact h2
    |cons y m=>
     have h5:(sZ (x::y::m)).av=jr (avs (x::y::m)):=rfl;rw[h5,h2];unfold jr;rw[dR];cases u with
     |nil=>simp[avs]at h2
     |cons a u=>
      cases u with
      |nil=>simp[avs]at h2
      |cons b u=>rfl
  rw[h4]at h3;cases h3;rfl
 cases e<;>first|exact h.elim|exact key h
structure Ar(α:Type) where
 enc:α->SV
 dec:SV->Option α
 ok:∀s a,dec s=some a->s.av=(enc a).av
 pl:∀a,∃q,(enc a).av= .p q
structure Arl(α:Type) where
 enc:α->List SV
 dec:List SV->Option α
 ok:∀s a,dec s=some a->avs s=avs (enc a)
 pl:∀a,∃q:List PV,avs (enc a)=q.map .p
def a0:Arl Unit:=⟨λ_=>[],λl=>match l with|[] =>some ()|_=>none,by grind,λ_=>⟨[],rfl⟩⟩
def a1{α:Type}(A:Ar α):Arl α:=⟨λa=>[A.enc a],λl=>match l with|[x] =>A.dec x|_=>none,λs a h=>by
  match s,h with
  |[x],h=>simp only[avs,A.ok x a h],
 λa=>by obtain⟨q,h⟩:=A.pl a;exact⟨[q],by simp only[avs,h,cT,j6]⟩⟩
def ac{α β:Type}(A:Ar α)(B:Arl β):Arl (α×β):=⟨λa=>A.enc a.1::B.enc a.2,λl=>match l with
  |x::r=>(match A.dec x,B.dec r with|some a,some b=>some (a,b)|_,_=>none)
  |_=>none,λs a h=>by
  match s,h with
  |x::r,h=>
   dsimp only at h;split at h<;>cases h;rename_i a b h1 h2;simp only[avs,A.ok x a h1,B.ok r b h2],
 λa=>by obtain⟨q,h⟩:=A.pl a.1;obtain⟨r,k⟩:=B.pl a.2;exact⟨q::r,by simp only[avs,h,k,cT]⟩⟩
def aI:Ar Int:=⟨λn=> .int .i64 n,λs=>match s with| .int .i64 n=>some n|_=>none,by grind,λ_=>⟨_,rfl⟩⟩
def aN:Ar Nat:=⟨λn=> .int .i64 (n:Int),λs=>match s with| .int .i64 (.ofNat n)=>some n|_=>none,λ_ _ h=>by
 (split at h<;>cases h;rfl),λ_=>⟨_,rfl⟩⟩
def aB:Ar Bool:=⟨λb=> .bool b,x9,λ_ _ h=>xI h,λ_=>⟨_,rfl⟩⟩
def aV:Ar V:=⟨λv=> .agg [.int .i64 v.x,.int .i64 v.y],λs=>match s with| .agg [.int .i64 x,.int .i64 y] =>some ⟨x,y⟩|_=>none,by grind,λ_=>⟨_,rfl⟩⟩
def aS:Ar Geo.S:=⟨λs=> .agg [.int .i64 s.a.x,.int .i64 s.a.y,.int .i64 s.b.x,.int .i64 s.b.y],λs=>match s with| .agg [.int .i64 x,.int .i64 y,.int .i64 z,.int .i64 w] =>some ⟨⟨x,y⟩,⟨z,w⟩⟩|_=>none,by grind,λ_=>⟨_,rfl⟩⟩
def aT:Ar Pt:=⟨λp=> .agg [.int .i64 p.x,.int .i64 p.y,.int .i64 p.den],λs=>match s with| .agg [.int .i64 x,.int .i64 y,.int .i64 z] =>some ⟨x,y,z⟩|_=>none,by grind,λ_=>⟨_,rfl⟩⟩
def oS(t:LT)(s:SV):Option (List t.ty):=match s with
 | .lst t' l=>(match decEq t' t with| .isTrue h=>some (h▸l)| .isFalse _=>none)
 | .sl 0 [] =>some []
 | .sl n cs=>t.decs n cs
 |_=>none
def qZ{t:LT}{s:SV}{l:List t.ty}(h:oS t s=some l):s.av= .p (.sl l.length (t.enc l)):=by
 unfold oS at h;split at h
 .split at h
  .rename_i e _;subst e;cases h;rfl
  .cases h
 .cases h;rfl
 .rename_i n cs _;obtain⟨e1,e2⟩:=LT.uM h;show(match bG (avs cs)with|some q=>AV.p (.sl n q)|none=> .any)=_;rw[e2,dR,e1]
 .cases h
def aL(t:LT):Ar (List t.ty):=⟨λl=> .lst t l,oS t,λ_ _ h=>qZ h,λ_=>⟨_,rfl⟩⟩
def shD(s:SV):Option Shape:=match s with
 | .agg [r,h] =>(match oS .V r,oS .R h with|some o,some hs=>some ⟨o,hs⟩|_,_=>none)
 |_=>none
def Z9(s:SV)(a:Shape)(h:shD s=some a):s.av=(SV.agg [.lst .V a.outer,.lst .R a.holes]).av:=by
 unfold shD at h;split at h
 .split at h<;>cases h;rename_i o hs h1 h2;simp only[SV.av,avs,qZ h1,qZ h2]
 .cases h
def aSh:Ar Shape:=⟨λs=> .agg [.lst .V s.outer,.lst .R s.holes],shD,Z9,λ_=>⟨_,rfl⟩⟩
def con{α:Type}(A:Arl α)(pre:α->List Prop)(res:α->SV):Con:=⟨α,A.dec,pre,.val false res⟩
def oW(l:List SV):Nat->Frm
 |k=>match l with
  |[] =>[]
  |x::l=>(k,x)::oW l (k+1)
def Fv:∀(l:List SV) (k t:Nat),(oW l k).at t=if k<=t then(match l[t-k]? with|some x=>x|none=> .undef)else .undef
 |[],k,t=>by simp[oW,Frm.at]
 |x::l,k,t=>by
  unfold oW;rw[Frm.kz,Fv l (k+1) t];grind
def Mj{l:List SV}{n:Nat}(hn:l.length<=n):(oW l 0).av n=avs l++cO (n-(avs l).length) .undef:=by
 apply List.ext_getElem?;intro i;unfold Frm.av;rw[fy];by_cases hi:i<n
 .rw[List.getElem?_range hi,eI,Fv,if_pos (i5 _),Nat.sub_zero];by_cases h2:i<l.length
  .rw[List.getElem?_append_left (by rw[jJ];exact h2),xU,eZ h2];rfl
  .rw[kM (by rw[jJ];omega),List.getElem?_replicate,lS (by omega),jJ,if_pos (by omega)];rfl
 .rw[lS (by simp;omega),lS (by simp[jJ];omega)];rfl
def Fu{args:List SV}(hpe:∀v∈args,v.ape=false):(oW args 0).ok:=by
 intro t;rw[Fv,if_pos (i5 _)];split
 .rename_i x hx;exact SV.mr (by grind)
 .trivial
def aAH:aP.fn [] =λ_=>none:=by
 funext s
 rcases j8 s with⟨x,rfl⟩|⟨x,a,rfl⟩|hno
 .exact Sg.cH _ x
 .exact Sg.fQ _ x a
 .exact Sg.jc _ hno
def uj:Nat->Nat->Bool:=λ_ _=>false
def HU(X:Cx):Inl:=λf xs F n L N K=>match jX X.P f,X.P.funcs[f]?,L.at 0 with
 |true,some fn,some (.box 0 (.undef::S))=>(match fn.body with
  |some c=>(match mM xs.length fn.ntmps,eT (λv:SV=>match v.ape with|true=>false|false=>true) xs with
   |true,true=>
    let fin:Frm->aP->Nat->Fm:=λF' L' N'=>match eT (λq:Nat×Option SOb=>match bB q.1 0 with|true=>false|false=>true) (L'.take (L'.length-(L.length+1)))with
     |true=>(match oO X.P fn.ntmps F' L'.at fn.results.toList with
      |some [] =>K .undef ((0,some (.box 0 (.undef::S)))::L') N'
      |some [r] =>(match r.ape with|false=>K r ((0,some (.box 0 (.undef::S)))::L') N'|true=> .stuck 991001)
      |_=> .stuck 991002)
     |false=> .stuck 991003
    vc X Gp fn.ntmps uj c (λ_=>true) [] (λe F' L' N'=>match e with
     | .normal=>fin F' L' N'
     | .ret=>fin F' L' N'
     |_=> .stuck 991004) (oW xs 0) ((0,some (.box 0 (.undef::(S++(bP n).map F.at))))::L) N
   |_,_=> .stuck 991005)
  |none=> .stuck 991006)
 |_,_,_=> .stuck 991007
def YW{L:aP}{pre:aP}{s:Nat}(h:∀q∈pre,q.1≠s):aP.at (pre++L) s=L.at s:=by
 induction pre with
 |nil=>rfl
 |cons q pre ih=>
  obtain⟨k,x⟩:=q;have hk:bB s k=false:=by
   cases hb:bB s k with
   |false=>rfl
   |true=>simp_all
  show(match bB s k with|true=>x|false=>aP.at (pre++L) s)=_;grind
def M2{L:aP}{cs T:List SV}(hL:L.at 0=some (.box 0 cs)):aP.fn ((0,some (.box 0 T))::L)=ao L.fn [(eO,some ⟨0,0,avs T⟩)] :=by have h:=(bX.flat (σ:=L.at) (rd:=[]) (W:=[(0,some (.box 0 T))]) λq hq=>by rw[bh.1 hq,hL];exact⟨rfl,rfl⟩).2.2;rw[aP.BU]at h;have e:aM 0=eO:=zM (by unfold NM;omega);unfold aP.fn;rw[show aP.at ((0,some (.box 0 T))::L)=aP.at ([(0,some (SOb.box 0 T))] ++L)from rfl,<-h,<-e];rfl
def OV{L:aP}{cs:List SV}(hL:L.at 0=some (.box 0 cs)):L.fn eO=some ⟨0,0,avs cs⟩:=by have e:aM 0=eO:=zM (by unfold NM;omega);rw[<-e];show Sg.a L.at (aM 0)=_;rw[Sg.cH,hL];rfl
def Wk(F:Frm)(n:Nat):avs ((bP n).map F.at)=F.av n:=by rw[im,cv];rfl
def ZR{X:Cx}(hX:X.Ok):G4 X (HU X):=by
 intro f xs F n L N K o c ho hc hargs h;unfold HU at h;split at h
 case h_2=>exact h.elim
 rename_i fn S hok hf hL;split at h
 case h_2=>exact h.elim
 rename_i body hb;split at h
 case h_2=>exact h.elim
 rename_i hn hpe;have hn:=o5 hn;have hpe:∀v∈xs,v.ape=false:=λv hv=>by have:=gR hpe v hv;grind
 have hw:=EQ hX (L4 X) body (λ_=>true) [] _ _ _ N (λ_ _=>rfl) (Fu hpe) h;rw[Mj hn,M2 hL]at hw;have hT:avs (.undef::(S++(bP n).map F.at))= .undef::(avs S++F.av n):=by rw[YV,rZ,Wk];rfl
 rw[hT]at hw;refine Xu (fid:=f) (A:=avs xs) (S:=avs S) (f:= .func f) ho hc rfl hargs hok hf hb (by rw[OV hL];rfl) (mX body ?_ hw);rintro e FA LA N' ⟨F',L',rfl,rfl,hF',hpre,⟨pre,hpl⟩,hh⟩;have fin:(match eT (λq:Nat×Option SOb=>match bB q.1 0 with|true=>false|false=>true) (L'.take (L'.length-(L.length+1)))with
    |true=>(match oO X.P fn.ntmps F' L'.at fn.results.toList with
     |some [] =>K .undef ((0,some (.box 0 (.undef::S)))::L') N'
     |some [r] =>(match r.ape with|false=>K r ((0,some (.box 0 (.undef::S)))::L') N'|true=> .stuck 991001)
     |_=> .stuck 991002)
    |false=> .stuck 991003).holds->
   iW X.P fn.results.toList (F'.av fn.ntmps) L'.fn λl=>∃S2 F2,L'.fn eO=some ⟨0,0,.undef::(S2++F2)⟩/\S2.length=(avs S).length/\F2.length=(F.av n).length/\
    (λFA LA N'=>∃r L2,r.ok/\FA=eL (F.av n) o.dst r.av/\LA=aP.fn L2/\gL L L2/\(K r L2 N').holds) (eL F2 o.dst (rA l)) (ao L'.fn [(eO,some ⟨0,0,.undef::S2⟩)]) N':=by
  intro hh;split at hh
  case h_2=>exact hh.elim
  rename_i h0;have hat:L'.at 0=some (.box 0 (.undef::(S++(bP n).map F.at))):=by rw[hpl];have h1:=gR h0;rw[hpl,show(pre++(0,some (SOb.box 0 (.undef::(S++(bP n).map F.at))))::L).length-(L.length+1)=pre.length by simp,Cj]at h1;rw[YW λq hq e=>by have:=h1 q hq;simp_all];rfl
  have hst:L'.fn eO=some ⟨0,0,.undef::(avs S++F.av n)⟩:=by rw[OV hat,hT]
  have hL2:aP.fn ((0,some (.box 0 (.undef::S)))::L')=ao L'.fn [(eO,some ⟨0,0,.undef::avs S⟩)] :=M2 hat;have hpl2:gL L ((0,some (.box 0 (.undef::S)))::L'):=⟨(0,some (.box 0 (.undef::S)))::(pre++[(0,some (.box 0 (.undef::(S++(bP n).map F.at))))]),by grind⟩;split at hh
  .rename_i hr;exact qY hr ⟨avs S,F.av n,hst,rfl,rfl,.undef,_,trivial,rfl,hL2.symm,hpl2,hh⟩
  .rename_i r hr;split at hh
   .rename_i hrp;exact qY hr ⟨avs S,F.av n,hst,rfl,rfl,r,_,SV.mr hrp,rfl,hL2.symm,hpl2,hh⟩
   .exact hh.elim
  .exact hh.elim
 cases e<;>first|exact fin hh|exact hh.elim
def BT(X:Cx)(st:Bool)(raw:Nat->Nat->Bool)(f:Nat)(ann:List (Nat×Ann))(args:List SV)(post:Nat->List ResultVar->oL):Fm:=match jX X.P f,X.P.funcs[f]? with
 |true,some fn=>(match fn.body with
  |some c=>(match mM args.length fn.ntmps,eT (λv=>match v.ape with|true=>false|false=>true) args with
   |true,true=>(match st with
    |false=>vc X Gp fn.ntmps raw c (λ_=>true) ann (post fn.ntmps fn.results.toList) (oW args 0) [] 0
    |true=>vc X (HU X) fn.ntmps raw c (λ_=>true) ann (post fn.ntmps fn.results.toList) (oW args 0) [(0,some (.box 0 [.undef]))] 1)
   |_,_=> .stuck 950000)
  |none=> .stuck 960000)
 |_,_=> .stuck 970000
def PN(X:Cx)(raw:Nat->Nat->Bool)(f:Nat)(ann:List (Nat×Ann))(args:List SV)(post:Nat->List ResultVar->oL):Fm:=BT X false raw f ann args post
def u6(X:Cx)(raw:Nat->Nat->Bool)(f:Nat)(ann:List (Nat×Ann))(args:List SV)(r:SV):Fm:=PN X raw f ann args λn rs=>RZ X.P n rs r
def aAG:aP.fn [(0,some (.box 0 [.undef]))] =yD:=by
 have e:aM 0=eO:=zM (by unfold NM;omega)
 funext s
 unfold yD;rcases j8 s with⟨x,rfl⟩|⟨x,a,rfl⟩|hno
 .show Sg.a _ (aM x)=_;rw[Sg.cH];by_cases hx:x=0
  .subst hx;rw[if_pos e];rfl
  .rw[if_neg (λh=>hx (kn (h.trans e.symm)))];show Option.map _ (match bB x 0 with|true=>_|false=>none)=none;cases hb:bB x 0 with
   |true=>simp_all
   |false=>rfl
 .show Sg.a _ (inn x (a+1))=_;rw[Sg.fQ,if_neg (λh=>by have h:inn x (a+1)=aM 0:=h.trans e.symm;have:=(fD h).2;omega)];show Option.bind (match bB x 0 with|true=>_|false=>none) _=none;cases bB x 0<;>rfl
 .show Sg.a _ s=_;rw[Sg.jc _ hno,if_neg (λh=>hno 0 0 (h.trans e.symm))]
def EO{X:Cx}(hX:X.Ok){st:Bool}{raw:Nat->Nat->Bool}{f:Nat}{ann:List (Nat×Ann)}{args:List SV}{post:Nat->List ResultVar->oL}{A:List PV}{Q:List ResultVar->oM}(hA:avs args=A.map .p)
  (hQ:∀n rs e (F:Frm) (L:aP) N,(post n rs e F L N).holds->Q rs e (F.av n) L.fn N) (h:(BT X st raw f ann args post).holds):
  jX X.P f=true/\∃fn c L0 N0,X.P.funcs[f]? =some fn/\fn.body=some c/\sK L0 N0/\awp X.P c (Q fn.results.toList) (A.map .p++cO (fn.ntmps-A.length) .undef) L0 N0:=by
 unfold BT at h;split at h
 case h_2=>exact h.elim
 rename_i fn hok hf;split at h
 case h_2=>exact h.elim
 rename_i c hb;split at h
 case h_2=>exact h.elim
 rename_i hn hpe;have hn:=o5 hn;have hpe:∀v∈args,v.ape=false:=λv hv=>by have:=gR hpe v hv;grind
 have hal:(A.map AV.p).length=A.length:=by grind
 have hAF:A.map .p++cO (fn.ntmps-A.length) .undef=(oW args 0).av fn.ntmps:=by rw[Mj hn,hA,hal]
 split at h
 .refine⟨hok,fn,c,aP.fn [],0,hf,hb,.inl ⟨aAH,rfl⟩,?_⟩;rw[hAF];refine mX c ?_ (EQ hX (L4 X) c (λ_=>true) ann _ _ [] 0 (λ_ _=>rfl) (Fu hpe) h);rintro e FA LA N' ⟨F',L',rfl,rfl,_,_,_,hh⟩;grind
 .refine⟨hok,fn,c,aP.fn [(0,some (.box 0 [.undef]))],1,hf,hb,.inr ⟨aAG,rfl⟩,?_⟩;rw[hAF];refine mX c ?_ (EQ hX (ZR hX) c (λ_=>true) ann _ _ _ 1 (λ_ _=>rfl) (Fu hpe) h);rintro e FA LA N' ⟨F',L',rfl,rfl,_,_,_,hh⟩;grind
def Wq{X:Cx}(hX:X.Ok){raw:Nat->Nat->Bool}{f:Nat}{ann:List (Nat×Ann)}{args:List SV}{r:SV}{A:List PV}{q:PV}(hA:avs args=A.map .p)(hq:r.av= .p q)(h:(u6 X raw f ann args r).holds):Sat X.P false f A q:=by obtain⟨hok,fn,c,L0,N0,hf,hb,h0,hw⟩:=EO hX (st:=false) (Q:=λrs=>HI X.P rs q) hA (λn rs e F L N hh=>Yy hq hh) h;exact UR hok hf hb h0 hw
def CH(P:Program)(n:Nat)(rs:List ResultVar)(ty:Nat)(t:LT)(l:List t.ty)(ys:List SV)(F:Frm)(L:aP):Fm:=match oO P n F L.at rs with
 |some (v::r)=>(match oU (eqv 3) ys r with
  |some (qs,[])=>(match v with
   | .nil=>qt ((l=[])::qs) .tt
   | .own s _ k=>(match L.at s with
     |some (.row ty' t' l')=>(match bB ty' ty,decEq t' t with
      |true,.isTrue h=>qt ([(h▸l':List t.ty)=l,k=l'.length] ++qs) .tt
      |_,_=> .stuck 980001)
     |_=> .stuck 980002)
   |_=> .stuck 980003)
  |_=> .stuck 980004)
 |_=> .stuck 980005
def Pb(P:Program)(ty:Nat)(t:LT)(l:List t.ty)(ys:List SV)(n:Nat)(rs:List ResultVar):oL:=λe F L _=>match e with
 | .normal=>CH P n rs ty t l ys F L
 | .ret=>CH P n rs ty t l ys F L
 |_=> .stuck 910000
def Lk{m:Rf}:∀{q:List PV} {r:List AV},eo m (q.map .p) r->r=q.map .p
 |[],r,h=>by exact h
 |x::q,r,h=>by
  obtain⟨y,r',rfl,h1,h2⟩:=h;rw[h1,Lk h2];rfl
def XS{P:Program}{n:Nat}{rs:List ResultVar}{ty:Nat}{t:LT}{l:List t.ty}{ys:List SV}{Y:List PV}(hY:avs ys=Y.map .p){e:Exit}{F:Frm}{L:aP}{N:Nat}(h:(Pb P ty t l ys n rs e F L N).holds):HJ P rs ty t.w (t.enc l) l.length Y e (F.av n) L.fn N:=by
 have key:(CH P n rs ty t l ys F L).holds->iW P rs (F.av n) L.fn λlA=>(∃s,lA= .own s 0 l.length::Y.map .p/\L.fn s=some ⟨ty,t.w,(t.enc l).map .p⟩)\/(lA= .nil::Y.map .p/\l.length=0/\t.enc l=[]):=by
  intro h;unfold CH at h;split at h
  case h_2=>exact h.elim
  rename_i v r hl;split at h
  case h_2=>exact h.elim
  rename_i qs he;have e2:Sg.a L.at=L.fn:=rfl;have hr:(∀p∈qs,p)->avs r=Y.map .p:=λhp=>by have:=qV (m:=λ_=>none) (uL 3) he hp (λq hq=>by cases hq);rw[hY]at this;exact Lk this
  rw[<-e2];refine qY hl ?_;split at h
  .have hp:=(rQ h).1;have hl0:l=[] :=hp _ (by grind);subst hl0;refine .inr ⟨?_,rfl,rfl⟩;show AV.nil::avs r=_;grind
  .rename_i s t2 k;split at h
   case h_2=>exact h.elim
   rename_i ty' t' l' hs;split at h
   case h_2=>exact h.elim
   rename_i h2 hty _;subst h2;have hp:=(rQ h).1;have h3:l'=l:=hp _ (by grind);have h4:k=l'.length:=hp _ (by grind);subst h3;refine .inl ⟨aM s,?_,?_⟩
   .show AV.own (aM s) 0 k::avs r=_;grind
   .rw[Sg.cH,hs,<-dM hty];rfl
  .exact h.elim
 cases e<;>first|exact h.elim|exact key h
def Hi{α:Type}(A:Arl α)(pre:α->List Prop)(ty:Nat)(t:LT)(l:α->List t.ty)(ys:α->List SV):Con:=⟨α,A.dec,pre,.own ty t l ys⟩
def OF{X:Cx}(hX:X.Ok){raw:Nat->Nat->Bool}{f:Nat}{α:Type}{A:Arl α}{pre:α->List Prop}{ty:Nat}{t:LT}{l:α->List t.ty}{ys:α->List SV}(ann:α->List (Nat×Ann))(hr:∀x,∃q:List PV,avs (ys x)=q.map .p)
  (h:∀x,oZ (pre x)->(PN X raw f (ann x) (A.enc x) (Pb X.P ty t (l x) (ys x))).holds):(Hi A pre ty t l ys).Ok X.P f:=by
 intro s x hd hp;obtain⟨B,hB⟩:=A.pl x;obtain⟨q,hq⟩:=hr x;obtain⟨hok,fn,c,L0,N0,hf,hb,h0,hw⟩:=EO hX (st:=false) (Q:=λrs=>HJ X.P rs ty t.w (t.enc (l x)) (l x).length q) hB (λn rs e F L N hh=>XS hq hh) (h x (jK.2 hp));exact⟨B,q,by rw[A.ok s x hd,hB],hq,Tc hok (nL t.kF) hf hb h0 hw⟩
def uc{X:Cx}(hX:X.Ok){raw:Nat->Nat->Bool}{f:Nat}{α:Type}{A:Arl α}{pre:α->List Prop}{res:α->SV}(ann:α->List (Nat×Ann))(hr:∀x,∃q,(res x).av= .p q)(h:∀x,oZ (pre x)->(u6 X raw f (ann x) (A.enc x) (res x)).holds):(con A pre res).Ok X.P f:=by intro s x hd hp;obtain⟨B,hB⟩:=A.pl x;obtain⟨q,hq⟩:=hr x;exact⟨B,q,by rw[A.ok s x hd,hB],hq,Wq hX hB hq (h x (jK.2 hp))⟩
def xg(r:Rm):List Nat:=match r with
 |[] =>[]
 |(k,none)::r=>k::xg r
 |(_,some _)::r=>xg r
def Gm(ns:List Nat)(r:Rm):Bool:=eT (λq:Nat×Option Nat=>match q.2 with
 |some k=>(match bB q.1 k,mem ns q.1 with|true,false=>true|_,_=>false)
 |none=>mem ns q.1) r
open Classical in
def idm(ns:List Nat):Rf:=λs=>if∃k∈ns,s=aM k then some none else some (some s)
def Pq{ns:List Nat}{k:Nat}(h:mem ns k=false):idm ns (aM k)=some (some (aM k)):=by unfold idm;rw[if_neg];rintro⟨x,hx,e⟩;rw[kn e,(mem_iff x ns).2 hx]at h;cases h
def O4(ns:List Nat)(x a:Nat):idm ns (inn x (a+1))=some (some (inn x (a+1))):=by unfold idm;rw[if_neg];rintro⟨y,hy,e⟩;have:=(fD e).2;omega
def Ld{ns:List Nat}{r:Rm}(h:Gm ns r=true):jq (idm ns) r:=by
 intro q hq;have h:=gR h q hq;obtain⟨s,o⟩:=q;cases o with
 |none=>
  exact if_pos ⟨s,(mem_iff s ns).1 h,rfl⟩
 |some k=>
  dsimp only at h;split at h
  .rename_i e1 e2;rw[<-dM e1];exact Pq e2
  .cases h
def xp(ns:List Nat)(σ:Sg):aP->Option (List Prop)
 |[] =>some []
 |(_,none)::_=>none
 |(k,some ob)::l=>match xp ns σ l with
  |none=>none
  |some ps=>(match mem ns k with
   |true=>(match ob with| .row _ _ c=>some ((c=[])::ps)|_=>none)
   |false=>(match σ k with
    |none=>none
    |some ob'=>(match uq ob ob' with
     |some (p,r)=>(match Gm ns r with|true=>some (p++ps)|false=>none)
     |none=>(match x7 [] k k ob ob' with
      |some p=>some (p++ps)
      |none=>none))))
def Kp{ns:List Nat}{σ:Sg}:∀{l:aP} {ps:List Prop},xp ns σ l=some ps->(∀p∈ps,p)->∀k o,(k,o)∈l->∃ob,o=some ob/\
  ((mem ns k=true/\∃ty t,ob= .row ty t [])\/(mem ns k=false/\∃ob',σ k=some ob'/\pi (idm ns) (ob.ob k) (ob'.ob k)/\(ob.flat=true\/ob=ob')))
 |[],_,_,_,_,_,hk=>by cases hk
 |(_,none)::_,_,h,_,_,_,_=>by cases h
 |(k,some ob)::l,ps,h,hp,k1,o1,hk=>by
  unfold xp at h;split at h
  .cases h
  rename_i qs hqs;have ih:=Kp hqs;split at h
  .split at h<;>cases h;rename_i ty t c;rcases bO.1 hk with e|hk
   .have:c=[] :=hp _ (by grind);grind
   grind
  .rename_i hm;split at h
   .cases h
   rename_i ob' hob';split at h
   .rename_i p r he;split at h<;>cases h;rename_i hs;rcases bO.1 hk with e|hk
    .cases e;exact⟨_,rfl,.inr ⟨hm,ob',hob',Ko he (λq hq=>hp q (by grind)) (Ld hs) _ _,.inl (Ju he)⟩⟩
    .exact ih (λp hpp=>hp p (by grind)) k1 o1 hk
   .split at h<;>cases h;rename_i p hf;rcases bO.1 hk with e|hk
    .cases e;obtain⟨_,_,e3,_⟩:=MP hf λq hq=>hp q (by grind);subst e3;refine⟨_,rfl,.inr ⟨hm,_,hob',?_,.inr rfl⟩⟩;unfold x7 at hf;split at hf
     .refine⟨rfl,rfl,ti _ _ _ λi _=> ?_⟩;exact .inl ⟨_,O4 ns k (i+1-1),rfl⟩
     .cases hf
    .exact ih (λp hpp=>hp p (by grind)) k1 o1 hk
def Uu{ns:List Nat}{L:aP}{l:aP}{ps:List Prop}(h:xp ns L.at l=some ps)(hp:∀p∈ps,p):yC (idm ns) (Sg.a (aP.at l)) L.fn:=by
 have key:=Kp h hp;constructor
 .intro s s' o h1 h2;unfold idm at h1 h2;split at h1<;>cases h1;split at h2<;>cases h2;rfl
 .intro s ob' hs;rcases j8 s with⟨x,rfl⟩|⟨x,a,rfl⟩|hno
  .rw[Sg.cH]at hs;cases hx:aP.at l x with
   |none=>grind
   |some ob=>
    rw[hx]at hs;cases hs;obtain⟨ob1,e,h1⟩:=key x (some ob) (aP.uw hx);cases e;rcases h1 with⟨hm,ty,t,rfl⟩|⟨hm,ob2,h2,h3,_⟩
    .rw[show idm ns (aM x)=some none from if_pos ⟨x,(mem_iff x ns).1 hm,rfl⟩];exact⟨nL t.kF,by rfl⟩
    .rw[Pq hm];exact⟨_,by show Sg.a L.at (aM x)=_;rw[Sg.cH,h2];rfl,h3⟩
  .rw[Sg.fQ]at hs;cases hx:aP.at l x with
   |none=>grind
   |some ob=>
    rw[hx]at hs;obtain⟨ob1,e,h1⟩:=key x (some ob) (aP.uw hx);cases e;have hs:ob.inner a=some ob':=hs;rw[O4];rcases h1 with⟨hm,ty,t,rfl⟩|⟨hm,ob2,h2,h3,h4⟩
    .cases hs
    .rcases h4 with h4|h4
     .rw[SOb.zP h4]at hs;cases hs
     .subst h4;refine⟨ob',by show Sg.a L.at (inn x (a+1))=_;rw[Sg.fQ,h2];exact hs,rfl,rfl,?_⟩;cases ob with
      |fam ty ity t M ov=>
       have hs:(match ov.lookup a with|some _=>none|none=>(M[a]?).map λl=>(⟨ity,t.w,(t.enc l).map .p⟩:Ob))=some ob':=hs;cases ho:ov.lookup a with
       |some v=>grind
       |none=>
        rw[ho]at hs;cases hm:M[a]? with
        |none=>grind
        |some c=>rw[hm]at hs;cases hs;exact jk _ _
      |_=>cases hs
  .rw[Sg.jc _ hno]at hs;cases hs
def Ra(l:List SV):Bool:=match l with
 |[_] =>true
 |[] =>false
 |l=>(match bG (avs l)with|none=>true|some _=>false)
def CE(P:Program)(n:Nat)(rs:List ResultVar)(r:SV)(obs:aP)(F:Frm)(L:aP):Fm:=match oO P n F L.at rs with
 |some l=>(match Ra l,eqv 3 r (sZ l)with
  |true,some (ps,m)=>(match Gm (xg m) m,xp (xg m) L.at obs with
   |true,some qs=>qt (ps++qs) .tt
   |_,_=> .stuck 990001)
  |_,_=> .stuck 990002)
 |none=> .stuck 990003
def RY(P:Program)(r:SV)(obs:aP)(n:Nat)(rs:List ResultVar):oL:=λe F L _=>match e with
 | .normal=>CE P n rs r obs F L
 | .ret=>CE P n rs r obs F L
 |_=> .stuck 910000
def Y9{l:List SV}(h:Ra l=true):rA (avs l)=(sZ l).av:=by
 match l,h with
 |[x],_=>rfl
 |x::y::r,h=>
  show AV.tup (avs (x::y::r))=jr (avs (x::y::r));have h:(match bG (avs (x::y::r))with|none=>true|some _=>false)=true:=h;unfold jr;grind
def Yx{P:Program}{n:Nat}{rs:List ResultVar}{r:SV}{obs:aP}{e:Exit}{F:Frm}{L:aP}{N:Nat}(h:(RY P r obs n rs e F L N).holds):HH P rs r.av (Sg.a (aP.at obs)) e (F.av n) L.fn N:=by
 have key:(CE P n rs r obs F L).holds->iW P rs (F.av n) L.fn λl=>∃m:Rf,yC m (Sg.a (aP.at obs)) L.fn/\cN m r.av (rA l):=by
  intro h;unfold CE at h;split at h
  case h_2=>exact h.elim
  rename_i l hl;split at h
  case h_2=>exact h.elim
  rename_i ps m h1 he;split at h
  case h_2=>exact h.elim
  rename_i qs hs hq;have hp:=(rQ h).1;rw[show L.fn=Sg.a L.at from rfl];refine qY hl ⟨idm (xg m),Uu hq λp hpp=>hp p (by grind),?_⟩;rw[Y9 h1];exact uL 3 r (sZ l) ps m he (λp hpp=>hp p (by grind)) (Ld hs)
 cases e<;>first|exact h.elim|exact key h
def Hh{α:Type}(A:Arl α)(pre:α->List Prop)(res:α->SV)(obs:α->aP):Con:=⟨α,A.dec,pre,.tree res obs⟩
def OE{X:Cx}(hX:X.Ok){st:Bool}{raw:Nat->Nat->Bool}{f:Nat}{α:Type}{A:Arl α}{pre:α->List Prop}{res:α->SV}{obs:α->aP}(ann:α->List (Nat×Ann))
  (h:∀x,oZ (pre x)->(BT X st raw f (ann x) (A.enc x) (RY X.P (res x) (obs x))).holds):(Hh A pre res obs).Ok X.P f:=by
 intro s x hd hp;obtain⟨B,hB⟩:=A.pl x;obtain⟨hok,fn,c,L0,N0,hf,hb,h0,hw⟩:=EO hX (Q:=λrs=>HH X.P rs (res x).av (Sg.a (aP.at (obs x)))) hB (λn rs e F L N hh=>Yx hh) (h x (jK.2 hp));exact⟨B,by rw[A.ok s x hd,hB],Tb hok hf hb h0 hw⟩
def aBo{p q:Prop}(h:p=q)(hq:q):p:=h▸hq
def Bv:List (Nat×Con)->Tab->Tab
 |[],T,f=>T f
 |(k,c)::l,T,f=>match bB f k with|true=>some c|false=>Bv l T f
def P7(P:Program):List (Nat×Con)->Prop
 |[] =>True
 |q::l=>q.2.Ok P q.1/\P7 P l
def Mx{P:Program}{T:Tab}(hT:T.Ok P):∀{l:List (Nat×Con)},P7 P l->(Bv l T).Ok P
 |[],_=>hT
 |(k,c)::l,h=>by
  intro f d hd;unfold Bv at hd;split at hd
  .rename_i e;cases hd;rw[dM e];exact h.1
  .exact Mx hT h.2 f d hd
def QA:Tab:=λ_=>none
def Ye{P:Program}:QA.Ok P:=λ_ _ h=>by cases h
end
end
noncomputable section
def aBf(N:Nat)(a b c d:Int)(w:World):fm bD (ss (N+1+1) 44 (.agg #[.int .i64 a,.int .i64 b]) (.agg #[.int .i64 c,.int .i64 d])) w= .ok (a==c&&b==d) w:=by
 have u3:=o4;have a3:=tF;have z3:=vh;have hS:bD.underlying 44=some (.struct (bD.fieldsOf 44)):=by kernel_rfl
 have hp:bD.stoodInHeld 44=false:=by kernel_rfl
 rw[run_equalIn_agg w (N+1) 44 _ _ hS hp];simp only[Program.fieldsOf,Tryz.underlying44]
 go_simp
 grind
def aBg(a b c d a' b' c' d':Int)(w:World)(N:Nat):fm bD (ss (N+1+1+1) 46 (.agg #[.int .i64 a,.int .i64 b,.int .i64 c,.int .i64 d]) (.agg #[.int .i64 a',.int .i64 b',.int .i64 c',.int .i64 d'])) w= .ok ((a==a'&&b==b')&&(c==c'&&d==d')) w:=by
 have hS6:bD.underlying 46=some (.struct (bD.fieldsOf 46)):=by kernel_rfl
 have hp6:bD.stoodInHeld 46=false:=by kernel_rfl
 rw[run_equalIn_agg w (N+1+1) 46 _ _ hS6 hp6];unfold Program.fieldsOf;rw[Tryz.underlying46];dsimp only;have a44:=Tryz.isAgg44;have z44:=Tryz.sizeOf44;have p1:∀a b c d:Int,(part 44 #[cV .i64 a,cV .i64 b,cV .i64 c,cV .i64 d] 0).run bD w= .ok (.agg #[.int .i64 a,.int .i64 b]) w:=by intro a b c d;simp[part,a44,z44]
 have p2:∀a b c d:Int,(part 44 #[cV .i64 a,cV .i64 b,cV .i64 c,cV .i64 d] 2).run bD w= .ok (.agg #[.int .i64 c,.int .i64 d]) w:=by intro a b c d;simp[part,a44,z44]
 have hE:=aBf N;generalize N+1+1=M at hE|-;unfold Op.eqFields;unfold Op.eqFields;unfold Op.eqFields;rw[if_pos (by decide)];simp only[cn,p1,cp,hE];cases h1:(a==a')<;>cases h2:(b==b')<;>simp[hE,p2,cn,cp];grind
def YD:xv bD 46 4:=by
 intro xs ys x y w hx hy;match xs,ys,hx,hy with
 |[a,b,c,d],[a',b',c',d'],_,_=>
  have h1:=aBg a b c d a' b' c' d' w 9997;rw[show 9997+1+1+1=10000 from rfl]at h1;have e:(([a,b,c,d] :List Int)==[a',b',c',d'])=((a==a'&&b==b')&&(c==c'&&d==d')):=by rw[eY];simp[and_assoc]
  refine⟨?_,?_⟩
  .simp only[cT,j6];rw[e];simp only[eqGuard,cn];simp[Result.andThen];rw[run_eql_struct,h1];simp_all
  .simp only[cT,j6];unfold bne;rw[e];simp[eqGuard];rw[run_neq_struct,h1];simp_all
noncomputable def ltL:List (Nat×LT)->Nat->Option LT
 |[],_=>none
 |(k,x)::l,t=>match bB t k with|true=>some x|false=>ltL l t
def u67:bD.underlying 67=some (.array 2 3):=by kernel_rfl
def aBt:bD.underlying 115=some (.map 67 4):=by kernel_rfl
def ui(w:World)(xs:Array Value)(i:Nat)(a:Value)(h:xs[i]? =some a):(part 3 xs i).run bD w= .ok a w:=by have a3:=tF;simp[part,a3,h]
def aAx:MKey bD 67 2:=by
 have u3:=o4;have hu3:bD.underlying 3=some (.int .i64):=by kernel_rfl
 obtain⟨i3,hi3⟩:=info_of_underlying hu3;have c3:bD.cellsOf 3=1:=by kernel_rfl
 have two:∀{xs:List Int},xs.length=2->∃a b,xs=[a,b] :=λ{xs} h=>by
  match xs,h with
  |[a,b],_=>grind
 refine⟨?_,?_,⟨_,u67,λa b=>rfl⟩⟩
 .intro w em xs hx;obtain⟨a,b,rfl⟩:=two hx;show(ye em (9999+1) 67 (.agg #[.int .i64 a,.int .i64 b])).run _ w=_;have p0:=ui w #[cV .i64 a,.int .i64 b] 0 (.int .i64 a) rfl;have p1:=ui w #[cV .i64 a,.int .i64 b] 1 (.int .i64 b) rfl;have ck:∀a:Int,(ye em 9999 3 (.int .i64 a)).run bD w= .ok () w:=by intro a;show(ye em (9998+1) 3 (.int .i64 a)).run _ w=_;generalize 9998=N;simp only[ye,cn,run_underlying hu3,cp,dZ]
  generalize 9999=N at ck|-;rw[ye];simp only[cn,run_underlying u67,cp];simp only[Std.Legacy.Range.forIn_eq_forIn_range',Std.Legacy.Range.size,Nat.sub_zero,Nat.add_one_sub_one,Nat.div_one];simp only[show List.range' 0 2=[0,1]from rfl,List.forIn_cons,List.forIn_nil,cn,run_sizeOf w hi3,cp,c3,p0,p1,ck,dZ,Nat.zero_mul,Nat.one_mul]
 .intro w xs ys hx hy;obtain⟨a,b,rfl⟩:=two hx;obtain⟨c,d,rfl⟩:=two hy;have p0:=ui w #[cV .i64 a,.int .i64 b] 0 (.int .i64 a) rfl;have p1:=ui w #[cV .i64 a,.int .i64 b] 1 (.int .i64 b) rfl;have q0:=ui w #[cV .i64 c,.int .i64 d] 0 (.int .i64 c) rfl;have q1:=ui w #[cV .i64 c,.int .i64 d] 1 (.int .i64 d) rfl;have e1:∀a b:Int,(ss 9999 3 (.int .i64 a) (.int .i64 b)).run bD w= .ok (a==b) w:=λa b=>run_equalIn_int w 9998 3 _ _ a b hu3;show(ss (9999+1) 67 (.agg #[.int .i64 a,.int .i64 b]) (.agg #[.int .i64 c,.int .i64 d])).run _ w=_;rw[run_equalIn_array w 9999 _ _ u67 hi3,c3,show bP 2=[0,1]from rfl];simp only[Op.eqItems,cn,Nat.zero_mul,Nat.one_mul,p0,q0,e1,cp];have hab:∀a b:Int,a≠b->(a==b)=false:=λa b h=>beq_eq_false_iff_ne.2 h;by_cases h1:a=c
  .subst h1;simp only[beq_self_eq_true,yO,qB,if_false,cn];rw[p1,cp,q1,cp,e1,cp];by_cases h2:b=d
   .simp_all
   simp_all
  simp_all
def ZN:R4 bD 115:=⟨67,4,aBt,aAx,λw=>by kernel_rfl⟩
noncomputable def cx(T:Tab):Cx:=⟨bD,T,ltL [(44,.V),(46,.S),(23,.R),(67,.P),(3,.I),(2,.I),(1,.I),(4,.B)],[(44,2),(46,4)],λt=>bB t 115,λf=>match bB f 202 with|true=>true|false=>bB f 173⟩
def oK{T:Tab}(h:T.Ok bD):(cx T).Ok:=⟨h,λt m hm=>by
 have hm:(t,m)∈[(44,2),(46,4)] :=hm;rcases bO.1 hm with h|h
 .cases h;exact YE
 .rw[bh]at h;cases h;exact YD,λt ht=>by rw[show t=115 from dM ht];exact ZN⟩
noncomputable def ms(F:Frm)(d:Nat):Option Nat:=match F.at d with
 | .int _ v=>some v.toNat
 |_=>none
noncomputable def Pp(F:Frm)(d:Nat):Option Int:=match F.at d with
 | .int _ v=>some v
 |_=>none
noncomputable def Rn(F:Frm)(d e:Nat):Option (Int×Int):=match Pp F d,Pp F e with
 |some x,some y=>some (x,y)
 |_,_=>none
noncomputable def lp(key d n:Nat)(I:Nat->List Prop)(rk:List Nat)(upd:Nat->Frm)(obs:Nat->List (Nat×SOb))(inner:Nat->List (Nat×Ann):=λ_=>[]):Nat×Ann:=
 (key,.mk Nat (λF _=>ms F d) rk (λk=>(k<=n)::I k) (λk=>(d,.int .i64 (k:Int))::upd k) obs (λk=>n-k) inner)
noncomputable def cnt(key d n:Nat)(I:Nat->Prop)(inner:Nat->List (Nat×Ann):=λ_=>[]):Nat×Ann:=lp key d n (λk=>[I k]) [] (λ_=>[]) (λ_=>[]) inner
noncomputable def jb(key d:Nat)(b:Bool):Nat×Ann:=(key+10000,.mk Unit (λ_ _=>some ()) [] (λ_=>[]) (λ_=>[(d,.bool b)]) (λ_=>[]) (λ_=>0) (λ_=>[]))
noncomputable def jP(key:Nat)(I:List Prop):Nat×Ann:=(key+10000,.mk Unit (λ_ _=>some ()) [] (λ_=>I) (λ_=>[]) (λ_=>[]) (λ_=>0) (λ_=>[]))
noncomputable def jU(key:Nat)(u:Frm):Nat×Ann:=(key+10000,.mk Unit (λ_ _=>some ()) [] (λ_=>[]) (λ_=>u) (λ_=>[]) (λ_=>0) (λ_=>[]))
noncomputable def jN(key d:Nat)(I:Nat->List Prop)(inner:Nat->List (Nat×Ann):=λ_=>[]):Nat×Ann:=(key+10000,.mk Nat (λF _=>ms F d) [] I (λk=>[(d,.int .i64 (k:Int))]) (λ_=>[]) (λ_=>0) inner)
noncomputable def lU(key k:Nat):Nat×Ann:=(key+30000+k,.mk Unit (λ_ _=>none) [] (λ_=>[]) (λ_=>[]) (λ_=>[]) (λ_=>0) (λ_=>[]))
noncomputable def aO(q:Nat->Prop)(k:Nat):Prop:=∀j,j<k->q j
def nb{b:Bool}(h:(!b)=false):b=true:=by grind
def nb'{b:Bool}(h:(!b)=true):b=false:=by grind
theorem ii(q:Nat->Prop):aO q 0:=λj h=>absurd h (Nat.not_lt_zero j)
theorem cP{q:Nat->Prop}{k:Nat}(h:aO q k)(hk:q k):aO q (k+1):=λj hj=>by
 rcases nF j k with h1|h1
 .exact h j h1
 grind
def aEm(a b:V):a=b↔a.x=b.x/\a.y=b.y:=by cases a;cases b;grind
end
attribute [grind =] aH ix
attribute [grind ←] ii cP
structure TTab where
 t:Tab
 o:t.Ok bD
noncomputable def TTab.adk(T:TTab){f:Nat}{c:Con}(k:c.Ok bD f):TTab:=⟨Bv [(f,c)] T.t,Mx T.o ⟨k,trivial⟩⟩
def bH(T:TTab){f:Nat}{α:Type}{A:Arl α}{pre:α->List Prop}{res:α->SV}(ann:α->List (Nat×Ann))(hr:∀x,∃q,(res x).av= .p q)(h:∀x,oZ (pre x)->(u6 (cx T.t) uj f (ann x) (A.enc x) (res x)).holds):(con A pre res).Ok bD f:=uc (oK T.o) ann hr h
abbrev Con.Okz(c:Con)(f:Nat):Prop:=c.Ok bD f
abbrev SV.iqz(n:Int):SV:= .int .i64 n
abbrev bg{α:Type _}{β:Type _}:α->List β:=λ_=>[]
def bC{p:Prop}(q:Prop)(h:p=q)(hq:q):p:=aBo h hq
noncomputable def BZ:TTab:=⟨QA,Ye⟩
end Go.Proofs.YtdaeofhdgabhjaaGreat
namespace Go.Proofs
open Go.Shelf
def Tryz.sort221_ren:Go.Shelf.Ren:=⟨λ|6=>221|15=>143|14=>229|28=>195|29=>196|20=>230|21=>231|22=>232|23=>233|24=>234|25=>235|26=>236|27=>237|46=>238|47=>211|48=>212|49=>239|50=>240|57=>241|n=>n,λ|22=>112|24=>3|25=>131|3=>3|39=>134|0=>0|53=>170|55=>172|4=>4|46=>163|45=>162|50=>167|5=>5|9=>9|66=>180|70=>184|76=>193|77=>60|n=>n,λ|n=>n⟩
def Tryz.sort221:Go.Proofs.SlLaysF.n6 bD Tryz.sort221_ren:={
 mixed:=by kernel_rfl
 f6:=⟨Tryz.f221.name,by decide,Tryz.func221.trans (congrArg some (by kernel_rfl))⟩
 f14:=⟨Tryz.f229.name,by decide,Tryz.func229.trans (congrArg some (by kernel_rfl))⟩
 f15:=Tryz.func143.trans (congrArg some (by kernel_rfl))
 f20:=⟨Tryz.f230.name,by decide,Tryz.func230.trans (congrArg some (by kernel_rfl))⟩
 f21:=⟨Tryz.f231.name,by decide,Tryz.func231.trans (congrArg some (by kernel_rfl))⟩
 f22:=⟨Tryz.f232.name,by decide,Tryz.func232.trans (congrArg some (by kernel_rfl))⟩
 f23:=⟨Tryz.f233.name,by decide,Tryz.func233.trans (congrArg some (by kernel_rfl))⟩
 f24:=⟨Tryz.f234.name,by decide,Tryz.func234.trans (congrArg some (by kernel_rfl))⟩
 f25:=⟨Tryz.f235.name,by decide,Tryz.func235.trans (congrArg some (by kernel_rfl))⟩
 f26:=⟨Tryz.f236.name,by decide,Tryz.func236.trans (congrArg some (by kernel_rfl))⟩
 f27:=⟨Tryz.f237.name,by decide,Tryz.func237.trans (congrArg some (by kernel_rfl))⟩
 f28:=Tryz.func195.trans (congrArg some (by kernel_rfl))
 f29:=Tryz.func196.trans (congrArg some (by kernel_rfl))
 f46:=⟨Tryz.f238.name,by decide,Tryz.func238.trans (congrArg some (by kernel_rfl))⟩
 f47:=Tryz.func211.trans (congrArg some (by kernel_rfl))
 f48:=Tryz.func212.trans (congrArg some (by kernel_rfl))
 f49:=⟨Tryz.f239.name,by decide,Tryz.func239.trans (congrArg some (by kernel_rfl))⟩
 f50:=⟨Tryz.f240.name,by decide,Tryz.func240.trans (congrArg some (by kernel_rfl))⟩
 f57:=⟨Tryz.f241.name,by decide,Tryz.func241.trans (congrArg some (by kernel_rfl))⟩
 t0:=Tryz.underlying0
 a0:=Tryz.isAgg0
 z0:=Tryz.sizeOf0
 v0:=Tryz.zeroValue0
 t3:=o4
 a3:=tF
 z3:=vh
 v3:=Tryz.zeroValue3
 t4:=IJ
 a4:=Tryz.isAgg4
 z4:=Tryz.sizeOf4
 v4:=Tryz.zeroValue4
 t5:=Tryz.underlying5
 a5:=Tryz.isAgg5
 z5:=Tryz.sizeOf5
 v5:=Tryz.zeroValue5
 t9:=Tryz.underlying9
 a9:=Tryz.isAgg9
 z9:=Tryz.sizeOf9
 v9:=Tryz.zeroValue9
 t22:=Tryz.underlying112
 a22:=Tryz.isAgg112
 z22:=Tryz.sizeOf112
 v22:=Tryz.zeroValue112
 a24:=tF
 z24:=vh
 t25:=Tryz.underlying131
 a25:=Tryz.isAgg131
 z25:=Tryz.sizeOf131
 v25:=Tryz.zeroValue131
 t39:=Tryz.underlying134
 a39:=Tryz.isAgg134
 z39:=Tryz.sizeOf134
 v39:=Tryz.zeroValue134
 t45:=Tryz.underlying162
 a45:=Tryz.isAgg162
 z45:=Tryz.sizeOf162
 v45:=Tryz.zeroValue162
 t46:=Tryz.underlying163
 a46:=Tryz.isAgg163
 z46:=Tryz.sizeOf163
 v46:=Tryz.zeroValue163
 t50:=Tryz.underlying167
 a50:=Tryz.isAgg167
 z50:=Tryz.sizeOf167
 v50:=Tryz.zeroValue167
 t53:=Tryz.underlying170
 a53:=Tryz.isAgg170
 z53:=Tryz.sizeOf170
 v53:=Tryz.zeroValue170
 t55:=Tryz.underlying172
 a55:=Tryz.isAgg172
 z55:=Tryz.sizeOf172
 v55:=Tryz.zeroValue172
 t66:=Tryz.underlying180
 a66:=Tryz.isAgg180
 z66:=Tryz.sizeOf180
 v66:=Tryz.zeroValue180
 t70:=Tryz.underlying184
 a70:=Tryz.isAgg184
 z70:=Tryz.sizeOf184
 v70:=Tryz.zeroValue184
 t76:=Tryz.underlying193
 a76:=Tryz.isAgg193
 z76:=Tryz.sizeOf193
 v76:=Tryz.zeroValue193
 t77:=Tryz.underlying60
 a77:=Tryz.isAgg60
 z77:=Tryz.sizeOf60
 v77:=Tryz.zeroValue60}
def Tryz.del203_ren:Go.Shelf.Ren:=⟨λ|10=>203|6=>224|n=>n,λ|22=>112|23=>3|25=>159|3=>3|4=>4|0=>0|n=>n,λ|n=>n⟩
def Tryz.del203:Go.Proofs.SlLaysH.n10 bD Tryz.del203_ren:={
 mixed:=by kernel_rfl
 f6:=⟨Tryz.f224.name,by decide,Tryz.func224.trans (congrArg some (by kernel_rfl))⟩
 f10:=⟨Tryz.f203.name,by decide,Tryz.func203.trans (congrArg some (by kernel_rfl))⟩
 t0:=Tryz.underlying0
 a0:=Tryz.isAgg0
 z0:=Tryz.sizeOf0
 v0:=Tryz.zeroValue0
 t3:=o4
 a3:=tF
 z3:=vh
 v3:=Tryz.zeroValue3
 t4:=IJ
 a4:=Tryz.isAgg4
 z4:=Tryz.sizeOf4
 v4:=Tryz.zeroValue4
 t22:=Tryz.underlying112
 a22:=Tryz.isAgg112
 z22:=Tryz.sizeOf112
 v22:=Tryz.zeroValue112
 a23:=tF
 z23:=vh
 t25:=Tryz.underlying159
 a25:=Tryz.isAgg159
 z25:=Tryz.sizeOf159
 v25:=Tryz.zeroValue159}
end Go.Proofs
namespace Go.Proofs.YtdaeofhdgabhjaaGreat
section
open Go.RowKit Go.Sort Go.Shelf Go.Lib
def X7(q x:Int)(B o:Nat)(W:World)(hc:W.cell? ⟨B,o,none⟩=some (.int .i64 q)):FnGives bD 204 #[.pointer (some ⟨B,o,none⟩)] #[.int .i64 x] (.bool (x==q)) W:=by
 show Calls bD 204 #[.int .i64 x,.pointer (some ⟨B,o,none⟩)] W _
 go_enter Tryz.func204,Tryz.ntmps204
 go_wp2
 all_goals (go_ret;exact⟨by simp_all,0,rfl⟩)
def X6(q x:Int)(B o:Nat)(W:World)(hc:W.cell? ⟨B,o,none⟩=some (.int .i64 q)):FnGives bD 205 #[.pointer (some ⟨B,o,none⟩)] #[.int .i64 x] (.bool (x==q)) W:=by
 show Calls bD 205 #[.int .i64 x,.pointer (some ⟨B,o,none⟩)] W _
 go_enter Tryz.func205,Tryz.ntmps205
 go_wp2
 all_goals (go_ret;exact⟨by simp_all,0,rfl⟩)
def Tf{enc:Int->Value}{d:Array Int}{cur:Array Value}{i:Nat}(h:i<d.size)(hc:i<cur.size):(putCells enc 0 d cur)[i]? =some (enc d[i]!):=by unfold putCells;simp[h,hc]
def S3{enc:Int->Value}{d:Array Int}{cur:Array Value}:(putCells enc 0 d cur).size=cur.size:=by unfold putCells;simp
def UU{enc:Int->Value}{w:World}{b:Nat}{d:Array Int}{cur:Array Value}{t:TypeId}(h:w.heap[b]? =some (.cells cur t (0,0))):(putRow enc w b 0 d).heap[b]? =some (.cells (putCells enc 0 d cur) t (0,0)):=by unfold putRow mapBlock;show(w.heap.modify b _)[b]? =_;rw[Array.getElem?_modify,if_pos rfl,h];rfl
def TI{enc:Int->Value}{w:World}{b q:Nat}{d:Array Int}:w.grownBy (putRow enc (Sort.ahead w q) b 0 d) (some b):=by
 refine⟨rfl,rfl,rfl,?_,?_⟩
 .simp_all
 .intro k hk hne;unfold putRow mapBlock;show(w.heap.modify b _)[k]? =_;grind
def oH(l:List Int):LT.I.enc l=l.map (PV.int .i64):=by show CK l=_;unfold CK;exact D8 (λn=>PV.int .i64 n) l
def Kc{C:bF}{w:World}{b c:Nat}{l:List Int}{arr:Array Value}{ty:TypeId}(hL:Lent C w b c ty 1 (LT.I.enc l) arr):Holds (cV .i64) w b 0 l.toArray/\l.length<=arr.size:=by
 obtain⟨_,h2,_⟩:=hL.row (by decide);rw[oH,cL]at h2;refine⟨λj hj=> ?_,h2⟩;have hj:j<l.length:=by simpa using hj
 obtain⟨v,h3,_,h4⟩:=hL.cells j (.int .i64 l[j]) (by rw[oH,fy,eZ hj];rfl);unfold aU at h4;subst h4;refine⟨?_,?_⟩
 .rw[jg];refine(cell_of_row w b j arr ty (0,0) hL.blk).trans (h3.trans ?_);grind
 .simp[World.frozen?,hL.blk]
def Zn{C:bF}{w:World}{g:Nat}{q:Int}{vs:List Value}(hC:∀b o v,C b o v->w.cell? ⟨b,o,none⟩=some v)(h:af C [.fn (.func g) [] [.pro [.int .i64 q] 0]] vs):∃B o,vs=[.func (.func g) #[] #[.pointer (some ⟨B,o,none⟩)]]/\C B o (.int .i64 q):=by unfold af at h;obtain⟨v,r,rfl,h1,h2⟩:=h;unfold af at h2;subst h2;unfold aU at h1;obtain⟨a,b,rfl,h3,h4⟩:=h1;unfold af at h3 h4;subst h3;obtain⟨u,r,rfl,h5,h6⟩:=h4;unfold af at h6;subst h6;unfold aU at h5;obtain⟨B,o,rfl,h7⟩:=h5;unfold cK at h7;obtain⟨⟨x,h8,_,h9⟩,_⟩:=h7;unfold aU at h9;grind
def NE(g:Nat)(eg:∀args w,(callFunc g args).run bD w= .ok (.enter g args) w)(hg:∀(q x:Int) (B o:Nat) (W:World),W.cell? ⟨B,o,none⟩=some (.int .i64 q)->FnGives bD g #[.pointer (some ⟨B,o,none⟩)] #[.int .i64 x] (.bool (x==q)) W)
  (l:List Int) (q:Int) (hn:l.length<=1000000):
  Hl bD 203 l.length [.fn (.func g) [] [.pro [.int .i64 q] 0]] 3 1 (LT.I.enc l) (LT.I.enc (l.filter λx=> !(x==q))) (l.filter λx=> !(x==q)).length:=by
 refine⟨by kernel_rfl,?_,IK ..,?_,?_⟩
 .rw[oH,oH,cL,cL];grind
 .rw[oH,bZ];intro x hx;obtain⟨n,_,rfl⟩:=bM.1 hx;rfl
 intro C w b c arr vs hC hL hnc hA;obtain⟨B,o,rfl,hBo⟩:=Zn (λb o v h=>(hC b o v h).1) hA;obtain⟨hcell,hne⟩:=hC _ _ _ hBo;obtain⟨hH,hsz⟩:=Kc hL;have hB:B<w.heap.size:=World.block_lt_of_cell? w ⟨B,o,none⟩ hcell;have hcon:=AnyE.slices_DeleteFunc (P:=bD) (ρ:=Tryz.del203_ren) Tryz.del203 (cV .i64) (λ_=>rfl) (λx:Int=>x==q) g #[.pointer (some ⟨B,o,none⟩)] eg 0 (λw=>by kernel_rfl) b 0 c l.toArray w
  (λW x hb=>hg q x B o W ((hb.cell (p:=⟨B,o,none⟩) hB).trans hcell))
  (λn os dk x _=>hg q x B o _ (by unfold sortWorld;rw[cell?_grow _ _ _ (by simp_all),cell?_putRow_other _ _ b 0 _ _ (Or.inl hne)];exact hcell)) hH (by simp;omega) (by omega)
 change Calls bD 203 _ _ _ at hcon;have e1:l.toArray.toList=l:=rfl;rw[e1]at hcon;simp only[rJ]at hcon;refine hcon.mono ?_;rintro e w' ⟨rfl,q',rfl⟩;have hfl:=IK (λx=> !(x==q)) l;generalize (l.filter λx=> !(x==q))=m at hfl|-;refine⟨_,rfl,UU (w:=Sort.ahead w q') hL.blk,S3,?_,TI⟩;intro i x hi;rw[oH,fy]at hi;cases hx:m[i]? with
 |none=>grind
 |some y=>
  rw[hx]at hi;cases hi;have hi':i<m.length:=(rK.1 hx).1;refine⟨.int .i64 y,?_,rfl,by unfold aU;rfl⟩;rw[Tf (by simp;omega) (by omega)];grind
def aAe(args:Array Value)(w:World):(callFunc 204 args).run bD w= .ok (.enter 204 args) w:=kk (by kernel_rfl) args w
def aAd(args:Array Value)(w:World):(callFunc 205 args).run bD w= .ok (.enter 205 args) w:=kk (by kernel_rfl) args w
def Hf:List SV->Option (List Int×Bool×Int)
 |[.lst .I l,.fnp 204 [] [.pro [.int .i64 q] 0]] =>some (l,true,q)
 |[.lst .I l,.fnp 205 [] [.pro [.int .i64 q] 0]] =>some (l,false,q)
 |_=>none
def WN{l:List Int}{rest:List SV}{x:List Int×Bool×Int}(h:Hf (.lst .I l::rest)=some x):∃q,(rest=[.fnp 204 [] [.pro [.int .i64 q] 0]]/\x=(l,true,q))\/(rest=[.fnp 205 [] [.pro [.int .i64 q] 0]]/\x=(l,false,q)):=by unfold Hf at h;grind
noncomputable def aDg:Con:=⟨List Int×Bool×Int,Hf,λx=>[x.1.length<=1000000],.rowB .I 3 λx=>x.1.filter λy=> !(y==x.2.2)⟩
def aBR:aDg.Okz 203:=by
 intro l rest x hd hp;obtain⟨q,⟨rfl,rfl⟩|⟨rfl,rfl⟩⟩:=WN hd
 .exact⟨[.fn (.func 204) [] [.pro [.int .i64 q] 0]],rfl,NE 204 aAe X7 l q (hp _ cE)⟩
 .exact⟨[.fn (.func 205) [] [.pro [.int .i64 q] 0]],rfl,NE 205 aAd X6 l q (hp _ cE)⟩
end
def gS{x y A B:Int}(hx: -A<=x/\x<=A)(hy: -B<=y/\y<=B): -(A*B)<=x*y/\x*y<=A*B:=by have h1:0<=(A-x)*(B-y):=cM (by omega) (by omega);have h2:0<=(A+x)*(B+y):=cM (by omega) (by omega);have h3:0<=(A-x)*(B+y):=cM (by omega) (by omega);have h4:0<=(A+x)*(B-y):=cM (by omega) (by omega);grind
def bd(M:Int)(v:V):Prop:=(-M<=v.x/\v.x<=M)/\ -M<=v.y/\v.y<=M
def m6{m M:Int}{v:V}(h:ag v m=true)(hm:m<=M:=by decide):bd M v:=by unfold ag at h;unfold bd;grind
def bd.mono{m M:Int}{v:V}(h:bd m v)(hm:m<=M:=by decide):bd M v:=by unfold bd at*;omega
def mU{M:Int}{a b:V}(ha:bd M a)(hb:bd M b):(-(M*M)<=a.x*b.y/\a.x*b.y<=M*M)/\ -(M*M)<=a.y*b.x/\a.y*b.x<=M*M:=⟨gS ha.1 hb.2,gS ha.2 hb.1⟩
def iS{m:Int}{a b:V}(ha:bd m a)(hb:bd m b):bd (m+m) (aEq a b):=by unfold bd aEq at*;grind
def aAa(n:Int): -1<=sgn n/\sgn n<=1:=by unfold sgn;grind
def bT{x:Int}(h: -9000000000000000000<=x/\x<=9000000000000000000):aH x:=by unfold aH;omega
noncomputable def aDQ:Con:=con (ac aV (a1 aV)) (λ(_,_)=>[]) (λ(a,b)=> .bool (bf a b)
 )
def aCq:aDQ.Okz 149:=bH BZ (λ(_,_)=>[]) (λ(_,_)=>⟨_,rfl⟩) λ(a,b) _=>bC ((a.y<b.y->true=bf a b)/\
 (¬a.y<b.y->(a.y=b.y->decide (a.x<b.x)=bf a b)/\
  (¬a.y=b.y->false=bf a b))) (by kernel_rfl) (by
  unfold bf;grind)
noncomputable def Qz:=BZ.adk aCq
noncomputable def c80:Con:=con (a1 aI) (λ_=>[]) (λn=> .iqz (sgn n)
 )
def k80:c80.Okz 80:=bH Qz bg (λ_=>⟨_,rfl⟩) λn _=>bC ((0<n->1=sgn n)/\
 (¬0<n->(n<0-> -1=sgn n)/\
  (¬n<0->0=sgn n))) (by kernel_rfl) (by
  unfold sgn;grind)
noncomputable def t80:=Qz.adk k80
noncomputable def c79:Con:=con (ac aV (a1 aV)) (λ(_,_)=>[]) (λ(a,b)=> .iqz (bi a b)
 )
def k79:c79.Okz 79:=bH t80 (λ(_,_)=>[]) (λ(_,_)=>⟨_,rfl⟩) λ(a,b) _=>bC ((bf a b=true-> -1=bi a b)/\
 (bf a b=false->(a=b->0=bi a b)/\
  (¬a=b->1=bi a b))) (by kernel_rfl) (by
  unfold bi aEr bf;simp only[aEm];grind)
noncomputable def t79:=t80.adk k79
noncomputable def c35:Con:=con (ac aV (a1 aI)) (λ(_,m)=>[0<=m,m<=1000000000000]) (λ(a,m)=> .bool (ag a m)
 )
def k35:c35.Okz 35:=bH t79 (λ(_,_)=>[]) (λ(_,_)=>⟨_,rfl⟩) λ(a,m) hp=>bC (aH (0-m)/\(0-m<=a.x->(a.x<=m->aH (0-m)/\(0-m<=a.y->decide (a.y<=m)=ag a m)/\
   (¬0-m<=a.y->false=ag a m))/\
  (¬a.x<=m->false=ag a m))/\
 (¬0-m<=a.x->false=ag a m)) (by kernel_rfl) (by change 0<=m/\m<=1000000000000 at hp;unfold ag;have:= @aH;grind[aH])
noncomputable def t35:=t79.adk k35
noncomputable def c98:Con:=con (a1 aS) (λ_=>[]) (λs=> .bool (aj s)
 )
def k98:c98.Okz 98:=bH t35 bg (λ_=>⟨_,rfl⟩) λs _=>bC ((0:Int)<=4000/\(4000:Int)<=1000000000000/\(ag s.a 4000=true->(0:Int)<=4000/\(4000:Int)<=1000000000000/\ag s.b 4000=aj s)/\
 (ag s.a 4000=false->false=aj s)) (by kernel_rfl) (by unfold aj;grind)
noncomputable def t98:=t35.adk k98
noncomputable def aEi:Con:=con (a1 aV) (λ_=>[]) (λv=>(aT).enc (fT v)
 )
def aCT:aEi.Okz 104:=bH t98 bg (λ_=>⟨_,rfl⟩) λv _=>bC (aA (fT v) λA=>v.x=A.x/\v.y=A.y/\1=A.den) (by kernel_rfl) (by exact⟨rfl,rfl,rfl⟩)
noncomputable def RR:=t98.adk aCT
noncomputable def aDT:Con:=con (ac aV (a1 aV)) (λ(a,b)=>[bd 2000000000 a,bd 2000000000 b]) (λ(a,b)=> .iqz (cross a b)
 )
def aCt:aDT.Okz 144:=bH RR (λ(_,_)=>[]) (λ(_,_)=>⟨_,rfl⟩) λ(a,b) hp=>bC (aH (a.x*b.y)/\aH (a.y*b.x)/\aH (a.x*b.y-a.y*b.x)/\a.x*b.y-a.y*b.x=cross a b) (by kernel_rfl) (by change bd 2000000000 a/\bd 2000000000 b at hp;have:=mU hp.1 hp.2;exact⟨bT (by omega),bT (by omega),bT (by omega),rfl⟩)
noncomputable def Q2:=RR.adk aCt
noncomputable def aDS:Con:=con (ac aV (a1 aV)) (λ(a,b)=>[bd 1000000000 a,bd 1000000000 b]) (λ(a,b)=>aV.enc (aEq a b)
 )
def aCs:aDS.Okz 145:=bH Q2 (λ(_,_)=>[]) (λ(_,_)=>⟨_,rfl⟩) λ(a,b) hp=>bC (aH (a.x-b.x)/\aH (a.y-b.y)/\a.x-b.x=(aEq a b).x/\a.y-b.y=(aEq a b).y) (by kernel_rfl) (by change bd 1000000000 a/\bd 1000000000 b at hp;unfold bd at hp;exact⟨bT (by omega),bT (by omega),rfl,rfl⟩)
noncomputable def Q1:=Q2.adk aCs
def mj{s:S}(h:(!aj s)=false){M:Int}(hM:4000<=M:=by decide):bd M s.a/\bd M s.b:=by unfold aj at h;simp only[Bool.not_eq_false',bm]at h;exact⟨m6 h.1 hM,m6 h.2 hM⟩
def O3{s:S}{p:V}{M:Int}(h1:bd M s.a/\bd M s.b)(h:fA s p=true):bd M p:=by unfold fA at h;unfold bd at*;grind
def AA(s:S)(p:V): -1<=fz s p/\fz s p<=1:=by
 unfold fz turn;split
 .omega
 .exact aAa _
noncomputable def c70:Con:=con (ac aV (ac aV (a1 aV))) (λ(a,b,c)=>[bd 1000000000 a,bd 1000000000 b,bd 1000000000 c]) (λ(a,b,c)=> .iqz (turn a b c)
 )
def k70:c70.Okz 70:=bH Q1 (λ(_,_,_)=>[]) (λ(_,_,_)=>⟨_,rfl⟩) λ(a,b,c) hp=>bC (bd 1000000000 b/\bd 1000000000 a/\bd 1000000000 c/\bd 1000000000 a/\bd 2000000000 (aEq b a)/\bd 2000000000 (aEq c a)/\sgn (cross (aEq b a) (aEq c a))=turn a b c) (by kernel_rfl) (by change bd 1000000000 a/\bd 1000000000 b/\bd 1000000000 c at hp;exact⟨hp.2.1,hp.1,hp.2.2,hp.1,iS hp.2.1 hp.1,iS hp.2.2 hp.1,rfl⟩)
noncomputable def t70:=Q1.adk k70
noncomputable def aEl:Con:=con (ac aS (a1 aV)) (λ(_,_)=>[]) (λ(s,p)=> .iqz (fz s p)
 )
def aCW:aEl.Okz 100:=bH t70 (λ(_,_)=>[]) (λ(_,_)=>⟨_,rfl⟩) λ(s,p) _=>bC (aA (!aj s) λA=>aA (!ag p 4000) λB=>(A=true->0=fz s p)/\
 (A=false->(0:Int)<=4000/\(4000:Int)<=1000000000000/\(B=true->0=fz s p)/\
  (B=false->bd 1000000000 s.a/\bd 1000000000 s.b/\bd 1000000000 p/\turn s.a s.b p=fz s p))) (by kernel_rfl) (by
  unfold fz;refine⟨λh=>by rw[h];rfl,λh=>⟨by decide,by decide,λh2=>by grind,λh2=>⟨(mj h).1,(mj h).2,m6 (by simpa using h2),by grind⟩⟩⟩)
noncomputable def RU:=t70.adk aCW
noncomputable def aDF:Con:=con (ac aS (a1 aV)) (λ(_,_)=>[]) (λ(s,p)=> .bool (onS s p))
def aCg:aDF.Okz 163:=bH RU (λ(s,p)=>[jb 4 5 (fA s p)]
  ) (λ(_,_)=>⟨_,rfl⟩) λ(s,p) _=>bC (aA (!aj s) λA=>(A=true->false=onS s p)/\
 (A=false->((Min.min s.a.x s.b.x<=p.x->(p.x<=Max.max s.a.x s.b.x->(Min.min s.a.y s.b.y<=p.y->decide (p.y<=Max.max s.a.y s.b.y)=fA s p)/\
     (¬Min.min s.a.y s.b.y<=p.y->false=fA s p))/\
    (¬p.x<=Max.max s.a.x s.b.x->false=fA s p))/\
   (¬Min.min s.a.x s.b.x<=p.x->false=fA s p))/\
  (∀y:Unit,(fA s p=true->bd 1000000000 s.a/\bd 1000000000 s.b/\bd 1000000000 p/\decide (turn s.a s.b p=0)=onS s p)/\
   (fA s p=false->false=onS s p)))) (by kernel_rfl) (by
  refine⟨λh=>by unfold onS;grind,λh=>⟨by unfold fA;grind,λ_=>⟨λh2=>⟨(mj h).1,(mj h).2,O3 (mj h) h2,by unfold onS;grind⟩,λh2=>by unfold onS;rw[h2];simp⟩⟩⟩)
noncomputable def Qn:=RU.adk aCg
def so(l:List V)(k:Nat):List V:=ku (l.take k)
def qso(l:List V)(k j:Nat):Prop:=bf (aEn (so l k) j) (aEn l k)=true
def cm(s t:S)(k:Nat):List V:=([s.a,s.b,t.a,t.b].take k).filter λp=>onS s p&&onS t p
def FH{l:List V}{k:Nat}(h:k<l.length):so l (k+1)=jY (so l k) (aEn l k):=by unfold so ku;rw[rL,eZ h,Cm,nth_eq h];rfl
def Dy{p:V}:∀{l:List V} {k:Nat},k<=l.length->(∀j,j<k->bf (aEn l j) p=true)->(k<l.length->¬bf (aEn l k) p=true)->
  jY l p=if k<l.length/\aEn l k=p then l else l.take k++p::l.drop k
 |[],k,h1,_,_=>by simp at h1;subst h1;rfl
 |q::r,0,_,_,h3=>by
  have h3:¬bf q p=true:=h3 (by simp);unfold jY;rw[if_neg h3];show(if q=p then q::r else p::q::r)=if 0<(q::r).length/\q=p then q::r else p::q::r;simp
 |q::r,k+1,h1,h2,h3=>by
  have h0:bf q p=true:=h2 0 (by omega);unfold jY;rw[if_pos h0,Dy (l:=r) (k:=k) (by grind) (λj hj=>h2 (j+1) (by omega)) (λhk=>h3 (by grind))];show(q::if _ then _ else _)=if k+1<(q::r).length/\aEn r k=p then q::r else q::(r.take k++p::r.drop k);grind
def Xs(l:List V)(p:V):(jY l p).length<=l.length+1:=by
 induction l with
 |nil=>simp[jY]
 |cons q r ih=>unfold jY;grind
def OX{l:List V}{k y:Nat}(hk:k<l.length)(h1:y<=(so l k).length)(h2:aO (qso l k) y)(h3:y<(so l k).length->¬qso l k y)(h4:¬(y<(so l k).length/\aEn (so l k) y=aEn l k)):
  ([] :List V)++aW y (gi 0 (so l k))++[aEn l k] ++aW ((so l k).length-y) (gi y (so l k))=so l (k+1):=by
 have e:aW ((so l k).length-y) (gi y (so l k))=gi y (so l k):=gu (by simp);rw[FH hk,Dy h1 h2 h3,if_neg h4,e];simp
def M5{l:List V}{k y:Nat}(hk:k<l.length)(h1:y<=(so l k).length)(h2:aO (qso l k) y)(h3:y<(so l k).length->¬qso l k y)(h4:y<(so l k).length)(h5:aEn (so l k) y=aEn l k):so l k=so l (k+1):=by rw[FH hk,Dy h1 h2 h3,if_pos ⟨h4,h5⟩]
def Zj(s t:S){k:Nat}(h:k<4):cm s t (k+1)=if(onS s (aEn [s.a,s.b,t.a,t.b] k)&&onS t (aEn [s.a,s.b,t.a,t.b] k))=true then cm s t k++[aEn [s.a,s.b,t.a,t.b] k]else cm s t k:=by unfold cm;rw[rL,eZ (show k<[s.a,s.b,t.a,t.b].length from h),List.filter_append,nth_eq (show k<[s.a,s.b,t.a,t.b].length from h)];grind
def aAN(s t:S)(k:Nat):(cm s t k).length<=4:=cR (IK _ _) (by simp;omega)
noncomputable def aDE:Con:=con (a1 (aL .V)) (λl=>[l.length<=1000]) (λl=> .lst .V (ku l))
def aCf:aDE.Okz 164:=bH Qn (λl=>[lp 3 4 l.length (λk=>[(so l k).length<=k]) [900] (λk=>[(3,.own 900 .V (so l k).length)]) (λk=>[(900,.row 44 .V (so l k))]) λk=>[cnt 6 5 (so l k).length (aO (qso l k)),jN 8 5 (λj=>[j<=(so l k).length,aO (qso l k) j,j<(so l k).length->¬qso l k j]) λj=>[jP 9 [¬(j<(so l k).length/\aEn (so l k) j=aEn l k)]]]]
  ) (λ_=>⟨_,rfl⟩) λl hp=>bC (aA (so l 0).length λL=>aA ([] :List V) λN=>(0=(0:Int)/\L=0/\so l 0=N/\(0:Nat)<=l.length/\L<=0)/\
 (∀x:Nat,aA (x+1) λA=>aA (so l x) λB=>aA (so l A) λC=>aA (x:Int) λD=>aA (qso l x) λF=>aA (aEn l x) λH=>aA (gi 0 B) λJ=>aA ((x+1:Nat):Int) λP=>x<=l.length/\B.length<=x->(D<l.length->((0=(0:Int)/\(0:Nat)<=B.length/\aO F 0)/\
    (∀x_1:Nat,aA (x_1:Int) λG=>aA (aEn B x_1) λM=>x_1<=B.length/\aO F x_1->(G<B.length->ix G B.length/\x_1<B.length/\ix D l.length/\(bf M H=true->aH (G+1)/\G+1=((x_1+1:Nat):Int)/\x_1+1<=B.length/\aO F (x_1+1)/\B.length-(x_1+1)<B.length-x_1)/\
      (bf M H=false->G=x_1/\x_1<=B.length/\aO F x_1/\(x_1<B.length->¬qso l x x_1)))/\
     (¬G<B.length->G=x_1/\x_1<=B.length/\aO F x_1/\(x_1<B.length->¬qso l x x_1))))/\
   (∀y:Nat,aA (y:Int) λE=>aA (B.length-y) λI=>aA (gi y B) λK=>aA (N++aW y J) λO=>aA (N++aW y J++[H]) λQ=>y<=B.length/\aO F y/\(y<B.length->¬qso l x y)->((E<B.length->ix E B.length/\y<B.length/\ix D l.length/\((aEn B y)=H->aH (D+1)/\D+1=P/\B.length=C.length/\so l x=so l A/\x+1<=l.length/\C.length<=x+1/\l.length-A<l.length-x)/\
      (¬(aEn B y)=H->¬(y<B.length/\aEn B y=aEn l x)))/\
     (¬E<B.length->¬(y<B.length/\aEn B y=aEn l x)))/\
    (∀y_1:Unit,¬(y<B.length/\aEn B y=aEn l x)->(0<=E/\E<=B.length)/\0+y<=B.length/\N.length+(aW y J).length<=1000000/\ix D l.length/\O.length=O.length/\O.length+[H].length<=1000000/\(0<=E/\E<=B.length)/\Q.length=Q.length/\y+I<=B.length/\Q.length+(aW I K).length<=1000000/\aH (D+1)/\D+1=P/\(N++aW y J++[H] ++aW I K).length=C.length/\N++aW y J++[H] ++aW I K=so l A/\x+1<=l.length/\C.length<=x+1/\l.length-A<l.length-x)))/\
  (¬D<l.length->B.length=B.length/\so l x=ku l))) (by kernel_rfl) (by
  change l.length<=1000 at hp;have e0:so l 0=[] :=rfl;have e1:so l l.length=ku l:=by unfold so;rw[vl]
  have el:∀x,x<l.length->(so l x).length<=x->(so l (x+1)).length<=x+1:=by intro x h h2;rw[FH h];exact cR (Xs _ _) (by omega)
  have e2:(so l 0).length=0:=rfl
  with_reducible ((repeat' first|apply cF|intro);all_goals repeat cases‹_/\_›)
  all_goals first|assumption|rfl|exact trivial|exact nb ‹_› |exact nb' ‹_› |omega|exact ip (by omega)|(unfold ix;omega)|(unfold aH;omega)|exact ii _|exact cP ‹_› ‹_› |(refine cP ‹_› ?_;simp_all;done)|exact OX (by omega) ‹_› ‹_› ‹_› ‹_› |exact congrArg fW (OX (by omega) ‹_› ‹_› ‹_› ‹_›)|exact M5 (by omega) ‹_› ‹_› ‹_› (by omega) ‹_› |exact congrArg fW (M5 (by omega) ‹_› ‹_› ‹_› (by omega) ‹_›)|exact el _ (by omega) ‹_› |(unfold qso at*;simp_all;done)|grind)
noncomputable def Qm:=Qn.adk aCf
noncomputable def c99:Con:=con (ac aS (a1 aS)) (λ(_,_)=>[]) (λ(s,t)=> .lst .V (jm s t))
def k99:c99.Okz 99:=bH Qm (λ(s,t)=>[lp 4 7 4 bg [900,11] (λk=>[(6,.own 900 .V (cm s t k).length),(5,.own 11 .V 4)]) (λk=>[(900,.row 44 .V (cm s t k)),(11,.row 44 .V [s.a,s.b,t.a,t.b])]) λk=>[jb 7 34 (onS s (aEn [s.a,s.b,t.a,t.b] k)&&onS t (aEn [s.a,s.b,t.a,t.b] k))]]
  ) (λ(_,_)=>⟨_,rfl⟩) λ(s,t) _=>bC (aA (4:Nat) λC=>(0=(0:Int)/\(cm s t 0).length=0/\C=4/\cm s t 0=([] :List V)/\[s.a,s.b,t.a,t.b] =[s.a,s.b,t.a,t.b]/\(0:Nat)<=4)/\
 (∀x:Nat,aA (x+1) λA=>aA (x:Int) λB=>aA (cm s t x) λD=>aA (cm s t A).length λE=>aA ((x+1:Nat):Int) λF=>aA (aEn [s.a,s.b,t.a,t.b] x) λG=>aA (onS s G&&onS t G) λH=>x<=4->(B<4->(ix B 4/\x<[s.a,s.b,t.a,t.b].length/\(onS s G=true->ix B 4/\x<[s.a,s.b,t.a,t.b].length/\onS t G=H)/\
    (onS s G=false->false=H))/\
   (∀y:Unit,(H=true->ix B 4/\x<[s.a,s.b,t.a,t.b].length/\D.length=D.length/\D.length+[G].length<=1000000/\aH (B+1)/\B+1=F/\(cm s t x++[G]).length=E/\C=4/\cm s t x++[G] =cm s t A/\[s.a,s.b,t.a,t.b] =[s.a,s.b,t.a,t.b]/\x+1<=4/\4-A<4-x)/\
    (H=false->aH (B+1)/\B+1=F/\D.length=E/\C=4/\cm s t x=cm s t A/\[s.a,s.b,t.a,t.b] =[s.a,s.b,t.a,t.b]/\x+1<=4/\4-A<4-x)))/\
  (¬B<4->D.length=D.length/\D.length<=1000/\ku D=jm s t))) (by kernel_rfl) (by
  have e0:cm s t 0=[] :=rfl;have e4:ku (cm s t 4)=jm s t:=rfl;have es:=λk=> @Zj s t k;have el:=aAN s t
  with_reducible ((repeat' first|apply cF|intro);all_goals repeat cases‹_/\_›)
  all_goals grind)
noncomputable def t99:=Qm.adk k99
noncomputable def c32:Con:=con (ac aS (a1 aS)) (λ(_,_)=>[]) (λ(s,t)=> .iqz (cY s t)
 )
def k32:c32.Okz 32:=bH t99 (λ(_,_)=>[]) (λ(_,_)=>⟨_,rfl⟩) λ(s,t) _=>bC (aA (!aj s) λA=>aA (!aj t) λB=>aA ((jm s t).length:Int) λD=>(A=true->0=cY s t)/\
 (A=false->(B=true->0=cY s t)/\
  (B=false->(1<D->3=cY s t)/\
   (¬1<D->(D=1->1=cY s t)/\
    (¬D=1->aH (fz s t.a*fz s t.b)/\(fz s t.a*fz s t.b<0->aH (fz t s.a*fz t s.b)/\(fz t s.a*fz t s.b<0->2=cY s t)/\
      (¬fz t s.a*fz t s.b<0->0=cY s t))/\
     (¬fz s t.a*fz s t.b<0->0=cY s t)))))) (by kernel_rfl) (by
  have d1:=AA s t.a;have d2:=AA s t.b;have d3:=AA t s.a;have d4:=AA t s.b;have m1:=gS d1 d2;have m2:=gS d3 d4;unfold cY
  with_reducible ((repeat' first|apply cF|intro);all_goals repeat cases‹_/\_›)
  all_goals grind)
noncomputable def t32:=t99.adk k32
def eg(r:aD)(k:Nat):List S:=(bP k).map (bL r)
def Zd(r:aD)(k:Nat):eg r k++[(⟨aEn r k,aEn r ((k+1) % r.length)⟩:S)] =eg r (k+1):=by unfold eg;rw[vZ,dQ];rfl
def aAK(r:aD)(k:Nat):(eg r k).length=k:=by unfold eg;simp
def ar(r:aD)(k:Nat):Int:=((bP k).map λi=>cross (aEn r i) (nxt r i)).sum
def At(r:aD)(k:Nat):ar r (k+1)=ar r k+cross (aEn r k) (aEn r ((k+1) % r.length)):=by unfold ar;rw[vZ,dQ,yW];simp[nxt]
def ma{r:aD}(h:near r=true){i:Nat}(hi:i<r.length){M:Int}(hM:2000<=M:=by decide):bd M (aEn r i):=m6 (tu h i hi) hM
def ZH{r:aD}{i:Nat}(hi:i<r.length)(h:(!ag (aEn r i) 2000)=true):near r=false:=by
 cases hn:near r with
 |false=>rfl
 |true=>have:=tu hn i hi;grind
def Xh{r:aD}(h:aO (λi=>ag (aEn r i) 2000=true) r.length):near r=true:=by unfold near;rw[bZ];intro v hv;obtain⟨j,hj,rfl⟩:=jf hv;rw[<-nth_eq hj];exact h j hj
def u4{r:aD}(h:near r=true):∀k:Nat,k<=r.length-> -8000000*(k:Int)<=ar r k/\ar r k<=8000000*k
 |0,_=>by simp[ar]
 |k+1,hk=>by
  have ih:=u4 h k (by omega);have:=mU (ma h (i:=k) (by omega) (M:=2000)) (ma h (i:=(k+1) % r.length) (bk _ (by omega)) (M:=2000));rw[At];unfold cross;omega
noncomputable def aEk:Con:=con (a1 (aL .V)) (λr=>[r.length<=100000]) (λr=> .lst .S (aJ r))
def aCV:aEk.Okz 102:=bH t32 (λr=>[lp 5 4 r.length bg [900] (λk=>[(3,.own 900 .S (eg r k).length)]) (λk=>[(900,.row 46 .S (eg r k))])]
  ) (λ_=>⟨_,rfl⟩) λr hp=>bC (aA (r.length:Int) λG=>aA ([] :List S) λI=>(G<2->aJ r=I)/\
 (¬G<2->(0=(0:Int)/\(eg r 0).length=0/\eg r 0=I/\(0:Nat)<=r.length)/\
  (∀x:Nat,aA (x+1) λA=>aA (eg r x) λB=>aA (x:Int) λC=>aA (⟨(aEn r x),(aEn r (A % r.length))⟩:S) λH=>x<=r.length->(C<r.length->ix C r.length/\aH (C+1)/\G≠0/\ix ((A % r.length:Nat):Int) r.length/\B.length=B.length/\B.length+[H].length<=1000000/\aH (C+1)/\C+1=((x+1:Nat):Int)/\(eg r x++[H]).length=(eg r A).length/\eg r x++[H] =eg r A/\x+1<=r.length/\r.length-A<r.length-x)/\
   (¬C<r.length->B.length=B.length/\eg r x=aJ r)))) (by kernel_rfl) (by
  change r.length<=100000 at hp;have e0:eg r 0=[] :=rfl;have es:=Zd r;have el:=aAK r;have ee:aJ r=if r.length<2 then []else eg r r.length:=rfl
  repeat' first|with_reducible apply cF|with_reducible intro
  all_goals repeat with_reducible cases‹_/\_›
  all_goals first|assumption|rfl|exact trivial|exact nb ‹_› |exact nb' ‹_› |omega|exact ip (by omega)|(unfold ix;omega)|(unfold aH;omega)|exact ii _|exact cP ‹_› ‹_› |(refine cP ‹_› ?_;simp_all;done)|grind)
noncomputable def RT:=t32.adk aCV
noncomputable def aDH:Con:=con (a1 (aL .V)) (λr=>[r.length<=100000]) (λr=> .bool (near r))
def Rg:aDH.Okz 160:=bH RT (λr=>[cnt 2 3 r.length (aO λi=>ag (aEn r i) 2000=true)]
  ) (λ_=>⟨_,rfl⟩) λr hp=>bC ((0=(0:Int)/\(0:Nat)<=r.length/\aO (λi=>ag (aEn r i) 2000=true) 0)/\
 (∀x:Nat,aA (x:Int) λA=>aA (!ag (aEn r x) 2000) λB=>x<=r.length/\aO (λi=>ag (aEn r i) 2000=true) x->(A<r.length->ix A r.length/\(0:Int)<=2000/\(2000:Int)<=1000000000000/\(B=true->false=near r)/\
   (B=false->aH (A+1)/\A+1=((x+1:Nat):Int)/\x+1<=r.length/\aO (λi=>ag (aEn r i) 2000=true) (x+1)/\r.length-(x+1)<r.length-x))/\
  (¬A<r.length->true=near r))) (by kernel_rfl) (by
  change r.length<=100000 at hp;have e1:= @ZH r;have e2:= @Xh r
  repeat' first|with_reducible apply cF|with_reducible intro
  all_goals repeat with_reducible cases‹_/\_›
  all_goals first|assumption|rfl|exact trivial|exact nb ‹_› |exact nb' ‹_› |omega|exact ip (by omega)|(unfold ix;omega)|(unfold aH;omega)|exact ii _|exact cP ‹_› ‹_› |(refine cP ‹_› ?_;simp_all;done)|exact(e2 (by rw[show r.length=_ from(by omega)];assumption)).symm|grind)
noncomputable def Qp:=RT.adk Rg
noncomputable def aEa:Con:=con (a1 (aL .V)) (λr=>[near r=true,r.length<=100000]) (λr=> .iqz (area r))
def aCL:aEa.Okz 113:=bH Qp (λr=>[lp 3 4 r.length bg [] (λk=>[(3,.iqz (ar r k))]) bg]
  ) (λ_=>⟨_,rfl⟩) λr hp=>bC ((0=(0:Int)/\0=ar r 0/\(0:Nat)<=r.length)/\
 (∀x:Nat,aA (x+1) λA=>aA (x:Int) λB=>aA (aEn r x) λC=>aA (aEn r (A % r.length)) λE=>x<=r.length->(B<r.length->ix B r.length/\aH (B+1)/\(r.length:Int)≠0/\ix ((A % r.length:Nat):Int) r.length/\bd 2000000000 C/\bd 2000000000 E/\aH (ar r x+cross C E)/\aH (B+1)/\B+1=((x+1:Nat):Int)/\ar r x+cross C E=ar r A/\x+1<=r.length/\r.length-A<r.length-x)/\
  (¬B<r.length->ar r x=area r))) (by kernel_rfl) (by
  change near r=true/\r.length<=100000 at hp;have e0:ar r r.length=area r:=rfl;have es:=At r;have eb:∀x,x<r.length->aH (ar r x+cross (aEn r x) (aEn r ((x+1) % r.length))):=λx h=>by rw[<-es];exact bT (by have:=u4 hp.1 (x+1) (by omega);omega)
  have en:=λi hi=> @ma r hp.1 i hi 2000000000
  repeat' first|with_reducible apply cF|with_reducible intro
  all_goals repeat with_reducible cases‹_/\_›
  all_goals first|assumption|rfl|exact trivial|exact nb ‹_› |exact nb' ‹_› |omega|exact ip (by omega)|(unfold ix;omega)|(unfold aH;omega)|exact ii _|exact cP ‹_› ‹_› |(refine cP ‹_› ?_;simp_all;done)|exact eb _ (by omega)|exact en _ (by omega) (by decide)|exact en _ (bk _ (by omega)) (by decide)|(rw[es])|grind)
noncomputable def RL:=Qp.adk aCL
noncomputable def aDh:Con:=con (a1 aI) (λn=>[-9000000000000000000<=n,n<=9000000000000000000]) (λn=> .iqz (n.natAbs:Int)
 )
def aBS:aDh.Okz 201:=bH RL bg (λ_=>⟨_,rfl⟩) λn hp=>bC ((0<=n->n=dU n)/\
 (¬0<=n->aH (0-n)/\0-n=dU n)) (by kernel_rfl) (by
  change-9000000000000000000<=n/\n<=9000000000000000000 at hp
  repeat' first|with_reducible apply cF|with_reducible intro
  all_goals repeat with_reducible cases‹_/\_›
  all_goals first|assumption|rfl|exact trivial|exact nb ‹_› |exact nb' ‹_› |omega|exact ip (by omega)|(unfold ix;omega)|(unfold aH;omega)|exact ii _|exact cP ‹_› ‹_› |(refine cP ‹_› ?_;simp_all;done)|grind)
noncomputable def QP:=RL.adk aBS
noncomputable def aDi:Con:=con (ac aI (a1 aI)) (λ(a,b)=>[0<=a,0<=b]) (λ(a,b)=> .iqz ((bw a.natAbs b.natAbs:Nat):Int))
def aBT:aDi.Okz 200:=bH QP (λ(a,b)=>[(1,.mk (Int×Int) (λF _=>Rn F 0 1) [] (λp=>[0<=p.1,0<=p.2,bw p.1.natAbs p.2.natAbs=bw a.natAbs b.natAbs]) (λp=>[(0,.iqz p.1),(1,.iqz p.2)]) bg (λp=>p.2.natAbs) bg)]
  ) (λ(_,_)=>⟨_,rfl⟩) λ(a,b) hp=>bC (aA (dU a) λA=>aA (dU b) λB=>(a=a/\b=b/\0<=a/\0<=b/\bw A B=bw A B)/\
 (∀x:Prod Int Int,aA (c8 x.1 x.2) λC=>0<=x.1/\0<=x.2/\bw (dU x.1) (dU x.2)=bw A B->(¬x.2=0->x.2≠0/\x.2=x.2/\c8 x.1 x.2=c8 x.1 x.2/\0<=x.2/\0<=c8 x.1 x.2/\bw (dU x.snd) (dU C)=bw A B/\dU C<dU x.2)/\
  (¬(¬x.2=0)->x.1=bw A B))) (by kernel_rfl) (by
  change 0<=a/\0<=b at hp;have e1:∀x y:Int,0<=x->0<=y->bw y.natAbs (c8 x y).natAbs=bw x.natAbs y.natAbs:=λx y _ _=>by rw[IL,IM,<-Nat.gcd_rec,IM]
  have e2:∀x y:Int,0<=x->¬y=0->(c8 x y).natAbs<y.natAbs:=λx y _ h=>by rw[IL];exact bk _ (by omega)
  have e3:∀x y:Int,0<=x->0<=c8 x y:=λx y h=>Int.tmod_nonneg _ h
  repeat' first|with_reducible apply cF|with_reducible intro
  all_goals repeat with_reducible cases‹_/\_›
  all_goals first|assumption|rfl|exact trivial|exact nb ‹_› |exact nb' ‹_› |omega|exact ip (by omega)|(unfold ix;omega)|(unfold aH;omega)|exact ii _|exact cP ‹_› ‹_› |(refine cP ‹_› ?_;simp_all;done)|exact e3 _ _ ‹_› |exact e2 _ _ (by assumption) ‹_› |(rw[e1 _ _ (by assumption) (by assumption)];assumption)|(have h0:=nM ‹¬¬_›;simp_all;omega)|grind)
noncomputable def QQ:=QP.adk aBT
def PtB(p:Pt):Prop:=(1<=p.den/\p.den<=134217728)/\(-600000000000<=p.x/\p.x<=600000000000)/\(-600000000000<=p.y/\p.y<=600000000000)
def PtB.of{p:Pt}(h:dO p=true):PtB p:=by unfold dO ik ag at h;simp only[bm,decide_eq_true_eq]at h;unfold PtB;omega
def PtB.off{p:Pt}(hp:PtB p){v:V}(hv:bd 10000 v):(-1400000000000<=v.x*p.den/\v.x*p.den<=1400000000000)/\(-1400000000000<=v.y*p.den/\v.y*p.den<=1400000000000):=by have h1:=gS (x:=v.x) (y:=p.den) (A:=10000) (B:=134217728) (by unfold bd at hv;omega) (by unfold PtB at hp;omega);have h2:=gS (x:=v.y) (y:=p.den) (A:=10000) (B:=134217728) (by unfold bd at hv;omega) (by unfold PtB at hp;omega);omega
noncomputable def aDG:Con:=con (a1 aT) (λ_=>[]) (λp=> .bool (dO p))
def aCh:aDG.Okz 162:=bH QQ (λp=>[jb 2 42 (!ik p 4000)]
  ) (λ_=>⟨_,rfl⟩) λp _=>bC (aA (-4000*p.den) λA=>aA (!ik p 4000) λB=>aA (dU p.x:Int) λC=>aA (dU p.y:Int) λD=>aA (bw (dU C) (dU D):Int) λE=>((p.den<1->true=B)/\
  (¬p.den<1->(134217728<p.den->true=B)/\
   (¬134217728<p.den->aH A/\(p.x< -4000*p.den->true=B)/\
    (¬p.x< -4000*p.den->aH (4000*p.den)/\(4000*p.den<p.x->true=B)/\
     (¬4000*p.den<p.x->aH A/\(p.y< -4000*p.den->true=B)/\
      (¬p.y< -4000*p.den->aH (4000*p.den)/\decide (4000*p.den<p.y)=B))))))/\
 (∀y:Unit,(B=true->false=dO p)/\
  (B=false-> -9000000000000000000<=p.x/\p.x<=9000000000000000000/\ -9000000000000000000<=p.y/\p.y<=9000000000000000000/\0<=C/\0<=D/\0<=E/\0<=p.den/\decide ((bw (dU E) (dU p.den):Int)=1)=dO p))) (by kernel_rfl) (by
  unfold dO ik ag;simp only[Int.natAbs_natCast]
  repeat' first|with_reducible apply cF|with_reducible intro
  all_goals repeat with_reducible cases‹_/\_›
  all_goals first|assumption|rfl|exact trivial|exact nb ‹_› |exact nb' ‹_› |omega|exact ip (by omega)|(unfold ix;omega)|(unfold aH;omega)|exact ii _|exact cP ‹_› ‹_› |(refine cP ‹_› ?_;simp_all;done)|grind)
noncomputable def Qo:=QQ.adk aCh
noncomputable def aDC:Con:=con (ac aV (ac aV (a1 aT))) (λ(a,b,p)=>[bd 10000 a,bd 10000 b,PtB p]) (λ(a,b,p)=> .iqz (sgn (fP ⟨a,b⟩ p))
 )
def aCd:aDC.Okz 166:=bH Qo (λ(_,_,_)=>[]) (λ(_,_,_)=>⟨_,rfl⟩) λ(a,b,p) hp=>bC (aA (aEq b a) λA=>aA (p.y-a.y*p.den) λB=>aA (p.x-a.x*p.den) λC=>aA (A.x*B-A.y*C) λD=>bd 1000000000 b/\bd 1000000000 a/\aH (a.y*p.den)/\aH B/\aH (A.x*B)/\aH (a.x*p.den)/\aH C/\aH (A.y*C)/\aH D/\sgn D=sgn (fP (⟨a,b⟩:S) p)) (by kernel_rfl) (by change bd 10000 a/\bd 10000 b/\PtB p at hp;have h1:=hp.2.2.off hp.1;have h2:=iS hp.2.1 hp.1;have h3:=hp.2.2;unfold PtB at h3;have m1:=gS (A:=20000) (B:=2000000000000) h2.1 (y:=p.y-a.y*p.den) (by omega);have m2:=gS (A:=20000) (B:=2000000000000) h2.2 (y:=p.x-a.x*p.den) (by omega);exact⟨hp.2.1.mono,hp.1.mono,bT (by omega),bT (by omega),bT (by omega),bT (by omega),bT (by omega),bT (by omega),bT (by omega),rfl⟩)
noncomputable def Qk:=Qo.adk aCd
def inR(s:S)(p:Pt):Bool:=decide (min s.a.x s.b.x*p.den<=p.x)&&decide (p.x<=max s.a.x s.b.x*p.den)&&decide (min s.a.y s.b.y*p.den<=p.y)&&decide (p.y<=max s.a.y s.b.y*p.den)
noncomputable def aDD:Con:=con (ac aS (a1 aT)) (λ(s,p)=>[bd 10000 s.a,bd 10000 s.b,PtB p]) (λ(s,p)=> .bool (onR s p))
def aCe:aDD.Okz 165:=bH Qk (λ(s,p)=>[jb 2 5 (inR s p)]
  ) (λ(_,_)=>⟨_,rfl⟩) λ(s,p) hp=>bC ((aH (Min.min s.a.x s.b.x*p.den)/\(Min.min s.a.x s.b.x*p.den<=p.x->aH (Max.max s.a.x s.b.x*p.den)/\(p.x<=Max.max s.a.x s.b.x*p.den->aH (Min.min s.a.y s.b.y*p.den)/\(Min.min s.a.y s.b.y*p.den<=p.y->aH (Max.max s.a.y s.b.y*p.den)/\decide (p.y<=Max.max s.a.y s.b.y*p.den)=inR s p)/\
    (¬Min.min s.a.y s.b.y*p.den<=p.y->false=inR s p))/\
   (¬p.x<=Max.max s.a.x s.b.x*p.den->false=inR s p))/\
  (¬Min.min s.a.x s.b.x*p.den<=p.x->false=inR s p))/\
 (∀y:Unit,(inR s p=true->bd 10000 s.a/\bd 10000 s.b/\PtB p/\decide (sgn (fP s p)=0)=onR s p)/\
  (inR s p=false->false=onR s p))) (by kernel_rfl) (by
  change bd 10000 s.a/\bd 10000 s.b/\PtB p at hp;have h1:=hp.2.2.off (v:=⟨min s.a.x s.b.x,min s.a.y s.b.y⟩) (by unfold bd at*;grind);have h2:=hp.2.2.off (v:=⟨max s.a.x s.b.x,max s.a.y s.b.y⟩) (by unfold bd at*;grind);dsimp only at h1 h2;have e:onR s p=(inR s p&&sgn (fP s p)==0):=rfl;unfold inR at*
  repeat' first|with_reducible apply cF|with_reducible intro
  all_goals repeat with_reducible cases‹_/\_›
  all_goals first|assumption|rfl|exact trivial|exact nb ‹_› |exact nb' ‹_› |omega|exact ip (by omega)|(unfold ix;omega)|(unfold aH;omega)|exact ii _|exact cP ‹_› ‹_› |(refine cP ‹_› ?_;simp_all;done)|grind)
noncomputable def Ql:=Qk.adk aCe
def kc(r:aD)(i k:Nat):Bool:=if k=i+1\/(i=0/\k=r.length-1)then cY (bL r i) (bL r k)==1 else cY (bL r i) (bL r k)==0
def JD(r:aD):dB r=true↔3<=r.length/\r.length<=40/\near r=true/\(∀i,i<r.length->turn (aEn r i) (aEn r ((i+1) % r.length)) (aEn r ((i+2) % r.length))≠0)/\(∀i k,i<k->k<r.length->kc r i k=true)/\0<area r:=by
 unfold dB;simp only[bm,decide_eq_true_eq,bZ,bz,bne_iff_ne,je];constructor
 .rintro⟨⟨⟨⟨⟨h1,h2⟩,h3⟩,h4⟩,h5⟩,h6⟩;refine⟨h1,h2,h3,h4,λi k hik hk=> ?_,h6⟩;rcases h5 i (by omega) k hk with h|h
  .omega
  .exact h
 .rintro⟨h1,h2,h3,h4,h5,h6⟩;refine⟨⟨⟨⟨⟨h1,h2⟩,h3⟩,h4⟩,λi hi k hk=> ?_⟩,h6⟩;by_cases h:k<=i
  .exact .inl h
  .exact .inr (h5 i k (by omega) hk)
def wF(r:aD)(h:2<=r.length):(aJ r).length=r.length:=by unfold aJ;grind
def wR{r:aD}{i:Nat}(h:2<=r.length)(hi:i<r.length):az (aJ r) i=bL r i:=by rw[jD (by rw[wF r h];exact hi)];simp only[aJ,if_neg (show¬r.length<2 by omega),List.getElem_map,List.getElem_range]
def cD(p:Pt)(l:List S):Bool:=l.foldl (λb s=>b !=jZ s p) false
def Vp{p:Pt}{l:List S}{k:Nat}(h:k<l.length):cD p (l.take (k+1))=(cD p (l.take k) !=jZ (az l k) p):=by unfold cD;rw[rL,eZ h,Cm,jD h];rfl
def LY{p:Pt}:∀{l:List S} {k:Nat} (ins:Bool),k<l.length->(∀j,j<k->onR (az l j) p=false)->onR (az l k) p=true->lz p l ins=1
 |[],k,ins,h,_,_=>by simp at h
 |s::l,0,ins,h,_,h2=>by
  unfold lz;rw[show onR s p=true from h2];rfl
 |s::l,k+1,ins,h,h1,h2=>by
  unfold lz;rw[show onR s p=false from h1 0 (by omega)];exact LY (l:=l) (k:=k) _ (by simpa using h) (λj hj=>h1 (j+1) (by omega)) h2
def KC{p:Pt}:∀{l:List S} (ins:Bool),(∀j,j<l.length->onR (az l j) p=false)->lz p l ins=if l.foldl (λb s=>b !=jZ s p) ins=true then 2 else 0
 |[],ins,_=>rfl
 |s::l,ins,h1=>by
  unfold lz;rw[show onR s p=false from h1 0 (by simp)];exact KC (l:=l) _ (λj hj=>h1 (j+1) (by grind))
def pr(r:aD)(p:Pt)(k:Nat):Bool:=cD p ((aJ r).take k)
def OA{r:aD}(h:dB r=true){j:Nat}(hj:j<(aJ r).length):bd 2000 (az (aJ r) j).a/\bd 2000 (az (aJ r) j).b:=by obtain⟨h1,h2,h3,_⟩:=(JD r).1 h;rw[wF r (by omega)]at hj;rw[wR (by omega) hj];exact⟨ma h3 hj,ma h3 (bk _ (by omega))⟩
def nxR(r:aD)(i k:Nat):Bool:=decide (k=i+1\/(i=0/\k=r.length-1))
abbrev nE(r:aD)(i:Nat):S:=az (aJ r) i
def upR(e:S)(p:Pt):Bool:=decide (e.a.y*p.den<=p.y)&&decide (p.y<e.b.y*p.den)
def dnR(e:S)(p:Pt):Bool:=decide (e.b.y*p.den<=p.y)&&decide (p.y<e.a.y*p.den)
def tp(r:aD)(i:Nat):Prop:=turn (aEn r i) (aEn r ((i+1) % r.length)) (aEn r ((i+2) % r.length))≠0
noncomputable def c91:Con:=con (a1 (aL .V)) (λr=>[r.length<=100000]) (λr=> .bool (dB r))
def k91:c91.Okz 91:=bH Ql (λr=>[jP 4 [3<=r.length,r.length<=40,near r=true],cnt 5 4 r.length (aO (tp r)),cnt 11 6 r.length (aO λi=>∀k,i<k->k<r.length->kc r i k=true) λi=>[(14,.mk Nat (λF _=>ms F 7) [] (λk=>[i<k,k<=r.length,∀j,i<j->j<k->kc r i j=true]) (λk=>[(7,.iqz (k:Int))]) bg (λk=>r.length-k) λk=>[jb 17 8 (nxR r i k),jb 19 97 (!kc r i k)])]]
  ) (λ_=>⟨_,rfl⟩) λr hp=>bC (aA (aJ r) λF=>aA (r.length:Int) λO=>((O<3->false=dB r)/\
  (¬O<3->(40<O->false=dB r)/\
   (¬40<O->r.length<=100000/\((!near r)=true->false=dB r)/\
    ((!near r)=false->(3:Nat)<=r.length/\r.length<=40/\near r=true))))/\
 (∀y:Unit,(3:Nat)<=r.length/\r.length<=40/\near r=true->(0=(0:Int)/\(0:Nat)<=r.length/\aO (tp r) 0)/\
  (∀x:Nat,aA (x+1) λA=>aA (x:Int) λC=>aA (aEn r x) λI=>aA (aEn r (A % r.length)) λK=>aA (aEn r ((x+2) % r.length)) λM=>x<=r.length/\aO (tp r) x->(C<r.length->ix C r.length/\aH (C+1)/\O≠0/\ix ((A % r.length:Nat):Int) r.length/\aH (C+2)/\O≠0/\ix (((x+2) % r.length:Nat):Int) r.length/\bd 1000000000 I/\bd 1000000000 K/\bd 1000000000 M/\(turn I K M=0->false=dB r)/\
    (¬turn I K M=0->aH (C+1)/\C+1=((x+1:Nat):Int)/\x+1<=r.length/\aO (tp r) A/\r.length-A<r.length-x))/\
   (¬C<r.length->r.length<=100000/\(0=(0:Int)/\(0:Nat)<=r.length/\aO (λi=>∀k:Nat,i<k->k<r.length->kc r i k=true) 0)/\
    (∀x_1:Nat,aA (x_1:Int) λD=>aA (az F x_1) λG=>aA (x_1+1:Nat) λN=>x_1<=r.length/\aO (λi=>∀k:Nat,i<k->k<r.length->kc r i k=true) x_1->(D<r.length->aH (D+1)/\(D+1=(N:Int)/\x_1<x_1+1/\x_1+1<=r.length/\(∀j:Nat,x_1<j->j<x_1+1->kc r x_1 j=true))/\
      (∀x_2:Nat,aA (x_2:Int) λE=>aA (az F x_2) λH=>aA (!nxR r x_1 x_2) λP=>aA (!kc r x_1 x_2) λQ=>x_1<x_2/\x_2<=r.length/\(∀j:Nat,x_1<j->j<x_2->kc r x_1 j=true)->(E<r.length->(aH (D+1)/\(E=x_1+1->true=nxR r x_1 x_2)/\
         (¬E=x_1+1->(D=0->aH (O-1)/\decide (E=r.length-1)=nxR r x_1 x_2)/\
          (¬D=0->false=nxR r x_1 x_2)))/\
        (∀y_1:Unit,ix D F.length/\ix E F.length/\((nxR r x_1 x_2=true->(¬cY G H=1->true=Q)/\
           (¬(¬cY G H=1)->(P=true->decide (¬cY G H=0)=Q)/\
            (P=false->false=Q)))/\
          (nxR r x_1 x_2=false->(P=true->decide (¬cY G H=0)=Q)/\
           (P=false->false=Q)))/\
         (∀y_2:Unit,(Q=true->false=dB r)/\
          (Q=false->aH (E+1)/\E+1=((x_2+1:Nat):Int)/\x_1<x_2+1/\x_2+1<=r.length/\(∀j:Nat,x_1<j->j<x_2+1->kc r x_1 j=true)/\r.length-(x_2+1)<r.length-x_2))))/\
       (¬E<r.length->aH (D+1)/\D+1=(N:Int)/\x_1+1<=r.length/\aO (λi=>∀k:Nat,i<k->k<r.length->kc r i k=true) (x_1+1)/\r.length-(x_1+1)<r.length-x_1)))/\
     (¬D<r.length->near r=true/\r.length<=100000/\decide (0<area r)=dB r)))))) (by kernel_rfl) (by
  change r.length<=100000 at hp;have iff:=JD r;have hf:(dB r=true->False)->false=dB r:=λh=>by grind
  have el:3<=r.length->(aJ r).length=r.length:=λh=>wF r (by omega);have en:near r=true->∀i,i<r.length->bd 1000000000 (aEn r i):=λh i hi=>ma h hi;have hp':3<=r.length->∀i k,i<k->k<r.length->kc r i k=if nxR r i k=true then cY (az (aJ r) i) (az (aJ r) k)==1 else cY (az (aJ r) i) (az (aJ r) k)==0:=λh i k h1 h2=>by unfold kc nxR;rw[wR (by omega) (by omega),wR (by omega) (by omega)];grind
  have hE:3<=r.length->r.length<=40->near r=true->∀x y:Nat,¬(x:Int)<r.length->¬(y:Int)<r.length->aO (tp r) x->aO (λi=>∀k:Nat,i<k->k<r.length->kc r i k=true) y->decide (0<area r)=dB r:=λh1 h2 h3 x y hx hy h4 h5=>by rw[eY,iff,decide_eq_true_eq];exact⟨λh=>⟨h1,h2,h3,λi hi=>h4 i (by omega),λi k hi hk=>h5 i (by omega) k hi hk,h⟩,λh=>h.2.2.2.2.2⟩
  repeat' first|with_reducible apply cF|with_reducible intro
  all_goals repeat with_reducible cases‹_/\_›
  all_goals first|assumption|rfl|exact trivial|exact nb ‹_› |exact nb' ‹_› |omega|exact ip (by omega)|(unfold ix;omega)|(unfold aH;omega)|exact ii _|exact cP ‹_› ‹_› |(refine cP ‹_› ?_;simp_all;done)|exact en ‹_› _ (by omega)|exact en ‹_› _ (bk _ (by omega))|(rw[el ‹_›];exact dr (by omega))|exact hE ‹_› ‹_› ‹_› _ _ ‹_› ‹_› ‹_› ‹_› |(refine hf λh=> ?_;have h:=iff.1 h;first|omega|(exact h.2.2.2.1 _ (by omega) ‹_=0›)|(have h2:=h.2.2.2.2.1 _ _ ‹_› (by omega);simp_all;done)|(simp_all;done))|(refine cP ‹_› ?_;grind)|(unfold nxR;exact(decide_eq_true (by omega)).symm)|(unfold nxR;exact(decide_eq_false (by omega)).symm)|(unfold nxR;exact decide_eq_decide.2 (by omega))|(rw[hp' ‹_› _ _ ‹_› (by omega),‹nxR _ _ _=_›];grind)|(intro j h1 h2;omega)|grind)
noncomputable def t91:=Ql.adk k91
noncomputable def aEj:Con:=con (ac (aL .V) (a1 aT)) (λ(r,_)=>[r.length<=100000]) (λ(r,p)=> .iqz (iC r p))
def aCU:aEj.Okz 103:=bH t91 (λ(r,p)=>[jP 3 [dB r=true,dO p=true],lp 6 7 (aJ r).length (λk=>[aO (λj=>onR (nE r j) p=false) k]) [] (λk=>[(6,.bool (pr r p k))]) bg λk=>[(10012,.mk Unit (λ_ _=>some ()) [] bg (λ_=>[(10,.bool (upR (nE r k) p)),(11,.bool (dnR (nE r k) p))]) bg (λ_=>0) λ_=>[]),jb 13 97 (jZ (nE r k) p)]]
  ) (λ(_,_)=>⟨_,rfl⟩) λ(r,p) hp=>bC (aA (aJ r) λD=>aA (!dB r) λH=>aA (!dO p) λI=>(r.length<=100000/\(H=true->0=iC r p)/\
  (H=false->(I=true->0=iC r p)/\
   (I=false->dB r=true/\dO p=true)))/\
 (∀y:Unit,dB r=true/\dO p=true->r.length<=100000/\(0=(0:Int)/\false=pr r p 0/\(0:Nat)<=D.length/\aO (λj=>onR (nE r j) p=false) 0)/\
  (∀x:Nat,aA (x+1) λA=>aA (nE r x) λB=>aA (x:Int) λC=>aA (fP B p) λE=>aA (B.a.y*p.den) λF=>aA (B.b.y*p.den) λG=>aA ((x+1:Nat):Int) λJ=>x<=D.length/\aO (λj=>onR (nE r j) p=false) x->(C<D.length->ix C D.length/\bd 10000 B.a/\bd 10000 B.b/\PtB p/\(onR B p=true->1=iC r p)/\
    (onR B p=false->ix C D.length/\ix C D.length/\(aH F/\(B.a.y*p.den<=p.y->aH G/\aH G/\(B.b.y*p.den<=p.y->aH F/\decide (p.y<B.b.y*p.den)=upR B p/\decide (p.y<B.a.y*p.den)=dnR B p)/\
       (¬B.b.y*p.den<=p.y->decide (p.y<B.b.y*p.den)=upR B p/\false=dnR B p))/\
      (¬B.a.y*p.den<=p.y->aH G/\(B.b.y*p.den<=p.y->aH F/\false=upR B p/\decide (p.y<B.a.y*p.den)=dnR B p)/\
       (¬B.b.y*p.den<=p.y->false=upR B p/\false=dnR B p)))/\
     (∀y_1:Unit,((upR B p=true->bd 10000 B.a/\bd 10000 B.b/\PtB p/\(0<sgn E->true=jZ B p)/\
        (¬0<sgn E->(dnR B p=true->bd 10000 B.a/\bd 10000 B.b/\PtB p/\decide (sgn E<0)=jZ B p)/\
         (dnR B p=false->false=jZ B p)))/\
       (upR B p=false->(dnR B p=true->bd 10000 B.a/\bd 10000 B.b/\PtB p/\decide (sgn E<0)=jZ B p)/\
        (dnR B p=false->false=jZ B p)))/\
      (∀y_2:Unit,(jZ B p=true->aH (C+1)/\C+1=J/\(!pr r p x)=pr r p A/\x+1<=D.length/\aO (λj=>onR (nE r j) p=false) A/\D.length-A<D.length-x)/\
       (jZ B p=false->aH (C+1)/\C+1=J/\pr r p x=pr r p A/\x+1<=D.length/\aO (λj=>onR (nE r j) p=false) A/\D.length-A<D.length-x)))))/\
   (¬C<D.length->(pr r p x=true->2=iC r p)/\
    (pr r p x=false->0=iC r p))))) (by kernel_rfl) (by
  change r.length<=100000 at hp;have e0:pr r p 0=false:=rfl;have es:∀k,k<(aJ r).length->pr r p (k+1)=(pr r p k !=jZ (nE r k) p):=λk h=>Vp h;have eh:∀e,jZ e p=(upR e p&&decide (0<sgn (fP e p))||dnR e p&&decide (sgn (fP e p)<0)):=λe=>rfl;have hw0:dB r=false\/dO p=false->0=iC r p:=λh=>by unfold iC;grind
  have hw:dB r=true->dO p=true->iC r p=lz p (aJ r) false:=λh1 h2=>by unfold iC;simp[h1,h2]
  have eb:dB r=true->∀j,j<(aJ r).length->bd 2000 (nE r j).a/\bd 2000 (nE r j).b:=λh j hj=>OA h hj;have el:(aJ r).length<=100000:=by unfold aJ;split<;>simp<;>omega
  have ey:dB r=true->dO p=true->∀j,j<(aJ r).length->aH ((nE r j).a.y*p.den)/\aH ((nE r j).b.y*p.den):=λh1 h2 j hj=>⟨bT (by have:=(PtB.of h2).off (eb h1 j hj).1.mono;omega),bT (by have:=(PtB.of h2).off (eb h1 j hj).2.mono;omega)⟩;have s1:∀j,j<(aJ r).length->aO (λj=>onR (nE r j) p=false) j->onR (nE r j) p=true->lz p (aJ r) false=1:=λj h1 h2 h3=>LY false h1 h2 h3;have s2:∀k:Nat,¬(k:Int)<(aJ r).length->k<=(aJ r).length->aO (λj=>onR (nE r j) p=false) k->lz p (aJ r) false=if pr r p k=true then 2 else 0:=λk h1 h2 h=>by
   obtain rfl:k=(aJ r).length:=by omega
   rw[KC false h];unfold pr cD;grind
  repeat' first|with_reducible apply cF|with_reducible intro
  all_goals repeat with_reducible cases‹_/\_›
  all_goals first|assumption|rfl|exact trivial|exact nb ‹_› |exact nb' ‹_› |omega|exact ip (by omega)|(unfold ix;omega)|(unfold aH;omega)|exact ii _|exact cP ‹_› ‹_› |(refine cP ‹_› ?_;simp_all;done)|exact(eb ‹_› _ (by omega)).1.mono|exact(eb ‹_› _ (by omega)).2.mono|exact(ey ‹_› ‹_› _ (by omega)).1|exact(ey ‹_› ‹_› _ (by omega)).2|exact PtB.of ‹_› |exact hw0 (.inl (nb' ‹_›))|exact hw0 (.inr (nb' ‹_›))|(rw[hw ‹_› ‹_›,s1 _ (by omega) ‹_› ‹_›])|(rw[hw ‹_› ‹_›,s2 _ ‹_› ‹_› ‹_›,‹pr _ _ _=_›];rfl)|(rw[es _ (by omega),‹jZ _ _=_›];simp;done)|(rw[eh,‹upR _ _=_›,‹dnR _ _=_›];grind)|(rw[eh,‹upR _ _=_›];simp_all;done)|(unfold upR;simp_all;done)|(unfold dnR;simp_all;done)|grind)
noncomputable def RS:=t91.adk aCU
noncomputable def c36:Con:=con (ac (aL .V) (a1 aV)) (λ(r,_)=>[r.length<=100000]) (λ(r,v)=> .iqz (kV r v)
 )
def k36:c36.Okz 36:=bH RS (λ(_,_)=>[]) (λ(_,_)=>⟨_,rfl⟩) λ(r,v) hp=>bC (aA (!ag v 8000) λA=>(0:Int)<=8000/\(8000:Int)<=1000000000000/\(A=true->0=kV r v)/\
 (A=false->r.length<=100000/\iC r (fT v)=kV r v)) (by kernel_rfl) (by change r.length<=100000 at hp;unfold kV;grind)
noncomputable def t36:=RS.adk k36
def tR(r:aD):∀k,dp r k<=k
 |0=>bQ _
 |k+1=>by unfold dp;have:=tR r k;grind
def zO{r:aD}{k:Nat}(h:0<k):dp r k<k:=Geo.zO r k h
def Ys{a b:aD}{k:Nat}(h:¬aEn a k=aEn b k):false=(a==b):=by grind
def XP{a b:aD}(hl:(a.length:Int)=b.length){k:Nat}(hk:¬(k:Int)<a.length)(h:aO (λj=>aEn a j=aEn b j) k):true=(a==b):=by symm;rw[beq_iff_eq];refine rH (by omega) λj h1 h2=> ?_;rw[<-nth_eq h1,<-nth_eq h2];exact h j (by omega)
noncomputable def c23:Con:=con (ac (aL .V) (a1 (aL .V))) (λ(a,_)=>[a.length<=1000000]) (λ(a,b)=> .bool (a==b))
def k23:c23.Okz 23:=bH t36 (λ(a,b)=>[cnt 4 5 a.length (aO λj=>aEn a j=aEn b j)]
  ) (λ(_,_)=>⟨_,rfl⟩) λ(a,b) hp=>bC (aA (a==b) λA=>aA (a.length:Int) λC=>(¬C=b.length->false=A)/\
 (¬(¬C=b.length)->(0=(0:Int)/\(0:Nat)<=a.length/\aO (λj=>aEn a j=aEn b j) 0)/\
  (∀x:Nat,aA (x:Int) λB=>x<=a.length/\aO (λj=>aEn a j=aEn b j) x->(B<a.length->ix B a.length/\ix B b.length/\(¬(aEn a x)=(aEn b x)->false=A)/\
    (¬(¬(aEn a x)=(aEn b x))->aH (B+1)/\B+1=((x+1:Nat):Int)/\x+1<=a.length/\aO (λj=>aEn a j=aEn b j) (x+1)/\a.length-(x+1)<a.length-x))/\
   (¬B<a.length->true=A)))) (by kernel_rfl) (by
  change a.length<=1000000 at hp
  with_reducible ((repeat' first|apply cF|intro);all_goals repeat cases‹_/\_›)
  all_goals first|rfl|exact Ys ‹¬aEn a _=_› |exact XP (by omega) ‹_› ‹_› |grind)
noncomputable def t23:=t36.adk k23
noncomputable def c76:Con:=con (ac (aL .V) (a1 (aL .V))) (λ(a,_)=>[a.length<=1000000]) (λ(a,b)=> .bool (a==b)
 )
def k76:c76.Okz 76:=bH t23 (λ(_,_)=>[]) (λ(_,_)=>⟨_,rfl⟩) λ(a,b) hp=>bC (a.length<=1000000/\(a==b)=(a==b)) (by kernel_rfl) (by change a.length<=1000000 at hp;grind)
noncomputable def t76:=t23.adk k76
def Fit(s:Shape):Prop:=s.outer.length<=1000/\s.holes.length<=900/\∀r∈s.holes,r.length<=1000
def Fit.rings{s:Shape}(hf:Fit s):∀r∈aE s,r.length<=1000:=by
 intro r hr;unfold aE at hr;rcases bO.1 hr with rfl|hr
 .exact hf.1
 .exact hf.2.2 r hr
def Fit.ring{s:Shape}(hf:Fit s){k:Nat}(hk:k<(aE s).length):(aC (aE s) k).length<=1000:=hf.rings _ (gG hk)
def Fit.hole{s:Shape}(hf:Fit s){k:Nat}(hk:k<s.holes.length):(aC s.holes k).length<=1000:=hf.2.2 _ (gG hk)
def AM(r:aD):(aJ r).length<=r.length:=by unfold aJ;grind
def iR(a b:aD)(al:Bool):Bool:=if al=true then o6 a b else km a b
def Uh{a b:aD}{al:Bool}{j:Nat}(hj:j<a.length)(h:(kV b (aEn a j)==2)≠al):iR a b al= !al:=by
 unfold iR o6 km;cases al with
 |true=>rw[if_pos rfl];exact yk.2 ⟨_,dD hj,by simpa using h⟩
 |false=>rw[if_neg (by simp)];exact lO.2 ⟨_,dD hj,by simpa using h⟩
def Tm{a b:aD}{al:Bool}(h:∀j,j<a.length->(kV b (aEn a j)==2)=al):iR a b al=al:=by
 unfold iR o6 km;cases al with
 |true=>
  rw[if_pos rfl];refine bZ.2 λx hx=> ?_;obtain⟨j,hj,rfl⟩:=jf hx;rw[<-nth_eq hj];exact h j hj
 |false=>
  rw[if_neg (by simp)];refine IN.2 λx hx=> ?_;obtain⟨j,hj,rfl⟩:=jf hx;rw[<-nth_eq hj,h j hj];simp
def jo(s:Shape)(i:Nat):Bool:=dB (aC s.holes i)&& !iD (aC s.holes i) s.outer&&o6 (aC s.holes i) s.outer
def io(s:Shape)(i k:Nat):Bool:= !iD (aC s.holes i) (aC s.holes k)&& !km (aC s.holes i) (aC s.holes k)&& !km (aC s.holes k) (aC s.holes i)
def jV(s:Shape)(k:Nat):Nat:=s.outer.length+((s.holes.take k).map fW).sum
def DG(s:Shape):jV s 0=s.outer.length:=by simp[jV]
def DH{s:Shape}{k:Nat}(h:k<s.holes.length):jV s (k+1)=jV s k+(aC s.holes k).length:=by unfold jV;rw[rL,eZ h,dQ,yW,jM h,<-rG];rfl
def Jw(s:Shape):jV s s.holes.length=fN s:=by unfold jV fN aE;grind
def WU{s:Shape}(hf:Fit s)(k:Nat)(hk:k<=s.holes.length):jV s k<=1000*(k+1):=by
 induction k with
 |zero=>have:=hf.1;rw[DG];omega
 |succ k ih=>
  rw[DH (by omega)];have h1:=ih (by omega);have h2:=hf.2.2 _ (gG (show k<s.holes.length by omega));omega
def y7(s:Shape):aa s=true↔s.holes.length<=6/\dB s.outer=true/\(∀i,i<s.holes.length->jo s i=true/\∀k,k<i->io s i k=true)/\fN s<=80:=by unfold aa;simp only[bm,decide_eq_true_eq,bZ,bz];unfold jo io;grind
def Xl{a b:aD}{i j:Nat}(h:¬cY (az (aJ a) i) (az (aJ b) j)=0)(hi:i<(aJ a).length)(hj:j<(aJ b).length):true=iD a b:=by unfold iD;symm;exact lO.2 ⟨_,Ly hi,lO.2 ⟨_,Ly hj,by simpa using h⟩⟩
def B9(a b:aD)(i:Nat):Prop:=∀j,j<(aJ b).length->cY (az (aJ a) i) (az (aJ b) j)=0
def Xk{a b:aD}{k:Nat}(hk:¬(k:Int)<(aJ a).length)(h:aO (B9 a b) k):false=iD a b:=by unfold iD;symm;refine IN.2 λx hx=> ?_;obtain⟨i,hi,rfl⟩:=jf hx;rw[<-jD hi,Bool.not_eq_true];refine IN.2 λy hy=> ?_;obtain⟨j,hj,rfl⟩:=jf hy;rw[<-jD hj,h i (by omega) j hj];decide
def ZD{a b:aD}{i k:Nat}(hk:¬(k:Int)<(aJ b).length)(h:aO (λj=>cY (az (aJ a) i) (az (aJ b) j)=0) k):B9 a b i:=λj hj=>h j (by omega)
noncomputable def aD5:Con:=con (ac (aL .V) (a1 (aL .V))) (λ(a,b)=>[a.length<=100000,b.length<=100000]) (λ(a,b)=> .bool (iD a b))
def aCF:aD5.Okz 128:=bH t76 (λ(a,b)=>[cnt 3 7 (aJ a).length (aO (B9 a b)) λi=>[cnt 6 8 (aJ b).length (aO λj=>cY (az (aJ a) i) (az (aJ b) j)=0)]]
  ) (λ(_,_)=>⟨_,rfl⟩) λ(a,b) hp=>bC (aA (B9 a b) λB=>aA (aJ a) λD=>aA (aJ b) λF=>a.length<=100000/\b.length<=100000/\(0=(0:Int)/\(0:Nat)<=D.length/\aO B 0)/\
 (∀x:Nat,aA (x:Int) λA=>aA (az D x) λE=>x<=D.length/\aO B x->(A<D.length->(0=(0:Int)/\(0:Nat)<=F.length/\aO (λj=>cY E (az F j)=0) 0)/\
   (∀x_1:Nat,aA (x_1:Int) λC=>x_1<=F.length/\aO (λj=>cY E (az F j)=0) x_1->(C<F.length->ix A D.length/\ix C F.length/\(¬cY E (az F x_1)=0->true=iD a b)/\
     (¬(¬cY E (az F x_1)=0)->aH (C+1)/\C+1=((x_1+1:Nat):Int)/\x_1+1<=F.length/\aO (λj=>cY E (az F j)=0) (x_1+1)/\F.length-(x_1+1)<F.length-x_1))/\
    (¬C<F.length->aH (A+1)/\A+1=((x+1:Nat):Int)/\x+1<=D.length/\aO B (x+1)/\D.length-(x+1)<D.length-x)))/\
  (¬A<D.length->false=iD a b))) (by kernel_rfl) (by
  change a.length<=100000/\b.length<=100000 at hp;have ha:=AM a;have hb:=AM b
  repeat' first|with_reducible apply cF|with_reducible intro
  all_goals repeat with_reducible cases‹_/\_›
  all_goals first|assumption|rfl|exact trivial|exact nb ‹_› |exact nb' ‹_› |omega|exact ip (by omega)|(unfold ix;omega)|(unfold aH;omega)|exact ii _|exact cP ‹_› ‹_› |(refine cP ‹_› ?_;simp_all;done)|exact Xl ‹¬cY _ _=0› (by omega) (by omega)|exact Xk ‹_› ‹_› |exact cP ‹_› (ZD ‹_› ‹_›)|(refine cP ‹_› ?_;exact nM ‹¬¬_›)|grind)
noncomputable def RE:=t76.adk aCF
def inQ(a b:aD)(al:Bool)(j:Nat):Prop:=(kV b (aEn a j)==2)=al
noncomputable def aD4:Con:=con (ac (aL .V) (ac (aL .V) (a1 aB))) (λ(a,b,_)=>[a.length<=100000,b.length<=100000]) (λ(a,b,al)=> .bool (iR a b al))
def aCE:aD4.Okz 129:=bH RE (λ(a,b,al)=>[cnt 2 7 a.length (aO (inQ a b al))]
  ) (λ(_,_,_)=>⟨_,rfl⟩) λ(a,b,al) hp=>bC (aA (inQ a b al) λB=>(0=(0:Int)/\(0:Nat)<=a.length/\aO B 0)/\
 (∀x:Nat,aA (x:Int) λA=>aA (decide (kV b (aEn a x)=2) !=al) λC=>x<=a.length/\aO B x->(A<a.length->ix A a.length/\b.length<=100000/\(C=true->(!al)=iR a b al)/\
   (C=false->aH (A+1)/\A+1=((x+1:Nat):Int)/\x+1<=a.length/\aO B (x+1)/\a.length-(x+1)<a.length-x))/\
  (¬A<a.length->al=iR a b al))) (by kernel_rfl) (by
  change a.length<=100000/\b.length<=100000 at hp;have c1:∀j:Nat,(decide (kV b (aEn a j)=2) !=al)=true->j<a.length->(!al)=iR a b al:=λj h hj=>(Uh hj (bne_iff_ne.1 h)).symm;have c2:∀j:Nat,(decide (kV b (aEn a j)=2) !=al)=false->inQ a b al j:=λj h=>bne_eq_false_iff_eq.1 h;have e2:∀k:Nat,¬(k:Int)<a.length->aO (inQ a b al) k->iR a b al=al:=λk h1 h2=>Tm λj hj=>h2 j (by omega)
  repeat' first|with_reducible apply cF|with_reducible intro
  all_goals repeat with_reducible cases‹_/\_›
  all_goals first|assumption|rfl|exact trivial|exact nb ‹_› |exact nb' ‹_› |omega|exact ip (by omega)|(unfold ix;omega)|(unfold aH;omega)|exact ii _|exact cP ‹_› ‹_› |(refine cP ‹_› ?_;simp_all;done)|exact(e2 _ ‹_› ‹_›).symm|grind|exact cP ‹_› (c2 _ ‹_›)|grind)
noncomputable def RD:=RE.adk aCE
noncomputable def c58:Con:=con (a1 aSh) (λs=>[Fit s]) (λs=> .bool (aa s))
def k58:c58.Okz 58:=bH RD (λs=>[jP 3 [s.holes.length<=6,dB s.outer=true],lp 5 4 s.holes.length (λk=>[aO (λi=>jo s i=true/\∀k,k<i->io s i k=true) k]) [] (λk=>[(3,.iqz (jV s k:Int))]) bg λi=>[jP 11 [jo s i=true],cnt 12 6 i (aO λk=>io s i k=true)]]
  ) (λ_=>⟨_,rfl⟩) λs hp=>bC (aA (!dB s.outer) λF=>aA (s.holes.length:Int) λH=>((6<H->false=aa s)/\
  (¬6<H->s.outer.length<=100000/\(F=true->false=aa s)/\
   (F=false->s.holes.length<=6/\dB s.outer=true)))/\
 (∀y:Unit,s.holes.length<=6/\dB s.outer=true->(0=(0:Int)/\(s.outer.length:Int)=jV s 0/\(0:Nat)<=s.holes.length/\aO (λi=>jo s i=true/\(∀k:Nat,k<i->io s i k=true)) 0)/\
  (∀x:Nat,aA (x:Int) λA=>aA (jV s x:Int) λC=>aA (aC s.holes x) λD=>aA (!dB D) λE=>aA (!iR D s.outer true) λI=>x<=s.holes.length/\aO (λi=>jo s i=true/\(∀k:Nat,k<i->io s i k=true)) x->(A<s.holes.length->ix A s.holes.length/\aH (C+D.length)/\(D.length<=100000/\(E=true->false=aa s)/\
     (E=false->D.length<=100000/\s.outer.length<=100000/\(iD D s.outer=true->false=aa s)/\
      (iD D s.outer=false->D.length<=100000/\s.outer.length<=100000/\(I=true->false=aa s)/\
       (I=false->jo s x=true))))/\
    (∀y_1:Unit,jo s x=true->(0=(0:Int)/\(0:Nat)<=x/\aO (λk=>io s x k=true) 0)/\
     (∀x_1:Nat,aA (x_1:Int) λB=>aA (aC s.holes x_1) λG=>x_1<=x/\aO (λk=>io s x k=true) x_1->(B<x->ix B s.holes.length/\D.length<=100000/\G.length<=100000/\(iD D G=true->false=aa s)/\
       (iD D G=false->ix B s.holes.length/\D.length<=100000/\G.length<=100000/\(iR D G false=true->false=aa s)/\
        (iR D G false=false->ix B s.holes.length/\G.length<=100000/\D.length<=100000/\(iR G D false=true->false=aa s)/\
         (iR G D false=false->aH (B+1)/\B+1=((x_1+1:Nat):Int)/\x_1+1<=x/\aO (λk=>io s x k=true) (x_1+1)/\x-(x_1+1)<x-x_1))))/\
      (¬B<x->aH (A+1)/\A+1=((x+1:Nat):Int)/\C+D.length=jV s (x+1)/\x+1<=s.holes.length/\aO (λi=>jo s i=true/\(∀k:Nat,k<i->io s i k=true)) (x+1)/\s.holes.length-(x+1)<s.holes.length-x))))/\
   (¬A<s.holes.length->decide (C<=80)=aa s)))) (by kernel_rfl) (by
  change Fit s at hp;have hf:(aa s=true->False)->false=aa s:=λh=>by grind
  have n1:∀i,jo s i=false->i<s.holes.length->false=aa s:=λi h hi=>hf λhv=>by rw[(((y7 s).1 hv).2.2.1 i hi).1]at h;cases h
  have n2:∀i k,io s i k=false->k<i->i<s.holes.length->false=aa s:=λi k h hk hi=>hf λhv=>by rw[(((y7 s).1 hv).2.2.1 i hi).2 k hk]at h;cases h
  have a1:∀i,(!dB (aC s.holes i))=true->i<s.holes.length->false=aa s:=λi h=>n1 i (by unfold jo;grind);have a2:∀i,iD (aC s.holes i) s.outer=true->i<s.holes.length->false=aa s:=λi h=>n1 i (by unfold jo;rw[h];simp);have a3:∀i,(!iR (aC s.holes i) s.outer true)=true->i<s.holes.length->false=aa s:=λi h=>n1 i (by unfold jo;rw[show o6 (aC s.holes i) s.outer=false from nb' h];simp);have a4:∀i,(!dB (aC s.holes i))=false->iD (aC s.holes i) s.outer=false->(!iR (aC s.holes i) s.outer true)=false->jo s i=true:=λi h1 h2 h3=>by unfold jo;rw[nb h1,h2,show o6 (aC s.holes i) s.outer=true from nb h3];rfl
  have b1:∀i k,iD (aC s.holes i) (aC s.holes k)=true->k<i->i<s.holes.length->false=aa s:=λi k h=>n2 i k (by unfold io;rw[h];rfl);have b2:∀i k,iR (aC s.holes i) (aC s.holes k) false=true->k<i->i<s.holes.length->false=aa s:=λi k h=>n2 i k (by unfold io;rw[show km (aC s.holes i) (aC s.holes k)=true from h];simp);have b3:∀i k,iR (aC s.holes k) (aC s.holes i) false=true->k<i->i<s.holes.length->false=aa s:=λi k h=>n2 i k (by unfold io;rw[show km (aC s.holes k) (aC s.holes i)=true from h];simp);have b4:∀i k,iD (aC s.holes i) (aC s.holes k)=false->iR (aC s.holes i) (aC s.holes k) false=false->iR (aC s.holes k) (aC s.holes i) false=false->io s i k=true:=λi k h1 h2 h3=>by unfold io;rw[h1,show km (aC s.holes i) (aC s.holes k)=false from h2,show km (aC s.holes k) (aC s.holes i)=false from h3];rfl
  have b5:∀i k:Nat,¬(k:Int)<i->aO (λk=>io s i k=true) k->∀k,k<i->io s i k=true:=λi k h1 h2 j hj=>h2 j (by omega);have e0:=DG s;have es:∀k,k<s.holes.length->(jV s k:Int)+(aC s.holes k).length=jV s (k+1):=λk h=>by rw[DH h];rfl
  have el:∀k,k<s.holes.length->aH ((jV s k:Int)+(aC s.holes k).length):=λk h=>by rw[es k h];exact bT (by have:=WU hp (k+1) (by omega);have:=hp.2.1;omega)
  have ef:s.holes.length<=6->dB s.outer=true->∀k:Nat,¬(k:Int)<s.holes.length->k<=s.holes.length->aO (λi=>jo s i=true/\∀k,k<i->io s i k=true) k->decide ((jV s k:Int)<=80)=aa s:=λh1 h2 k h3 h4 h5=>by
   obtain rfl:k=s.holes.length:=by omega
   rw[Jw,eY,y7,decide_eq_true_eq];exact⟨λh=>⟨h1,h2,h5,by omega⟩,λh=>by omega⟩
  have ho:=hp.1;have hh:= @Fit.hole s hp
  repeat' first|with_reducible apply cF|with_reducible intro
  all_goals repeat with_reducible cases‹_/\_›
  all_goals first|assumption|rfl|exact trivial|exact nb ‹_› |exact nb' ‹_› |omega|exact ip (by omega)|(unfold ix;omega)|(unfold aH;omega)|exact ii _|exact cP ‹_› ‹_› |(refine cP ‹_› ?_;simp_all;done)|exact cR (hh (by omega)) (by decide)|exact el _ (by omega)|exact es _ (by omega)|exact ef ‹_› ‹_› _ ‹_› ‹_› ‹_› |exact a1 _ ‹_› (by omega)|exact a2 _ ‹_› (by omega)|exact a3 _ ‹_› (by omega)|exact a4 _ ‹_› ‹_› ‹_› |exact b1 _ _ ‹_› (by omega) (by omega)|exact b2 _ _ ‹_› (by omega) (by omega)|exact b3 _ _ ‹_› (by omega) (by omega)|exact cP ‹_› (b4 _ _ ‹_› ‹_› ‹_›)|exact cP ‹_› ⟨‹_›,b5 _ _ ‹_› ‹_›⟩|exact hf λh=>by have h:=(y7 s).1 h;first|omega|grind|grind)
noncomputable def t58:=RD.adk k58
def xb(s:Shape)(i:Nat):List aD:=qq ((s.holes.take i).map co)
def It(s:Shape)(i:Nat):(xb s i).Perm ((s.holes.take i).map co):=lV _
def Sr(s:Shape)(i:Nat):(xb s i).length<=s.holes.length:=by rw[(It s i).length_eq,cL,List.length_take];omega
def UK{s:Shape}{i:Nat}{r:aD}(h:r∈xb s i):∃q∈s.holes,r=co q:=by have:=(It s i).mem_iff.1 h;grind
def hQ(s:Shape)(p:Pt)(j:Nat):Prop:=iC (aC s.holes j) p≠2/\iC (aC s.holes j) p≠1
def DX:∀{a b:aD} {k:Nat},(∀j,j<k->bi (aEn a j) (aEn b j)=0)->bi (aEn a k) (aEn b k)≠0->k<a.length->k<b.length->cQ a b=bi (aEn a k) (aEn b k)
 |[],_,k,_,_,h,_=>by simp at h
 |_::_,[],k,_,_,_,h=>by simp at h
 |x::a,y::b,0,_,h,_,_=>by
  have e:bi x y≠0:=h;unfold cQ;rw[if_pos e];rfl
 |x::a,y::b,k+1,h3,h4,h1,h2=>by
  have e:bi x y=0:=h3 0 (by omega);unfold cQ;rw[if_neg (λhne=>hne e)];exact DX (a:=a) (b:=b) (k:=k) (λj hj=>h3 (j+1) (by omega)) h4 (by grind) (by grind)
def zF:∀{a b:aD} {k:Nat},k<=a.length->k<=b.length->(k=a.length\/k=b.length)->(∀j,j<k->bi (aEn a j) (aEn b j)=0)->cQ a b=sgn ((a.length:Int)-(b.length:Int))
 |[],[],_,_,_,_,_=>rfl
 |[],y::b,k,_,_,_,_=>by unfold cQ sgn;grind
 |x::a,[],k,_,_,_,_=>by unfold cQ sgn;grind
 |x::a,y::b,0,_,_,h,_=>by simp at h
 |x::a,y::b,k+1,h1,h2,h3,h4=>by
  have e:bi x y=0:=h4 0 (by omega);unfold cQ;rw[if_neg (λhne=>hne e)];rw[zF (a:=a) (b:=b) (k:=k) (by grind) (by grind) (by grind) (λj hj=>h4 (j+1) (by omega))];grind
noncomputable def c27:Con:=con (ac (aL .V) (a1 (aL .V))) (λ(a,b)=>[a.length<=1000000,b.length<=1000000]) (λ(a,b)=> .iqz (cQ a b))
def k27:c27.Okz 27:=bH t58 (λ(a,b)=>[lp 2 5 a.length (λk=>[k<=b.length,aO (λj=>bi (aEn a j) (aEn b j)=0) k]) [] bg bg]
  ) (λ(_,_)=>⟨_,rfl⟩) λ(a,b) hp=>bC (aA ((a.length:Int)-b.length) λE=>(0=(0:Int)/\(0:Nat)<=a.length/\(0:Nat)<=b.length/\aO (λj=>bi (aEn a j) (aEn b j)=0) 0)/\
 (∀x:Nat,aA (x:Int) λA=>aA (aEn a x) λB=>aA (aEn b x) λC=>x<=a.length/\x<=b.length/\aO (λj=>bi (aEn a j) (aEn b j)=0) x->(A<a.length->(A<b.length->ix A a.length/\ix A b.length/\(¬bi B C=0->bi B C=cQ a b)/\
    (¬(¬bi B C=0)->aH (A+1)/\A+1=((x+1:Nat):Int)/\x+1<=a.length/\x+1<=b.length/\aO (λj=>bi (aEn a j) (aEn b j)=0) (x+1)/\a.length-(x+1)<a.length-x))/\
   (¬A<b.length->aH E/\sgn E=cQ a b))/\
  (¬A<a.length->aH E/\sgn E=cQ a b))) (by kernel_rfl) (by
  change a.length<=1000000/\b.length<=1000000 at hp
  repeat' first|with_reducible apply cF|with_reducible intro
  all_goals repeat with_reducible cases‹_/\_›
  all_goals first|assumption|rfl|exact trivial|exact nb ‹_› |exact nb' ‹_› |omega|exact ip (by omega)|(unfold ix;omega)|(unfold aH;omega)|exact ii _|exact cP ‹_› ‹_› |(refine cP ‹_› ?_;simp_all;done)|exact(DX ‹_› ‹_› (by omega) (by omega)).symm|exact(zF ‹_› ‹_› (by omega) ‹_›).symm|exact cP ‹_› (nM ‹¬¬_›)|grind)
noncomputable def t27:=t58.adk k27
def Wb(s:Shape):dC s=⟨co s.outer,xb s s.holes.length⟩:=by unfold dC xb;grind
def Kl{s:Shape}(hf:Fit s):Fit (dC s):=by
 rw[Wb];refine⟨by dsimp only;rw[kl];exact hf.1,?_,λr hr=> ?_⟩
 .have:=Sr s s.holes.length;have:=hf.2.1;grind
 .obtain⟨q,hq,rfl⟩:=UK hr;rw[kl];exact hf.2.2 q hq
def vOf(s:Shape):List V:=if aa s=true then bl (dC s)else []
def eOf(s:Shape):Int:=if aa s=true then 0 else 11
def EP{s:Shape}(h:VS s):(bl (dC s)).length<=80:=by have h1:=(mR s).length_eq;have h2:=h.corners;unfold fN at h2;rw[h1];unfold bl;grind
def YZ{s:Shape}(h:VS s):∀x∈bl (dC s),ag x 2000=true:=by intro x hx;have hx:=(mR s).subset hx;unfold bl at hx;obtain⟨r,hr,hxr⟩:=List.mem_flatten.1 hx;have hn:=(h.ring hr).near;unfold near at hn;grind
def vsR{s:Shape}(hv:aa s=true):VS s:=(kS s).1 (by rw[hZ];exact hv)
def aAF(c:Bool)(out:List S)(d:S)(k:Nat):Bool:=c&&(out.take k).all λe=>cY e d !=2
def Iw(s:Shape)(v:List V)(acc:List S)(i:Nat):∀m,(pu s v acc i m).length<=acc.length+m
 |0=>by simp[pu]
 |m+1=>by
  have h:=Iw s v acc i m;unfold pu ug;grind
def If(s:Shape)(v:List V):∀i,(n7 s v i).length<=i*v.length
 |0=>by simp[n7]
 |i+1=>by
  have h1:=If s v i;have h2:=Iw s v (n7 s v i) i (v.length-(i+1));unfold n7;grind
def dOf(s:Shape):List S:=if aa s=true then m5 s (vOf s)else []
def dJ(s:Shape)(v:List V)(i j:Nat):List S:=pu s v (n7 s v i) i (j-(i+1))
def dW(s:Shape)(v:List V)(i j:Nat)(k:Nat):Bool:=aAF (pW s ⟨aEn v i,aEn v j⟩) (dJ s v i j) ⟨aEn v i,aEn v j⟩ k
def pP(s:Shape):(vOf s).length<=80:=by
 unfold vOf;split
 .exact EP (vsR ‹_›)
 .simp
def Ax{s:Shape}{i:Nat}(h:i<(vOf s).length){M:Int}(hM:2000<=M:=by decide):bd M (aEn (vOf s) i):=by
 by_cases hv:aa s=true
 .have e:vOf s=bl (dC s):=if_pos hv;rw[e]at h|-;exact m6 (YZ (vsR hv) _ (dD h)) hM
 .have e:vOf s=[] :=if_neg hv;grind
def aAL{s:Shape}(h:¬eOf s=0):dOf s=[]/\vOf s=[] :=by
 unfold eOf at h;split at h
 .omega
 .exact⟨if_neg ‹_›,if_neg ‹_›⟩
def OB{s:Shape}(h:¬¬eOf s=0):aa s=true:=by unfold eOf at h;grind
section
section
variable (s:Shape) (v:List V) (T:Geo.Tab)
end
def TM(s:Shape)(v:List V)(h:v.length<=80):(m5 s v).length<=6400:=by have h1:=If s v v.length;have h2:v.length*v.length<=80*80:=Nat.mul_le_mul h h;unfold m5;omega
section
variable {s:Shape} {v:List V} {T:Geo.Tab} {i j k:Nat}
end
def tri(a b c:V):aD:=if turn a b c<0 then [a,c,b]else [a,b,c]
def lj{s:Shape}(h:aa s=true):vOf s=bl (dC s):=if_pos h
def Am{s:Shape}(h:aa s=true):dOf s=m5 s (vOf s):=if_pos h
def Zf(s:Shape):(dOf s).length<=6400:=by
 unfold dOf;split
 .exact TM s _ (pP s)
 .simp
end
def Xf{a b:List aD}(hl:a.length=b.length)(h:∀j,j<a.length->aC a j=aC b j):a=b:=rH hl λi h1 h2=>by rw[<-jM h1,<-jM h2];exact h i h1
def jz(s:Shape):Nat->Int
 |0=>s.outer.length
 |k+1=>ic.wrap (jz s k+((aC s.holes k).length:Int))
def JX:∀{l:List Nat} {x:Nat},x∈l->x<=l.sum
 |y::l,x,h=>by
  rcases bO.1 h with rfl|h
  .simp
  .have:=JX h;simp;omega
def jy(s:Shape):Bool:=decide (jz s s.holes.length<=20)&&decide ((s.holes.length:Int)<=3)
def mA(s:Shape):Prop:=s.outer.length<=1000000000000000000/\s.holes.length<=1000000000000000000/\∀r∈s.holes,r.length<=1000000000000000000
def Jr{s:Shape}(hB:mA s):∀k,k<=s.holes.length->k<=3->jz s k=(jV s k:Int)/\jz s k<=1000000000000000000*((k:Int)+1)
 |0,_,_=>by have:=hB.1;rw[DG];exact⟨rfl,by show(s.outer.length:Int)<=_;omega⟩
 |k+1,h1,h2=>by
  obtain⟨g1,g2⟩:=Jr hB k (by omega) (by omega);have h3:=hB.2.2 _ (gG (show k<s.holes.length by omega));have h4:jz s (k+1)=ic.wrap (jz s k+((aC s.holes k).length:Int)):=rfl;rw[h4,IntWalk.i64_in _ (by omega),DH (by omega)];omega
def MO{s:Shape}(hB:mA s)(h:jy s=true):Fit s:=by
 unfold jy at h;simp only[BI]at h;have h1:=(Jr hB s.holes.length (bQ _) (by omega)).1;rw[h1,Jw]at h;have h2:fN s<=20:=by omega
 unfold fN at h2;have h3:∀r∈aE s,r.length<=20:=λr hr=>cR (JX (bM.2 ⟨r,hr,rfl⟩)) h2;exact⟨by have:=h3 s.outer (by simp[aE]);omega,by omega,λr hr=>by have:=h3 r (by simp[aE,hr]);omega⟩
noncomputable def c25:Con:=con (ac (aL .R) (a1 (aL .R))) (λ(a,_)=>[a.length<=1000000,(∀r∈a,r.length<=100000)]) (λ(a,b)=> .bool (a==b))
def k25:c25.Okz 25:=bH t27 (λ(a,b)=>[cnt 4 5 a.length (aO λj=>aC a j=aC b j)]
  ) (λ(_,_)=>⟨_,rfl⟩) λ(a,b) hp=>bC (aA (a==b) λA=>aA (a.length:Int) λC=>(¬C=b.length->false=A)/\
 (¬(¬C=b.length)->(0=(0:Int)/\(0:Nat)<=a.length/\aO (λj=>aC a j=aC b j) 0)/\
  (∀x:Nat,aA (x:Int) λB=>aA (!aC a x==aC b x) λD=>x<=a.length/\aO (λj=>aC a j=aC b j) x->(B<a.length->ix B a.length/\ix B b.length/\(aC a x).length<=1000000/\(D=true->false=A)/\
    (D=false->aH (B+1)/\B+1=((x+1:Nat):Int)/\x+1<=a.length/\aO (λj=>aC a j=aC b j) (x+1)/\a.length-(x+1)<a.length-x))/\
   (¬B<a.length->true=A)))) (by kernel_rfl) (by
  change a.length<=1000000/\((∀r∈a,r.length<=100000))at hp;have h0:∀x,x<a.length->(aC a x).length<=1000000:=λx h=>cR (hp.2 _ (gG h)) (by decide);have h1:¬(a.length:Int)=b.length->false=(a==b):=λh=>by grind
  have h2:∀{x},(!aC a x==aC b x)=true->false=(a==b):=λh=>by grind
  have h3:∀x:Nat,¬(x:Int)<a.length->aO (λj=>aC a j=aC b j) x->¬¬(a.length:Int)=b.length->true=(a==b):=λx h1 h2 h3=>by symm;rw[beq_iff_eq];exact Xf (by omega) λj hj=>h2 j (by omega)
  have h4:∀{x},(!aC a x==aC b x)=false->aC a x=aC b x:=λh=>by simpa using h
  with_reducible ((repeat' first|apply cF|intro);all_goals repeat cases‹_/\_›)
  all_goals grind)
noncomputable def t25:=t27.adk k25
noncomputable def c16:Con:=con (a1 aSh) (λs=>[mA s]) (λs=> .bool (jy s))
def k16:c16.Okz 16:=uc (oK t25.o) (raw:=λr i=>bB r 5&&bB i 7) (λs=>[lp 3 4 s.holes.length (λ_=>[]) [] (λk=>[(3,.int .i64 (jz s k))]) (λ_=>[])]
  ) (λ_=>⟨_,rfl⟩) λs hp=>bC ((0=(0:Int)/\(s.outer.length:Int)=jz s 0/\(0:Nat)<=s.holes.length)/\
 (∀x:Nat,aA (x:Int) λA=>x<=s.holes.length->(A<s.holes.length->ix A s.holes.length/\aH (A+1)/\A+1=((x+1:Nat):Int)/\IntKind.wrap ic (jz s x+(aC s.holes x).length)=jz s (x+1)/\x+1<=s.holes.length/\s.holes.length-(x+1)<s.holes.length-x)/\
  (¬A<s.holes.length->(jz s x<=20->decide ((s.holes.length:Int)<=3)=jy s)/\
   (¬jz s x<=20->false=jy s)))) (by kernel_rfl) (by
  change mA s at hp;have hh:=hp.2.1;have e1:∀k:Nat,¬(k:Int)<s.holes.length->k<=s.holes.length->jz s k=jz s s.holes.length:=λk h1 h2=>by grind
  have e2:∀k:Nat,jz s k<=20->¬(k:Int)<s.holes.length->k<=s.holes.length->decide ((s.holes.length:Int)<=3)=jy s:=λk h h1 h2=>by unfold jy;grind
  have e3:∀k:Nat,¬jz s k<=20->¬(k:Int)<s.holes.length->k<=s.holes.length->false=jy s:=λk h h1 h2=>by unfold jy;grind
  with_reducible ((repeat' first|apply cF|intro);all_goals repeat cases‹_/\_›)
  all_goals first|rfl|exact e2 _ ‹_› ‹_› ‹_› |grind)
noncomputable def t16:=t25.adk k16
noncomputable def aDo:Con:=con (a1 aI) (λ_=>[]) (λ_=> .bool false
 )
def aBZ:aDo.Okz 184:=bH t16 bg (λ_=>⟨_,rfl⟩) λx _=>bC (decide (¬x=x)=false) (by kernel_rfl) (by grind)
noncomputable def QW:=t16.adk aBZ
noncomputable def aDY:Con:=con (ac aI (a1 aI)) (λ(_,_)=>[]) (λ(x,y)=> .iqz (aEr x y)
 )
def aCy:aDY.Okz 137:=bH QW (λ(_,_)=>[]) (λ(_,_)=>⟨_,rfl⟩) λ(x,y) _=>bC ((false=true->(false=true->0=aEr x y)/\
  (false=false-> -1=aEr x y))/\
 (false=false->(false=true->1=aEr x y)/\
  (false=false->(x<y-> -1=aEr x y)/\
   (¬x<y->(y<x->1=aEr x y)/\
    (¬y<x->0=aEr x y))))) (by kernel_rfl) (by
  unfold aEr;grind)
noncomputable def Q8:=QW.adk aCy
def orU(l:List Int)(k:Nat):Prop:=∀j,j<k->cu l j=0
def orL:List Int->Int
 |[] =>0
 |x::l=>if x=0 then orL l else x
def Oh:∀{l:List Int} {k:Nat},¬cu l k=0->orU l k->k<l.length->cu l k=orL l
 |[],k,_,_,h=>by simp at h
 |x::l,0,h,_,_=>by
  have h:¬x=0:=h;show x=orL (x::l);unfold orL;rw[if_neg h]
 |x::l,k+1,h,h2,h3=>by
  have h0:x=0:=h2 0 (by omega);show cu l k=orL (x::l);unfold orL;rw[if_pos h0];exact Oh h (λj hj=>h2 (j+1) (by omega)) (by grind)
def NX:∀{l:List Int},orU l l.length->0=orL l
 |[],_=>rfl
 |x::l,h=>by
  have h0:x=0:=h 0 (by simp);unfold orL;rw[if_pos h0];exact NX λj hj=>h (j+1) (by grind)
noncomputable def aDR:Con:=con (a1 (aL .I)) (λl=>[l.length<=1000]) (λl=> .iqz (orL l))
def aCr:aDR.Okz 148:=bH Q8 (λl=>[cnt 3 8 l.length (orU l)]
  ) (λ_=>⟨_,rfl⟩) λl hp=>bC ((0=(0:Int)/\(0:Nat)<=l.length/\orU l 0)/\
 (∀x:Nat,aA (x:Int) λA=>x<=l.length/\orU l x->(A<l.length->ix A l.length/\(¬cu l x=0->cu l x=orL l)/\
   (¬(¬cu l x=0)->aH (A+1)/\A+1=((x+1:Nat):Int)/\x+1<=l.length/\orU l (x+1)/\l.length-(x+1)<l.length-x))/\
  (¬A<l.length->0=orL l))) (by kernel_rfl) (by
  change l.length<=1000 at hp
  with_reducible ((repeat' first|apply cF|intro);all_goals repeat cases‹_/\_›)
  all_goals first|assumption|rfl|exact trivial|exact nb ‹_› |exact nb' ‹_› |omega|exact ip (by omega)|(unfold ix;omega)|(unfold aH;omega)|exact ii _|exact cP ‹_› ‹_› |(refine cP ‹_› ?_;simp_all;done)|exact Oh ‹_› ‹_› (by omega)|(obtain rfl:_=l.length:=tG ‹_› (by omega);exact NX ‹_›)|(refine cP ‹_› ?_;exact nM ‹¬¬_›)|grind)
noncomputable def Q0:=Q8.adk aCr
noncomputable def c78:Con:=con (ac aV (a1 aV)) (λ(_,_)=>[]) (λ(a,b)=> .iqz (bi a b)
 )
def k78:c78.Okz 78:=bH Q0 (λ(_,_)=>[]) (λ(_,_)=>⟨_,rfl⟩) λ(a,b) _=>bC ([aEr a.y b.y,aEr a.x b.x].length<=1000/\orL [aEr a.y b.y,aEr a.x b.x] =bi a b) (by kernel_rfl) (by refine⟨by simp,?_⟩;unfold bi;simp only[orL];grind)
noncomputable def t78:=Q0.adk k78
noncomputable def aC7:Con:=con (ac aV (a1 aV)) (λ(_,_)=>[]) (λ(a,b)=> .bool (bf a b)
 )
def aBI:aC7.Okz 220:=bH t78 (λ(_,_)=>[]) (λ(_,_)=>⟨_,rfl⟩) λ(a,b) _=>bC (decide (bi a b<0)=bf a b) (by kernel_rfl) (by unfold bf bi aEr;grind)
noncomputable def QG:=t78.adk aBI
noncomputable def aEb:Con:=con (ac aV (a1 aV)) (λ(a,b)=>[bd 2000000000 a,bd 2000000000 b]) (λ(a,b)=> .iqz (cross a b)
 )
def aCM:aEb.Okz 111:=bH QG (λ(_,_)=>[]) (λ(_,_)=>⟨_,rfl⟩) λ(a,b) hp=>bC (aH (a.x*b.y)/\aH (a.y*b.x)/\aH (a.x*b.y-a.y*b.x)/\a.x*b.y-a.y*b.x=cross a b) (by kernel_rfl) (by change bd 2000000000 a/\bd 2000000000 b at hp;have:=mU hp.1 hp.2;exact⟨bT (by omega),bT (by omega),bT (by omega),rfl⟩)
noncomputable def RM:=QG.adk aCM
noncomputable def aDX:Con:=con (ac aV (a1 aV)) (λ(a,b)=>[bd 1000000000 a,bd 1000000000 b]) (λ(a,b)=>aV.enc (aEq a b)
 )
def aCx:aDX.Okz 138:=bH RM (λ(_,_)=>[]) (λ(_,_)=>⟨_,rfl⟩) λ(a,b) hp=>bC (aH (a.x-b.x)/\aH (a.y-b.y)/\a.x-b.x=(aEq a b).x/\a.y-b.y=(aEq a b).y) (by kernel_rfl) (by change bd 1000000000 a/\bd 1000000000 b at hp;unfold bd at hp;exact⟨bT (by omega),bT (by omega),rfl,rfl⟩)
noncomputable def Q7:=RM.adk aCx
noncomputable def c63:Con:=con (ac aV (ac aV (a1 aV))) (λ(a,b,c)=>[bd 1000000000 a,bd 1000000000 b,bd 1000000000 c]) (λ(a,b,c)=> .iqz (turn a b c)
 )
def k63:c63.Okz 63:=bH Q7 (λ(_,_,_)=>[]) (λ(_,_,_)=>⟨_,rfl⟩) λ(a,b,c) hp=>bC (bd 1000000000 b/\bd 1000000000 a/\bd 1000000000 c/\bd 1000000000 a/\bd 2000000000 (aEq b a)/\bd 2000000000 (aEq c a)/\aEr (cross (aEq b a) (aEq c a)) 0=turn a b c) (by kernel_rfl) (by
 change bd 1000000000 a/\bd 1000000000 b/\bd 1000000000 c at hp;have e:∀n,aEr n 0=sgn n:=λn=>by unfold aEr sgn;grind
 exact⟨hp.2.1,hp.1,hp.2.2,hp.1,iS hp.2.1 hp.1,iS hp.2.2 hp.1,e _⟩)
noncomputable def t63:=Q7.adk k63
noncomputable def aDW:Con:=con (ac aV (a1 aI)) (λ(_,m)=>[0<=m,m<=9000000000000000000]) (λ(a,m)=> .bool (ag a m)
 )
def aCw:aDW.Okz 139:=bH t63 (λ(_,_)=>[]) (λ(_,_)=>⟨_,rfl⟩) λ(a,m) hp=>bC (aH (0-m)/\(0-m<=a.x->(a.x<=m->aH (0-m)/\(0-m<=a.y->decide (a.y<=m)=ag a m)/\
   (¬0-m<=a.y->false=ag a m))/\
  (¬a.x<=m->false=ag a m))/\
 (¬0-m<=a.x->false=ag a m)) (by kernel_rfl) (by change 0<=m/\m<=9000000000000000000 at hp;unfold ag;have:= @aH;grind[aH])
noncomputable def Q6:=t63.adk aCw
noncomputable def aDU:Con:=con (a1 aV) (λ_=>[]) (λa=>aT.enc (fT a)
 )
def aCu:aDU.Okz 141:=bH Q6 bg (λ_=>⟨_,rfl⟩) λa _=>bC (aA (fT a) λA=>a.x=A.x/\a.y=A.y/\1=A.den) (by kernel_rfl) (by exact⟨rfl,rfl,rfl⟩)
noncomputable def Q3:=Q6.adk aCu
def qA(b:S)(p:V):Bool:=decide (b.a.x<=p.x)&&decide (p.x<=b.b.x)&&decide (b.a.y<=p.y)&&decide (p.y<=b.b.y)
def bU(l:List V):Nat->S
 |0=>⟨aEn l 0,aEn l 0⟩
 |k+1=>⟨⟨min (bU l k).a.x (aEn l k).x,min (bU l k).a.y (aEn l k).y⟩,⟨max (bU l k).b.x (aEn l k).x,max (bU l k).b.y (aEn l k).y⟩⟩
noncomputable def aC2:Con:=con (ac aS (a1 aV)) (λ(_,_)=>[]) (λ(b,p)=> .bool (qA b p)
 )
def aBE:aC2.Okz 228:=bH Q3 (λ(_,_)=>[]) (λ(_,_)=>⟨_,rfl⟩) λ(b,p) _=>bC ((b.a.x<=p.x->(p.x<=b.b.x->(b.a.y<=p.y->decide (p.y<=b.b.y)=qA b p)/\
   (¬b.a.y<=p.y->false=qA b p))/\
  (¬p.x<=b.b.x->false=qA b p))/\
 (¬b.a.x<=p.x->false=qA b p)) (by kernel_rfl) (by unfold qA;grind)
noncomputable def QD:=Q3.adk aBE
noncomputable def aC3:Con:=con (a1 (aL .V)) (λl=>[l.length<=1000]) (λl=> .tup [aS.enc (bU l l.length),.bool (decide (0<l.length))])
def aBF:aC3.Okz 227:=bH QD (λl=>[lp 5 19 l.length bg [] bg (λk=>[(12,.box 196 [.iqz (bU l k).a.x,.iqz (bU l k).a.y,.iqz (bU l k).b.x,.iqz (bU l k).b.y])])]
  ) (λ_=>⟨_,rfl⟩) λl hp=>bC (aA (bU l 0) λC=>aA (0:Nat) λF=>aA (aEn l 0) λG=>aA (bU l l.length) λI=>aA (l.length:Int) λJ=>(J=0->0=I.a.x/\0=I.a.y/\0=I.b.x/\0=I.b.y/\false=decide (F<l.length))/\
 (¬J=0->ix 0 l.length/\ix 0 l.length/\(0=(0:Int)/\G.x=C.a.x/\G.y=C.a.y/\G.x=C.b.x/\G.y=C.b.y/\F<=l.length)/\
  (∀x:Nat,aA (bU l x) λB=>aA (bU l (x+1)) λD=>aA (x:Int) λE=>aA (aEn l x) λH=>x<=l.length->(E<l.length->ix E l.length/\ix E l.length/\ix E l.length/\ix E l.length/\aH (E+1)/\E+1=((x+1:Nat):Int)/\Min.min B.a.x H.x=D.a.x/\Min.min B.a.y H.y=D.a.y/\Max.max B.b.x H.x=D.b.x/\Max.max B.b.y H.y=D.b.y/\x+1<=l.length/\l.length-(x+1)<l.length-x)/\
   (¬E<l.length->B.a.x=I.a.x/\B.a.y=I.a.y/\B.b.x=I.b.x/\B.b.y=I.b.y/\true=decide (F<l.length))))) (by kernel_rfl) (by
  change l.length<=1000 at hp;have eU:∀x:Nat,¬(x:Int)<l.length->x<=l.length->bU l x=bU l l.length:=λx h1 h2=>by grind
  with_reducible ((repeat' first|apply cF|intro);all_goals repeat cases‹_/\_›)
  all_goals first|rfl|(have h0:l=[] :=List.length_eq_zero_iff.1 (by omega);subst h0;rfl)|(rw[eU _ ‹_› ‹_›])|(symm;rw[decide_eq_false_iff_not];omega)|grind)
noncomputable def QE:=QD.adk aBF
noncomputable def aDd:Con:=con (ac aI (a1 aI)) (λ(a,b)=>[-9000000000000000000<=a,a<=9000000000000000000,-9000000000000000000<=b,b<=9000000000000000000]) (λ(a,b)=> .iqz ((bw a.natAbs b.natAbs:Nat):Int))
def aBO:aDd.Okz 209:=bH QE (λ(a,b)=>[(1,.mk (Int×Int) (λF _=>Rn F 0 1) [] (λp=>[p.1.natAbs<=9000000000000000000,p.2.natAbs<=9000000000000000000,bw p.1.natAbs p.2.natAbs=bw a.natAbs b.natAbs]) (λp=>[(0,.iqz p.1),(1,.iqz p.2)]) bg (λp=>p.2.natAbs) bg)]
  ) (λ(_,_)=>⟨_,rfl⟩) λ(a,b) hp=>bC (aA (dU a) λA=>aA (dU b) λB=>(a=a/\b=b/\dU a<=9000000000000000000/\dU b<=9000000000000000000/\bw A B=bw A B)/\
 (∀x:Prod Int Int,aA (c8 x.1 x.2) λC=>dU x.1<=9000000000000000000/\dU x.2<=9000000000000000000/\bw (dU x.1) (dU x.2)=bw A B->(¬x.2=0->x.2≠0/\x.2=x.2/\c8 x.1 x.2=c8 x.1 x.2/\dU x.snd<=9000000000000000000/\dU C<=9000000000000000000/\bw (dU x.snd) (dU C)=bw A B/\dU C<dU x.2)/\
  (¬(¬x.2=0)->aH (0-x.1)/\Max.max x.1 (0-x.1)=bw A B))) (by kernel_rfl) (by
  change-9000000000000000000<=a/\a<=9000000000000000000/\ -9000000000000000000<=b/\b<=9000000000000000000 at hp;have e1:∀x y:Int,bw y.natAbs (c8 x y).natAbs=bw x.natAbs y.natAbs:=λx y=>by rw[IL,IM,<-Nat.gcd_rec,IM]
  have e2:∀x y:Int,¬y=0->(c8 x y).natAbs<y.natAbs:=λx y h=>by rw[IL];exact bk _ (by omega)
  have e3:∀(x y:Int) (g:Nat),bw x.natAbs y.natAbs=g->¬¬y=0->max x (0-x)=(g:Int):=λx y g h h2=>by rw[nM h2]at h;grind
  repeat' first|with_reducible apply cF|with_reducible intro
  all_goals repeat with_reducible cases‹_/\_›
  all_goals first|rfl|with_reducible solve_by_elim|(rw[e1];assumption)|exact trivial|exact nb ‹_› |exact nb' ‹_› |omega|exact ip (by omega)|(unfold ix;omega)|(unfold aH;omega)|exact ii _|exact cP ‹_› ‹_› |(refine cP ‹_› ?_;simp_all;done)|grind|grind)
noncomputable def QM:=QE.adk aBO
noncomputable def aDe:Con:=con (ac aT (a1 aI)) (λ(_,m)=>[0<=m,m<=1000000]) (λ(p,m)=> .bool (ik p m)
 )
def aBP:aDe.Okz 208:=bH QM (λ(_,_)=>[]) (λ(_,_)=>⟨_,rfl⟩) λ(p,m) hp=>bC ((p.den<1->false=ik p m)/\
 (¬p.den<1->(134217728<p.den->false=ik p m)/\
  (¬134217728<p.den->aH (m*p.den)/\0<=m*p.den/\m*p.den<=9000000000000000000/\ag ⟨p.x,p.y⟩ (m*p.den)=ik p m))) (by kernel_rfl) (by
  change 0<=m/\m<=1000000 at hp;unfold ik;have hm:¬p.den<1->¬134217728<p.den->aH (m*p.den)/\0<=m*p.den/\m*p.den<=9000000000000000000:=λh1 h2=>by have:=gS (x:=m) (y:=p.den) (A:=1000000) (B:=134217728) (by omega) (by omega);exact⟨bT (by omega),cM hp.1 (by omega),by omega⟩
  grind)
noncomputable def QN:=QM.adk aBP
noncomputable def aDn:Con:=con (a1 aT) (λ_=>[]) (λp=> .bool (dO p)
 )
def aBY:aDn.Okz 185:=bH QN bg (λ_=>⟨_,rfl⟩) λp _=>bC (aA (bw (dU p.x) (dU p.y):Int) λC=>(0:Int)<=4000/\(4000:Int)<=1000000/\(ik p 4000=true-> -9000000000000000000<=p.x/\p.x<=9000000000000000000/\ -9000000000000000000<=p.y/\p.y<=9000000000000000000/\ -9000000000000000000<=C/\C<=9000000000000000000/\ -9000000000000000000<=p.den/\p.den<=9000000000000000000/\decide ((bw (dU C) (dU p.den):Int)=1)=dO p)/\
 (ik p 4000=false->false=dO p)) (by kernel_rfl) (by
  have hB:ik p 4000=true->PtB p:=λh=>by unfold ik ag at h;simp only[bm,decide_eq_true_eq]at h;unfold PtB;omega
  have hn:∀n m B:Nat,n<=B->m<=B->bw n m<=B:=λn m B h1 h2=>by
   rcases rF n with e|e
   .grind
   .exact cR (Nat.gcd_le_left m e) h1
  have hg:PtB p->bw p.x.natAbs p.y.natAbs<=600000000000:=λh=>hn _ _ _ (by unfold PtB at h;omega) (by unfold PtB at h;omega);have ht:ik p 4000=true->decide ((bw (dU (bw (dU p.x) (dU p.y):Int)) (dU p.den):Int)=1)=dO p:=λh=>by unfold dO;grind
  with_reducible ((repeat' first|apply cF|intro);all_goals repeat cases‹_/\_›)
  all_goals first|rfl|exact ht ‹_› |(have h1:=hB ‹_›;have h2:=hg h1;unfold PtB at h1;omega)|(unfold dO;grind)|grind)
noncomputable def QV:=QN.adk aBY
noncomputable def aDb:Con:=con (a1 aS) (λ_=>[]) (λs=> .bool (aj s)
 )
def aBM:aDb.Okz 216:=bH QV bg (λ_=>⟨_,rfl⟩) λs _=>bC ((0:Int)<=4000/\(4000:Int)<=9000000000000000000/\(ag s.a 4000=true->(0:Int)<=4000/\(4000:Int)<=9000000000000000000/\ag s.b 4000=aj s)/\
 (ag s.a 4000=false->false=aj s)) (by kernel_rfl) (by unfold aj;grind)
noncomputable def QK:=QV.adk aBM
noncomputable def aC9:Con:=con (ac aS (a1 aV)) (λ(_,_)=>[]) (λ(s,p)=> .bool (onS s p)
 )
def aBK:aC9.Okz 218:=bH QK (λ(_,_)=>[]) (λ(_,_)=>⟨_,rfl⟩) λ(s,p) _=>bC ([s.a,s.b].length<=1000/\(aj s=true->(qA (bU [s.a,s.b] [s.a,s.b].length) p=true->bd 1000000000 s.a/\bd 1000000000 s.b/\bd 1000000000 p/\decide (turn s.a s.b p=0)=onS s p)/\
  (qA (bU [s.a,s.b] [s.a,s.b].length) p=false->false=onS s p))/\
 (aj s=false->false=onS s p)) (by kernel_rfl) (by
  have e0:qA (bU [s.a,s.b] [s.a,s.b].length) p=fA s p:=by show(decide (min (min s.a.x s.a.x) s.b.x<=p.x)&&decide (p.x<=max (max s.a.x s.a.x) s.b.x)&&decide (min (min s.a.y s.a.y) s.b.y<=p.y)&&decide (p.y<=max (max s.a.y s.a.y) s.b.y))=_;rw[Int.min_self,Int.min_self,Int.max_self,Int.max_self];rfl
  rw[e0];have hv:∀{M:Int},aj s=true->4000<=M->bd M s.a/\bd M s.b:=λh hM=>mj (by rw[h];rfl) hM;refine⟨by simp,λh=>⟨λh2=>⟨(hv h (by decide)).1,(hv h (by decide)).2,O3 (hv h (by decide)) h2,?_⟩,λh2=>by unfold onS;rw[h2];simp⟩,λh=>by unfold onS;rw[h];rfl⟩;unfold onS;grind)
noncomputable def QI:=QK.adk aBK
noncomputable def aC8:Con:=con (a1 aV) (λ_=>[]) (λp=> .agg [.iqz 1,.iqz p.x,.iqz p.y,.iqz 1,.iqz 0,.iqz 0,.iqz 0,.iqz 0]
 )
def aBJ:aC8.Okz 219:=bH QI bg (λ_=>⟨_,rfl⟩) λp _=>bC (aA (0:Int) λA=>aA (fT p) λB=>(1:Int)=1/\B.x=p.x/\B.y=p.y/\B.den=1/\A=0/\A=0/\A=0/\A=0) (by kernel_rfl) (by
 with_reducible ((repeat' first|apply cF|intro);all_goals repeat cases‹_/\_›)
 all_goals first|rfl|grind)
noncomputable def QH:=QI.adk aBJ
structure Com where
 k:Int
 p:Pt
 s:S
def R3(c:Com):SV:= .agg [.int .i64 c.k,.int .i64 c.p.x,.int .i64 c.p.y,.int .i64 c.p.den,.int .i64 c.s.a.x,.int .i64 c.s.a.y,.int .i64 c.s.b.x,.int .i64 c.s.b.y]
def cz:Com:=⟨0,⟨0,0,0⟩,⟨⟨0,0⟩,⟨0,0⟩⟩⟩
def lA(s t:S)(d:Int):Int:=if d<0 then-cross (aEq t.a s.a) (aEq t.b t.a)else cross (aEq t.a s.a) (aEq t.b t.a)
def lB(s t:S)(d:Int):Int:=if d<0 then-cross (aEq t.a s.a) (aEq s.b s.a)else cross (aEq t.a s.a) (aEq s.b s.a)
def lE(d:Int):Int:=if d<0 then-d else d
def lX(s t:S)(d:Int):Int:=s.a.x*lE d+lA s t d*(aEq s.b s.a).x
def lY(s t:S)(d:Int):Int:=s.a.y*lE d+lA s t d*(aEq s.b s.a).y
def lG(s t:S)(d:Int):Int:=((bw (bw (lX s t d).natAbs (lY s t d).natAbs:Int).natAbs (lE d).natAbs:Nat):Int)
def jS(s t:S)(d:Int):Com:=if mg s t d=0 then cz else⟨mg s t d,⟨(lX s t d).tdiv (lG s t d),(lY s t d).tdiv (lG s t d),(lE d).tdiv (lG s t d)⟩,cz.s⟩
def jO(key:Nat)(obs:List (Nat×SOb)):Nat×Ann:=(key+10000,.mk Unit (λ_ _=>some ()) [] (λ_=>[]) (λ_=>[]) (λ_=>obs) (λ_=>0) (λ_=>[]))
def aCZ(c:Com):List SV:=[.int .i64 c.k,.int .i64 c.p.x,.int .i64 c.p.y,.int .i64 c.p.den,.int .i64 c.s.a.x,.int .i64 c.s.a.y,.int .i64 c.s.b.x,.int .i64 c.s.b.y]
def o8{x g B:Int}(h: -B<=x/\x<=B): -B<=x.tdiv g/\x.tdiv g<=B:=by have:=Int.natAbs_tdiv_le_natAbs x g;omega
def aAE{n m B:Nat}(h1:n<=B)(h2:m<=B):bw n m<=B:=by
 rcases rF n with e|e
 .grind
 .exact cR (Nat.gcd_le_left m e) h1
def zl{s t:S}{d:Int}(h:lA s t d<0\/lE d<lA s t d\/lB s t d<0\/lE d<lB s t d):jS s t d=cz:=if_pos (if_pos h)
def Jd{s t:S}{d:Int}(h1:¬lA s t d<0)(h2:¬lE d<lA s t d)(h3:¬lB s t d<0)(h4:¬lE d<lB s t d):mg s t d=if lA s t d=0\/lA s t d=lE d\/lB s t d=0\/lB s t d=lE d then 1 else 2:=if_neg (by simp only[not_or];exact⟨h1,h2,h3,h4⟩)
def Je{s t:S}{d k:Int}(h:mg s t d=k)(hk:k≠0):jS s t d=⟨k,⟨(lX s t d).tdiv (lG s t d),(lY s t d).tdiv (lG s t d),(lE d).tdiv (lG s t d)⟩,cz.s⟩:=by unfold jS;grind
noncomputable def aDa:Con:=con (ac aS (ac aS (a1 aI))) (λ(s,t,d)=>[aj s=true,aj t=true,d≠0,-200000000<=d/\d<=200000000]) (λ(s,t,d)=>R3 (jS s t d))
def aBL:aDa.Okz 217:=bH QH (λ(s,t,d)=>[jU 6 [(10,.iqz (lA s t d)),(11,.iqz (lB s t d)),(2,.iqz (lE d))],(9+10000,.mk Unit (λ_ _=>some ()) [] (λ_=>[¬lA s t d<0,¬lE d<lA s t d,¬lB s t d<0,¬lE d<lB s t d]) (λ_=>[(12,.iqz (lX s t d)),(13,.iqz (lY s t d))]) bg (λ_=>0) bg),
  jU 10 [(14,.iqz (lG s t d))],jO 13 [(59,.box 175 (aCZ (jS s t d)))]]
  ) (λ(_,_,_)=>⟨_,rfl⟩) λ(s,t,d) hp=>bC (aA (lE d) λA=>aA (lG s t d) λB=>aA (lX s t d) λC=>aA (lY s t d) λD=>aA (jS s t d) λE=>aA (aEq s.b s.a) λH=>aA (aEq t.a s.a) λI=>aA (aEq t.b t.a) λJ=>aA (bw (dU C) (dU D):Int) λK=>bd 1000000000 s.b/\bd 1000000000 s.a/\bd 1000000000 t.b/\bd 1000000000 t.a/\bd 1000000000 t.a/\bd 1000000000 s.a/\bd 2000000000 I/\bd 2000000000 J/\bd 2000000000 I/\bd 2000000000 H/\((d<0->aH (0-cross I J)/\aH (0-cross I H)/\aH (0-d)/\0-cross I J=lA s t d/\0-cross I H=lB s t d/\0-d=lE d)/\
  (¬d<0->cross I J=lA s t d/\cross I H=lB s t d/\d=lE d))/\
 (∀y:Unit,(lA s t d<0->0=E.k/\0=E.p.x/\0=E.p.y/\0=E.p.den/\0=E.s.a.x/\0=E.s.a.y/\0=E.s.b.x/\0=E.s.b.y)/\
  (¬lA s t d<0->(lE d<lA s t d->0=E.k/\0=E.p.x/\0=E.p.y/\0=E.p.den/\0=E.s.a.x/\0=E.s.a.y/\0=E.s.b.x/\0=E.s.b.y)/\
   (¬lE d<lA s t d->(lB s t d<0->0=E.k/\0=E.p.x/\0=E.p.y/\0=E.p.den/\0=E.s.a.x/\0=E.s.a.y/\0=E.s.b.x/\0=E.s.b.y)/\
    (¬lB s t d<0->(lE d<lB s t d->0=E.k/\0=E.p.x/\0=E.p.y/\0=E.p.den/\0=E.s.a.x/\0=E.s.a.y/\0=E.s.b.x/\0=E.s.b.y)/\
     (¬lE d<lB s t d->(aH (s.a.x*lE d)/\aH (lA s t d*H.x)/\aH (s.a.x*lE d+lA s t d*H.x)/\aH (s.a.y*lE d)/\aH (lA s t d*H.y)/\aH (s.a.y*lE d+lA s t d*H.y)/\s.a.x*lE d+lA s t d*H.x=lX s t d/\s.a.y*lE d+lA s t d*H.y=lY s t d/\¬lA s t d<0/\¬lE d<lA s t d/\¬lB s t d<0/\¬lE d<lB s t d)/\
      (∀y_1:Unit,¬lA s t d<0/\¬lE d<lA s t d/\¬lB s t d<0/\¬lE d<lB s t d->(-9000000000000000000<=lX s t d/\lX s t d<=9000000000000000000/\ -9000000000000000000<=lY s t d/\lY s t d<=9000000000000000000/\ -9000000000000000000<=K/\K<=9000000000000000000/\ -9000000000000000000<=lE d/\lE d<=9000000000000000000/\(bw (dU K) (dU A):Int)=lG s t d)/\
       (∀y_2:Unit,lG s t d≠0/\aH (fM C B)/\lG s t d≠0/\aH (fM D B)/\lG s t d≠0/\aH (fM A B)/\((lA s t d=0->1=E.k/\fM C B=E.p.x/\fM D B=E.p.y/\fM A B=E.p.den/\0=E.s.a.x/\0=E.s.a.y/\0=E.s.b.x/\0=E.s.b.y)/\
         (¬lA s t d=0->(lA s t d=lE d->1=E.k/\fM C B=E.p.x/\fM D B=E.p.y/\fM A B=E.p.den/\0=E.s.a.x/\0=E.s.a.y/\0=E.s.b.x/\0=E.s.b.y)/\
          (¬lA s t d=lE d->(lB s t d=0->1=E.k/\fM C B=E.p.x/\fM D B=E.p.y/\fM A B=E.p.den/\0=E.s.a.x/\0=E.s.a.y/\0=E.s.b.x/\0=E.s.b.y)/\
           (¬lB s t d=0->(lB s t d=lE d->1=E.k/\fM C B=E.p.x/\fM D B=E.p.y/\fM A B=E.p.den/\0=E.s.a.x/\0=E.s.a.y/\0=E.s.b.x/\0=E.s.b.y)/\
            (¬lB s t d=lE d->2=E.k/\fM C B=E.p.x/\fM D B=E.p.y/\fM A B=E.p.den/\0=E.s.a.x/\0=E.s.a.y/\0=E.s.b.x/\0=E.s.b.y)))))/\
        (∀y_3:Unit,E.k=E.k/\E.p.x=E.p.x/\E.p.y=E.p.y/\E.p.den=E.p.den/\E.s.a.x=E.s.a.x/\E.s.a.y=E.s.a.y/\E.s.b.x=E.s.b.x/\E.s.b.y=E.s.b.y))))))))) (by kernel_rfl) (by
  change aj s=true/\aj t=true/\d≠0/\(-200000000<=d/\d<=200000000)at hp;obtain⟨hs,ht,h0,hd⟩:=hp;have bs:bd 4000 s.a/\bd 4000 s.b:=mj (by rw[hs];rfl);have bt:bd 4000 t.a/\bd 4000 t.b:=mj (by rw[ht];rfl);have u1:=iS bs.2 bs.1;have u2:=iS bt.2 bt.1;have u3:=iS bt.1 bs.1;have c1:=mU u3 u2;have c2:=mU u3 u1;have gM:∀{M:Int} {v:V},16000<=M->bd 4000 v->bd M v:=λh1 h2=>by unfold bd at*;omega
  have gN:∀{M:Int} {v:V},16000<=M->bd (4000+4000) v->bd M v:=λh1 h2=>by unfold bd at*;omega
  have a1: -128000000<=lA s t d/\lA s t d<=128000000:=by unfold lA cross;split<;>omega
  have e1: -200000000<=lE d/\lE d<=200000000:=by unfold lE;split<;>omega
  have e2:lE d≠0:=by unfold lE;split<;>omega
  have k1:aH (0-cross (aEq t.a s.a) (aEq t.b t.a)):=bT (by unfold cross;omega);have k2:aH (0-cross (aEq t.a s.a) (aEq s.b s.a)):=bT (by unfold cross;omega);have x1:=gS (A:=4000) (B:=200000000) bs.1.1 e1;have x2:=gS (A:=128000000) (B:=8000) a1 u1.1;have y1:=gS (A:=4000) (B:=200000000) bs.1.2 e1;have y2:=gS (A:=128000000) (B:=8000) a1 u1.2;have xB: -2000000000000<=lX s t d/\lX s t d<=2000000000000:=by unfold lX;omega
  have yB: -2000000000000<=lY s t d/\lY s t d<=2000000000000:=by unfold lY;omega
  have g1:bw (lX s t d).natAbs (lY s t d).natAbs<=2000000000000:=aAE (by omega) (by omega);have g2:lG s t d≠0:=by unfold lG;have:=Nat.gcd_pos_of_pos_right (bw (lX s t d).natAbs (lY s t d).natAbs:Int).natAbs (show 0<(lE d).natAbs by omega);omega
  have q1:=o8 (g:=lG s t d) xB;have q2:=o8 (g:=lG s t d) yB;have q3:=o8 (g:=lG s t d) e1;have r1:aH (s.a.x*lE d):=bT (by omega);have r2:aH (lA s t d*(aEq s.b s.a).x):=bT (by omega);have r3:aH (s.a.x*lE d+lA s t d*(aEq s.b s.a).x):=bT (by omega);have r4:aH (s.a.y*lE d):=bT (by omega);have r5:aH (lA s t d*(aEq s.b s.a).y):=bT (by omega);have r6:aH (s.a.y*lE d+lA s t d*(aEq s.b s.a).y):=bT (by omega);have r7:aH ((lX s t d).tdiv (lG s t d)):=bT (by omega);have r8:aH ((lY s t d).tdiv (lG s t d)):=bT (by omega);have r9:aH ((lE d).tdiv (lG s t d)):=bT (by omega);have r10:aH (0-d):=bT (by omega);have f1:d<0->0-cross (aEq t.a s.a) (aEq t.b t.a)=lA s t d:=λh=>by unfold lA;omega
  have f2:d<0->0-cross (aEq t.a s.a) (aEq s.b s.a)=lB s t d:=λh=>by unfold lB;omega
  have f3:d<0->0-d=lE d:=λh=>by unfold lE;omega
  have f4:¬d<0->cross (aEq t.a s.a) (aEq t.b t.a)=lA s t d:=λh=>by unfold lA;rw[if_neg h]
  have f5:¬d<0->cross (aEq t.a s.a) (aEq s.b s.a)=lB s t d:=λh=>by unfold lB;rw[if_neg h]
  have f6:¬d<0->d=lE d:=λh=>by unfold lE;rw[if_neg h]
  have n1:lA s t d<0->jS s t d=cz:=λh=>zl (.inl h);have n2:lE d<lA s t d->jS s t d=cz:=λh=>zl (.inr (.inl h));have n3:lB s t d<0->jS s t d=cz:=λh=>zl (.inr (.inr (.inl h)));have n4:lE d<lB s t d->jS s t d=cz:=λh=>zl (.inr (.inr (.inr h)));have t0:¬lA s t d<0->¬lE d<lA s t d->¬lB s t d<0->¬lE d<lB s t d->lA s t d=0\/lA s t d=lE d\/lB s t d=0\/lB s t d=lE d->jS s t d=⟨1,⟨(lX s t d).tdiv (lG s t d),(lY s t d).tdiv (lG s t d),(lE d).tdiv (lG s t d)⟩,cz.s⟩:=λh1 h2 h3 h4 h=>Je (by rw[Jd h1 h2 h3 h4,if_pos h]) (by decide);have t1:¬lA s t d<0->¬lE d<lA s t d->¬lB s t d<0->¬lE d<lB s t d->¬(lA s t d=0\/lA s t d=lE d\/lB s t d=0\/lB s t d=lE d)->jS s t d=⟨2,⟨(lX s t d).tdiv (lG s t d),(lY s t d).tdiv (lG s t d),(lE d).tdiv (lG s t d)⟩,cz.s⟩:=λh1 h2 h3 h4 h=>Je (by rw[Jd h1 h2 h3 h4,if_neg h]) (by decide);have b1:=gM (M:=1000000000) (by decide) bs.1;have b2:=gM (M:=1000000000) (by decide) bs.2;have b3:=gM (M:=1000000000) (by decide) bt.1;have b4:=gM (M:=1000000000) (by decide) bt.2;have b5:=gN (M:=2000000000) (by decide) u1;have b6:=gN (M:=2000000000) (by decide) u2;have b7:=gN (M:=2000000000) (by decide) u3;have hX: -9000000000000000000<=lX s t d/\lX s t d<=9000000000000000000:=by omega
  have hY: -9000000000000000000<=lY s t d/\lY s t d<=9000000000000000000:=by omega
  have hE: -9000000000000000000<=lE d/\lE d<=9000000000000000000:=by omega
  have hG1: -9000000000000000000<=((bw (lX s t d).natAbs (lY s t d).natAbs:Nat):Int):=by omega
  have hG2:((bw (lX s t d).natAbs (lY s t d).natAbs:Nat):Int)<=9000000000000000000:=by omega
  clear hs ht h0 hd bs bt u1 u2 u3 c1 c2 gM gN a1 e1 e2 x1 x2 y1 y2 xB yB g1 q1 q2 q3;obtain⟨hX1,hX2⟩:=hX;obtain⟨hY1,hY2⟩:=hY;obtain⟨hE1,hE2⟩:=hE
  with_reducible ((repeat' first|apply cF|intro);all_goals repeat cases‹_/\_›)
  all_goals first|assumption|rfl|exact f1 ‹_› |exact f2 ‹_› |exact f3 ‹_› |exact f4 ‹_› |exact f5 ‹_› |exact f6 ‹_› |(rw[n1 ‹_›];rfl)|(rw[n2 ‹_›];rfl)|(rw[n3 ‹_›];rfl)|(rw[n4 ‹_›];rfl)|(rw[t0 ‹_› ‹_› ‹_› ‹_› (.inl ‹_›)] <;>rfl)|(rw[t0 ‹_› ‹_› ‹_› ‹_› (.inr (.inl ‹_›))] <;>rfl)|(rw[t0 ‹_› ‹_› ‹_› ‹_› (.inr (.inr (.inl ‹_›)))] <;>rfl)|(rw[t0 ‹_› ‹_› ‹_› ‹_› (.inr (.inr (.inr ‹_›)))] <;>rfl)|(rw[t1 ‹_› ‹_› ‹_› ‹_› (λh=>h.elim ‹_› λh=>h.elim ‹_› λh=>h.elim ‹_› ‹_›)] <;>rfl))
noncomputable def QJ:=QH.adk aBL
def v2(v:V):List SV:=[.int .i64 v.x,.int .i64 v.y]
def se(v:V):Com:=⟨1,fT v,cz.s⟩
def l6(s t:S):Int:=cross (aEq s.b s.a) (aEq t.b t.a)
def mw(s t:S):Com:=
 if bi (eC s t) (eQ s t)=0 then se (eC s t)
 else if bi (eC s t) (eQ s t)= -1 then⟨3,⟨0,0,0⟩,⟨eC s t,eQ s t⟩⟩
 else cz
def mb1(s t:S):Bool:=decide (s.a=s.b)&&onS t s.a
def mb3(s t:S):Bool:=decide (s.a=s.b)||(decide (t.a=t.b)||decide (¬turn s.a s.b t.a=0))
def dt(s t:S):Com:=
 if(!aj s)=true then cz
 else if(!aj t)=true then cz
 else if¬l6 s t=0 then jS s t (l6 s t)
 else if mb1 s t=true then se s.a
 else if mb1 t s=true then se t.a
 else if mb3 s t=true then cz
 else mw s t
noncomputable def aDj:Con:=con (ac aS (a1 aS)) (λ(_,_)=>[]) (λ(s,t)=>R3 (dt s t))
def aBU:aDj.Okz 199:=bH QJ (λ(s,t)=>[jb 7 36 (mb1 s t),jb 9 51 (mb1 t s),jb 11 66 (mb3 s t),jP 12 [dt s t=mw s t],lU 14 3,jO 18 [(34,.box 189 (v2 (loS s)++v2 (hiS s)++v2 (loS t)++v2 (hiS t)))],jO 21 [(40,.box 44 (v2 (eC s t)))],jO 23 [(41,.box 44 (v2 (eQ s t)))]]
  ) (λ(_,_)=>⟨_,rfl⟩) λ(s,t) _=>bC (aA (dt s t) λA=>aA (loS s) λB=>aA (hiS s) λC=>aA (loS t) λD=>aA (hiS t) λE=>aA (0+2:Int) λF=>aA (!aj s) λG=>aA (!aj t) λH=>aA (aEq s.b s.a) λI=>aA (aEq t.b t.a) λJ=>aA (jS s t (cross I J)) λL=>aA (eC s t) λM=>aA (eQ s t) λN=>aA (0+2+2:Int) λO=>(G=true->0=A.k/\0=A.p.x/\0=A.p.y/\0=A.p.den/\0=A.s.a.x/\0=A.s.a.y/\0=A.s.b.x/\0=A.s.b.y)/\
 (G=false->(H=true->0=A.k/\0=A.p.x/\0=A.p.y/\0=A.p.den/\0=A.s.a.x/\0=A.s.a.y/\0=A.s.b.x/\0=A.s.b.y)/\
  (H=false->bd 1000000000 s.b/\bd 1000000000 s.a/\bd 1000000000 t.b/\bd 1000000000 t.a/\bd 2000000000 I/\bd 2000000000 J/\(¬cross I J=0->aj s=true/\aj t=true/\cross I J≠0/\(-200000000<=cross I J/\cross I J<=200000000)/\L.k=A.k/\L.p.x=A.p.x/\L.p.y=A.p.y/\L.p.den=A.p.den/\L.s.a.x=A.s.a.x/\L.s.a.y=A.s.a.y/\L.s.b.x=A.s.b.x/\L.s.b.y=A.s.b.y)/\
   (¬(¬cross I J=0)->(((s.a=s.b->onS t s.a=mb1 s t)/\
      (¬s.a=s.b->false=mb1 s t))/\
     (∀y:Unit,(mb1 s t=true->1=A.k/\s.a.x=A.p.x/\s.a.y=A.p.y/\1=A.p.den/\0=A.s.a.x/\0=A.s.a.y/\0=A.s.b.x/\0=A.s.b.y)/\
      (mb1 s t=false->((t.a=t.b->onS s t.a=mb1 t s)/\
        (¬t.a=t.b->false=mb1 t s))/\
       (∀y_1:Unit,(mb1 t s=true->1=A.k/\t.a.x=A.p.x/\t.a.y=A.p.y/\1=A.p.den/\0=A.s.a.x/\0=A.s.a.y/\0=A.s.b.x/\0=A.s.b.y)/\
        (mb1 t s=false->((s.a=s.b->true=mb3 s t)/\
          (¬s.a=s.b->(t.a=t.b->true=mb3 s t)/\
           (¬t.a=t.b->bd 1000000000 s.a/\bd 1000000000 s.b/\bd 1000000000 t.a/\decide (¬turn s.a s.b t.a=0)=mb3 s t)))/\
         (∀y_2:Unit,(mb3 s t=true->0=A.k/\0=A.p.x/\0=A.p.y/\0=A.p.den/\0=A.s.a.x/\0=A.s.a.y/\0=A.s.b.x/\0=A.s.b.y)/\
          (mb3 s t=false->dt s t=mw s t)))))))/\
    (∀y:Unit,dt s t=mw s t->(((0:Int)<4->aH (0+1)/\ix (0+1) 4/\ix 0 4/\(bf s.b s.a=true->aH (0+1)/\aH (0+1)/\ix (0+1) 4/\ix 0 4/\ix 0 4/\ix (0+1) 4/\aH (0+2)/\(F<4->aH (0+2+1)/\ix (0+2+1) 4/\ix (0+2) 4/\(bf t.b t.a=true->aH (0+2+1)/\aH (0+2+1)/\ix (0+2+1) 4/\ix (0+2) 4/\ix (0+2) 4/\ix (0+2+1) 4/\aH (0+2+2)/\(O<4->aH (0+2+2+1)/\ix (0+2+2+1) 4/\False)/\
          (¬O<4->s.b.x=B.x/\s.b.y=B.y/\s.a.x=C.x/\s.a.y=C.y/\t.b.x=D.x/\t.b.y=D.y/\t.a.x=E.x/\t.a.y=E.y))/\
         (bf t.b t.a=false->aH (0+2+2)/\(O<4->aH (0+2+2+1)/\ix (0+2+2+1) 4/\False)/\
          (¬O<4->s.b.x=B.x/\s.b.y=B.y/\s.a.x=C.x/\s.a.y=C.y/\t.a.x=D.x/\t.a.y=D.y/\t.b.x=E.x/\t.b.y=E.y)))/\
        (¬F<4->s.b.x=B.x/\s.b.y=B.y/\s.a.x=C.x/\s.a.y=C.y/\t.a.x=D.x/\t.a.y=D.y/\t.b.x=E.x/\t.b.y=E.y))/\
       (bf s.b s.a=false->aH (0+2)/\(F<4->aH (0+2+1)/\ix (0+2+1) 4/\ix (0+2) 4/\(bf t.b t.a=true->aH (0+2+1)/\aH (0+2+1)/\ix (0+2+1) 4/\ix (0+2) 4/\ix (0+2) 4/\ix (0+2+1) 4/\aH (0+2+2)/\(O<4->aH (0+2+2+1)/\ix (0+2+2+1) 4/\False)/\
          (¬O<4->s.a.x=B.x/\s.a.y=B.y/\s.b.x=C.x/\s.b.y=C.y/\t.b.x=D.x/\t.b.y=D.y/\t.a.x=E.x/\t.a.y=E.y))/\
         (bf t.b t.a=false->aH (0+2+2)/\(O<4->aH (0+2+2+1)/\ix (0+2+2+1) 4/\False)/\
          (¬O<4->s.a.x=B.x/\s.a.y=B.y/\s.b.x=C.x/\s.b.y=C.y/\t.a.x=D.x/\t.a.y=D.y/\t.b.x=E.x/\t.b.y=E.y)))/\
        (¬F<4->s.a.x=B.x/\s.a.y=B.y/\s.b.x=C.x/\s.b.y=C.y/\t.a.x=D.x/\t.a.y=D.y/\t.b.x=E.x/\t.b.y=E.y)))/\
      (¬(0:Int)<4->s.a.x=B.x/\s.a.y=B.y/\s.b.x=C.x/\s.b.y=C.y/\t.a.x=D.x/\t.a.y=D.y/\t.b.x=E.x/\t.b.y=E.y))/\
     (∀y_1:Unit,ix 0 4/\ix 1 4/\(ix 2 4/\(bf B D=true->ix 2 4/\D.x=M.x/\D.y=M.y)/\
       (bf B D=false->B.x=M.x/\B.y=M.y))/\
      (∀y_2:Unit,(ix 3 4/\(bf E C=true->ix 3 4/\E.x=N.x/\E.y=N.y)/\
        (bf E C=false->C.x=N.x/\C.y=N.y))/\
       (∀y_3:Unit,(bi M N=0->1=A.k/\M.x=A.p.x/\M.y=A.p.y/\1=A.p.den/\0=A.s.a.x/\0=A.s.a.y/\0=A.s.b.x/\0=A.s.b.y)/\
        (¬bi M N=0->(bi M N= -1->3=A.k/\0=A.p.x/\0=A.p.y/\0=A.p.den/\M.x=A.s.a.x/\M.y=A.s.a.y/\N.x=A.s.b.x/\N.y=A.s.b.y)/\
         (¬bi M N= -1->0=A.k/\0=A.p.x/\0=A.p.y/\0=A.p.den/\0=A.s.a.x/\0=A.s.a.y/\0=A.s.b.x/\0=A.s.b.y)))))))))) (by kernel_rfl) (by
  have gB:(!aj s)=false->(!aj t)=false-> -200000000<=l6 s t/\l6 s t<=200000000:=λh1 h2=>by have bs:bd 4000 s.a/\bd 4000 s.b:=mj h1;have bt:bd 4000 t.a/\bd 4000 t.b:=mj h2;have c1:=mU (iS bs.2 bs.1) (iS bt.2 bt.1);unfold l6 cross;omega
  have gM:∀{r:S} {M:Int},8000<=M->(!aj r)=false->bd M r.a/\bd M r.b/\bd M (aEq r.b r.a):=λhM h=>by have b:=mj h (M:=4000);have c:=iS b.2 b.1;unfold bd at*;omega
  have e1:(!aj s)=true->dt s t=cz:=λh=>if_pos h;have e2:(!aj t)=true->dt s t=cz:=λh=>by unfold dt;grind
  have e3:(!aj s)=false->(!aj t)=false->¬l6 s t=0->dt s t=jS s t (l6 s t):=λh1 h2 h3=>by unfold dt;grind
  have e4:(!aj s)=false->(!aj t)=false->¬¬l6 s t=0->mb1 s t=true->dt s t=se s.a:=λh1 h2 h3 h4=>by unfold dt;grind
  have e5:(!aj s)=false->(!aj t)=false->¬¬l6 s t=0->mb1 s t=false->mb1 t s=true->dt s t=se t.a:=λh1 h2 h3 h4 h5=>by unfold dt;grind
  have e6:(!aj s)=false->(!aj t)=false->¬¬l6 s t=0->mb1 s t=false->mb1 t s=false->mb3 s t=true->dt s t=cz:=λh1 h2 h3 h4 h5 h6=>by unfold dt;grind
  have e7:(!aj s)=false->(!aj t)=false->¬¬l6 s t=0->mb1 s t=false->mb1 t s=false->mb3 s t=false->dt s t=mw s t:=λh1 h2 h3 h4 h5 h6=>by unfold dt;grind
  have e8:dt s t=mw s t->bi (eC s t) (eQ s t)=0->dt s t=se (eC s t):=λh h1=>by rw[h];exact if_pos h1
  have e9:dt s t=mw s t->¬bi (eC s t) (eQ s t)=0->bi (eC s t) (eQ s t)= -1->dt s t=⟨3,⟨0,0,0⟩,⟨eC s t,eQ s t⟩⟩:=λh h1 h2=>by rw[h];unfold mw;grind
  have e10:dt s t=mw s t->¬bi (eC s t) (eQ s t)=0->¬bi (eC s t) (eQ s t)= -1->dt s t=cz:=λh h1 h2=>by rw[h];unfold mw;grind
  have q1:s.a=s.b->true=mb3 s t:=λh=>by unfold mb3;grind
  have q2:t.a=t.b->true=mb3 s t:=λh=>by unfold mb3;grind
  have q3:¬s.a=s.b->¬t.a=t.b->decide (¬turn s.a s.b t.a=0)=mb3 s t:=λh1 h2=>by unfold mb3;grind
  have q4:∀{s t:S},s.a=s.b->onS t s.a=mb1 s t:=λh=>by unfold mb1;grind
  have q5:∀{s t:S},¬s.a=s.b->false=mb1 s t:=λh=>by unfold mb1;grind
  have w1:∀{r:S},bf r.b r.a=true->r.b=loS r/\r.a=hiS r:=λh=>by unfold loS hiS;grind
  have w2:∀{r:S},bf r.b r.a=false->r.a=loS r/\r.b=hiS r:=λh=>by unfold loS hiS;grind
  have w3:bf (loS s) (loS t)=true->loS t=eC s t:=λh=>by unfold eC;rw[h];rfl
  have w4:bf (loS s) (loS t)=false->loS s=eC s t:=λh=>by unfold eC;rw[h];rfl
  have w5:bf (hiS t) (hiS s)=true->hiS t=eQ s t:=λh=>by unfold eQ;rw[h];rfl
  have w6:bf (hiS t) (hiS s)=false->hiS s=eQ s t:=λh=>by unfold eQ;rw[h];rfl
  with_reducible ((repeat' first|apply cF|intro);all_goals repeat cases‹_/\_›)
  all_goals first|assumption|rfl|(unfold ix;omega)|(unfold aH;omega)|omega|exact nb ‹_› |exact q1 ‹_› |exact q2 ‹_› |exact q3 ‹_› ‹_› |exact q4 ‹_› |exact q5 ‹_› |(rw[e1 ‹_›] <;>rfl)|(rw[e2 ‹_›] <;>rfl)|(rw[e3 ‹_› ‹_› ‹_›] <;>rfl)|(rw[e4 ‹_› ‹_› ‹_› ‹_›] <;>rfl)|(rw[e5 ‹_› ‹_› ‹_› ‹_› ‹_›] <;>rfl)|(rw[e6 ‹_› ‹_› ‹_› ‹_› ‹_› ‹_›] <;>rfl)|exact e7 ‹_› ‹_› ‹_› ‹_› ‹_› ‹_› |(rw[e8 ‹_› ‹_›] <;>rfl)|(rw[e9 ‹_› ‹_› ‹_›] <;>rfl)|(rw[e10 ‹_› ‹_› ‹_›] <;>rfl)|exact(gB ‹_› ‹_›).1|exact(gB ‹_› ‹_›).2|exact(gM (by decide) ‹_›).1|exact(gM (by decide) ‹_›).2.1|exact(gM (by decide) ‹_›).2.2|(rw[<-(w1 ‹_›).1];done)|(rw[<-(w1 ‹_›).2];done)|(rw[<-(w2 ‹_›).1];done)|(rw[<-(w2 ‹_›).2];done)|(rw[w3 ‹_›];done)|(rw[w4 ‹_›];done)|(rw[w5 ‹_›];done)|(rw[w6 ‹_›];done))
noncomputable def QR:=QJ.adk aBU
def Xo(s t:S)(d:Int):(jS s t d).k=mg s t d:=by
 unfold jS;split
 .rename_i h;rw[h];rfl
 .rfl
def ZL(s t:S):(dt s t).k=bn s t:=by
 have hc:(cz).k=0:=rfl;have h1:∀v,(se v).k=1:=λ_=>rfl;have e1:mb1 s t=true↔s.a=s.b/\onS t s.a=true:=by unfold mb1;simp
 have e2:mb1 t s=true↔t.a=t.b/\onS s t.a=true:=by unfold mb1;simp
 have e3:mb3 s t=true↔s.a=s.b\/t.a=t.b\/turn s.a s.b t.a≠0:=by unfold mb3;simp
 unfold dt bn mw;rw[<-l6];simp only[<-e1,<-e2,<-e3];cases aj s<;>cases aj t<;>simp only[yO,Bool.not_false,Bool.and_true,Bool.and_false,if_true,qB,if_false,hc,ne_eq]
 repeat' split
 all_goals first|rfl|exact Xo _ _ _
noncomputable def aDK:Con:=con (ac aS (a1 aS)) (λ(_,_)=>[]) (λ(s,t)=> .iqz (bn s t)
 )
def aCk:aDK.Okz 156:=bH QR (λ(_,_)=>[]) (λ(_,_)=>⟨_,rfl⟩) λ(s,t) _=>bC ((dt s t).k=bn s t) (by kernel_rfl) (by exact ZL s t)
noncomputable def Qs:=QR.adk aCk
noncomputable def aDM:Con:=con (ac (aL .V) (a1 aN)) (λ(r,i)=>[i<r.length,r.length<=1000000]) (λ(r,i)=>aV.enc (prv r i)
 )
def aCn:aDM.Okz 153:=bH Qs (λ(_,_)=>[]) (λ(_,_)=>⟨_,rfl⟩) λ(r,i) hp=>bC (aH ((i:Int)+r.length)/\aH ((i:Int)+r.length-1)/\(r.length:Int)≠0/\ix (c8 ((i:Int)+r.length-1) (r.length:Int)) r.length/\(aEn r (c8 ((i:Int)+r.length-1) (r.length:Int)).toNat).x=(prv r i).x/\(aEn r (c8 ((i:Int)+r.length-1) (r.length:Int)).toNat).y=(prv r i).y) (by kernel_rfl) (by
 change i<r.length/\r.length<=1000000 at hp;have h:c8 ((i:Int)+r.length-1) (r.length:Int)=(((i+r.length-1) % r.length:Nat):Int):=by rw[show(i:Int)+r.length-1=((i+r.length-1:Nat):Int) by omega,<-Int.ofNat_tmod]
 rw[h];exact⟨bT (by omega),bT (by omega),by omega,ip (by omega),rfl,rfl⟩)
noncomputable def Qv:=Qs.adk aCn
noncomputable def aDL:Con:=con (ac (aL .V) (a1 aN)) (λ(r,i)=>[i<r.length,r.length<=1000000]) (λ(r,i)=>aV.enc (nxt r i)
 )
def aCm:aDL.Okz 154:=bH Qv (λ(_,_)=>[]) (λ(_,_)=>⟨_,rfl⟩) λ(r,i) hp=>bC (aA ((i+1) % r.length) λA=>aH ((i:Int)+1)/\(r.length:Int)≠0/\ix (((i+1) % r.length:Nat):Int) r.length/\(aEn r A).x=(nxt r i).x/\(aEn r A).y=(nxt r i).y) (by kernel_rfl) (by change i<r.length/\r.length<=1000000 at hp;exact⟨bT (by omega),by omega,ip (by omega),rfl,rfl⟩)
noncomputable def Qu:=Qv.adk aCm
noncomputable def Rq:Con:=Hi (a1 (aL .V)) (λr=>[r.length<=1000]) 46 .S (λr=>aJ r) (λ_=>[])
def Rh:Rq.Okz 155:=OF (oK Qu.o) (raw:=uj) (λr=>[lp 5 11 r.length bg [21] (λk=>[(3,.own 21 .S k)]) (λk=>[(21,.row 46 .S ((aJ r).take k))])]
  ) (λ_=>⟨[],rfl⟩) λr hp=>bC (aA (aJ r) λB=>aA (r.length:Int) λG=>aA ([] :List S) λH=>(G<2->aJ r=H)/\
 (¬G<2->(0=(0:Int)/\(0:Nat)=0/\aW 0 B=H/\(0:Nat)<=r.length)/\
  (∀x:Nat,aA (x:Int) λA=>aA (aW x B) λE=>aA (⟨(aEn r x),(nxt r x)⟩:S) λF=>x<=r.length->(A<r.length->ix A r.length/\x<r.length/\r.length<=1000000/\x=E.length/\E.length+[F].length<=1000000/\aH (A+1)/\A+1=((x+1:Nat):Int)/\(aW x B++[F]).length=x+1/\aW x B++[F] =aW (x+1) B/\x+1<=r.length/\r.length-(x+1)<r.length-x)/\
   (¬A<r.length->aW x B=aJ r/\x=E.length)))) (by kernel_rfl) (by
  change r.length<=1000 at hp;have e0:(r.length:Int)<2->aJ r=[] :=λh=>by unfold aJ;grind
  have e1:¬(r.length:Int)<2->(aJ r).length=r.length:=λh=>wF r (by omega);have e2:¬(r.length:Int)<2->∀x:Nat,(x:Int)<r.length->aW x (aJ r)++[⟨aEn r x,nxt r x⟩] =aW (x+1) (aJ r):=λh x hx=>by
   have hx':x<(aJ r).length:=by rw[e1 h];omega
   rw[kR hx',<-jD hx',wR (by omega) (by omega)];rfl
  have e3:¬(r.length:Int)<2->∀x:Nat,x<=r.length->(aW x (aJ r)).length=x:=λh x hx=>by grind
  have e4:¬(r.length:Int)<2->∀x:Nat,¬(x:Int)<r.length->aW x (aJ r)=aJ r:=λh x hx=>gu (by omega)
  with_reducible ((repeat' first|apply cF|intro);all_goals repeat cases‹_/\_›)
  all_goals grind)
noncomputable def Qt:=Qu.adk Rh
noncomputable def aDN:Con:=con (a1 (aL .V)) (λr=>[near r=true,r.length<=100000]) (λr=> .iqz (area r))
def aCo:aDN.Okz 152:=bH Qt (λr=>[lp 3 8 r.length bg [] (λk=>[(3,.iqz (ar r k))]) bg]
  ) (λ_=>⟨_,rfl⟩) λr hp=>bC ((0=(0:Int)/\0=ar r 0/\(0:Nat)<=r.length)/\
 (∀x:Nat,aA (x:Int) λA=>aA (aEn r x) λB=>aA (nxt r x) λC=>x<=r.length->(A<r.length->ix A r.length/\x<r.length/\r.length<=1000000/\bd 2000000000 B/\bd 2000000000 C/\aH (ar r x+cross B C)/\aH (A+1)/\A+1=((x+1:Nat):Int)/\ar r x+cross B C=ar r (x+1)/\x+1<=r.length/\r.length-(x+1)<r.length-x)/\
  (¬A<r.length->ar r x=area r))) (by kernel_rfl) (by
  change near r=true/\r.length<=100000 at hp;have hn:=λi hi=> @ma r hp.1 i hi 2000000000;have ha:=λk (hk:k<=r.length)=>u4 hp.1 k hk;have hs:=At r;have hE:∀x:Nat,¬(x:Int)<r.length->x<=r.length->ar r x=area r:=λx h1 h2=>by rw[show x=r.length by omega];rfl
  have hI:∀x:Nat,(x:Int)<r.length->aH (ar r x+cross (aEn r x) (nxt r x)):=λx h=>by have h1:=ha (x+1) (by omega);rw[hs x]at h1;exact bT (by unfold nxt;omega)
  with_reducible ((repeat' first|apply cF|intro);all_goals repeat cases‹_/\_›)
  all_goals first|rfl|with_reducible solve_by_elim|exact hn _ (by omega) (by decide)|exact hn _ (bk _ (by omega)) (by decide)|exact(hs _).symm|grind)
noncomputable def Qw:=Qt.adk aCo
noncomputable def aDk:Con:=con (a1 aV) (λ_=>[]) (λv=> .bool (!ag v 2000)
 )
def aBV:aDk.Okz 198:=bH Qw bg (λ_=>⟨_,rfl⟩) λv _=>bC (aA (!ag v 2000) λA=>(0:Int)<=2000/\(2000:Int)<=9000000000000000000/\A=A) (by kernel_rfl) (by grind)
noncomputable def QS:=Qw.adk aBV
def aF(f:Nat):Ar Unit where
 enc _:= .fnp f [] []
 dec s:=match s with
  | .fnp g [] [] =>(match bB g f with|true=>some ()|false=>none)
  |_=>none
 ok s a h:=by
  split at h
  .split at h<;>cases h;simp_all
  .cases h
 pl _:=⟨_,rfl⟩
def fI{α:Type}(q:α->Bool)(l:List α):Int:=match l.findIdx? q with
 |some i=>(i:Int)
 |none=> -1
def pm{t:LT}{l:List t.ty}{q:t.ty->Bool}{k:Nat}(hk:k<l.length)(h:q (t.nth l k)=true)(hu:aO (λj=>q (t.nth l j)=false) k):(k:Int)=fI q l:=by
 have e:l.findIdx? q=some k:=by rw[List.findIdx?_eq_some_iff_getElem];refine⟨hk,by rw[<-t.nth_eq l hk];exact h,λj hj=> ?_⟩;have:=hu j hj;dsimp only at this;rw[t.nth_eq l (by omega)]at this;rw[this];simp
 unfold fI;rw[e]
def sJ{t:LT}{l:List t.ty}{q:t.ty->Bool}(hu:aO (λj=>q (t.nth l j)=false) l.length): -1=fI q l:=by
 have e:l.findIdx? q=none:=by rw[List.findIdx?_eq_none_iff];intro x hx;obtain⟨j,hj,rfl⟩:=jf hx;have:=hu j hj;dsimp only at this;rwa[t.nth_eq l hj]at this
 unfold fI;rw[e]
def uX{α:Type}(q:α->Bool)(l:List α):decide (0<=fI q l)=l.any q:=by unfold fI;grind
noncomputable def aDc:Con:=con (ac (aL .V) (a1 (aF 198))) (λ(l,_)=>[l.length<=1000000]) (λ(l,_)=> .iqz (fI (λv=> !ag v 2000) l))
def aBN:aDc.Okz 215:=bH QS (λ(l,_)=>[cnt 2 8 l.length (aO λj=>(!ag (aEn l j) 2000)=false)]
  ) (λ(_,_)=>⟨_,rfl⟩) λ(l,u) hp=>bC ((0=(0:Int)/\(0:Nat)<=l.length/\aO (λj=>(!ag (aEn l j) 2000)=false) 0)/\
 (∀x:Nat,aA (x:Int) λA=>aA (!ag (aEn l x) 2000) λB=>x<=l.length/\aO (λj=>(!ag (aEn l j) 2000)=false) x->(A<l.length->ix A l.length/\(B=true->A=fI (λv=>(!ag v 2000)) l)/\
   (B=false->aH (A+1)/\A+1=((x+1:Nat):Int)/\x+1<=l.length/\aO (λj=>(!ag (aEn l j) 2000)=false) (x+1)/\l.length-(x+1)<l.length-x))/\
  (¬A<l.length-> -1=fI (λv=>(!ag v 2000)) l))) (by kernel_rfl) (by
  change l.length<=1000000 at hp
  with_reducible ((repeat' first|apply cF|intro);all_goals repeat cases‹_/\_›)
  all_goals first|rfl|exact pm (t:= .V) (by omega) ‹_› ‹_› |(obtain rfl:_=l.length:=tG ‹_› (by omega);exact sJ (t:= .V) ‹_›)|grind)
noncomputable def QL:=QS.adk aBN
noncomputable def aDl:Con:=con (ac (aL .V) (a1 (aF 198))) (λ(l,_)=>[l.length<=1000000]) (λ(l,_)=> .bool (l.any λv=> !ag v 2000)
 )
def aBW:aDl.Okz 197:=bH QL (λ(_,_)=>[]) (λ(_,_)=>⟨_,rfl⟩) λ(l,u) hp=>bC (l.length<=1000000/\decide (0<=fI (λv=>(!ag v 2000)) l)=fc l (λv=>(!ag v 2000))) (by kernel_rfl) (by change l.length<=1000000 at hp;exact⟨hp,uX _ _⟩)
noncomputable def QT:=QL.adk aBW
noncomputable def aDO:Con:=con (a1 (aL .V)) (λl=>[l.length<=1000000]) (λl=> .bool (near l)
 )
def aCp:aDO.Okz 151:=bH QT bg (λ_=>⟨_,rfl⟩) λl hp=>bC (l.length<=1000000/\(!fc l (λv=>(!ag v 2000)))=near l) (by kernel_rfl) (by change l.length<=1000000 at hp;refine⟨hp,?_⟩;unfold near;grind)
noncomputable def Qx:=QT.adk aCp
def tP(r:aD)(i:Nat):Prop:=¬turn (prv r i) (aEn r i) (nxt r i)=0
def fg(r:aD)(i k:Nat):Bool:=(decide (¬(k:Int)=i+1)&&(decide (¬(i:Int)=0)||decide (¬(k:Int)=r.length-1)))&&decide (¬bn (bL r i) (bL r k)=0)
def up2{p:Nat->Nat->Prop}{i k n:Nat}(h:∀j,i<j->j<k->p i j)(hk:¬(k:Int)<n):∀j,i<j->j<n->p i j:=λj h1 h2=>h j h1 (by omega)
def C8(r:aD):cg r=true↔3<=r.length/\r.length<=40/\near r=true/\0<area r/\(∀i,i<r.length->tP r i)/\(∀i k,i<k->k<r.length->fg r i k=false):=by unfold cg tP fg;simp only[bm,decide_eq_true_eq,bZ,bz,je,bne_iff_ne,beq_iff_eq,Bool.and_eq_false_imp,decide_eq_false_iff_not,ne_eq,and_assoc,R9];grind
noncomputable def c83:Con:=con (a1 (aL .V)) (λr=>[r.length<=1000]) (λr=> .bool (cg r))
def k83:c83.Okz 83:=bH Qx (λr=>[jP 4 [3<=r.length,r.length<=40,near r=true,0<area r],cnt 5 29 r.length (aO (tP r)),lp 12 47 r.length (λi=>[aO (λi=>∀k,i<k->k<r.length->fg r i k=false) i]) [] bg bg λi=>[(15,.mk Nat (λF _=>ms F 8) [] (λk=>[i<k,k<=r.length,∀j,i<j->j<k->fg r i j=false]) (λk=>[(8,.iqz (k:Int))]) bg (λk=>r.length-k) λk=>[jb 18 82 (fg r i k)])]]
  ) (λ_=>⟨_,rfl⟩) λr hp=>bC (aA (aJ r) λD=>aA (r.length:Int) λI=>((I<3->false=cg r)/\
  (¬I<3->(40<I->false=cg r)/\
   (¬40<I->r.length<=1000000/\((!near r)=true->false=cg r)/\
    ((!near r)=false->near r=true/\r.length<=100000/\(area r<=0->false=cg r)/\
     (¬area r<=0->(3:Nat)<=r.length/\r.length<=40/\near r=true/\0<area r)))))/\
 (∀y:Unit,(3:Nat)<=r.length/\r.length<=40/\near r=true/\0<area r->(0=(0:Int)/\(0:Nat)<=r.length/\aO (tP r) 0)/\
  (∀x:Nat,aA (x:Int) λA=>aA (prv r x) λE=>aA (aEn r x) λF=>aA (nxt r x) λG=>x<=r.length/\aO (tP r) x->(A<r.length->ix A r.length/\x<r.length/\r.length<=1000000/\x<r.length/\r.length<=1000000/\bd 1000000000 E/\bd 1000000000 F/\bd 1000000000 G/\(turn E F G=0->false=cg r)/\
    (¬turn E F G=0->aH (A+1)/\A+1=((x+1:Nat):Int)/\x+1<=r.length/\aO (tP r) (x+1)/\r.length-(x+1)<r.length-x))/\
   (¬A<r.length->r.length<=1000/\(0=(0:Int)/\(0:Nat)<=r.length/\aO (λi=>∀k:Nat,i<k->k<r.length->fg r i k=false) 0)/\
    (∀x_1:Nat,aA (x_1:Int) λB=>aA (x_1+1:Nat) λH=>x_1<=r.length/\aO (λi=>∀k:Nat,i<k->k<r.length->fg r i k=false) x_1->(B<r.length->aH (B+1)/\(B+1=(H:Int)/\x_1<x_1+1/\x_1+1<=r.length/\(∀j:Nat,x_1<j->j<x_1+1->fg r x_1 j=false))/\
      (∀x_2:Nat,aA (x_2:Int) λC=>x_1<x_2/\x_2<=r.length/\(∀j:Nat,x_1<j->j<x_2->fg r x_1 j=false)->(C<r.length->(aH (B+1)/\(¬C=x_1+1->(¬B=0->ix B D.length/\x_1<D.length/\ix C D.length/\x_2<D.length/\decide (¬bn (az D x_1) (az D x_2)=0)=fg r x_1 x_2)/\
          (¬(¬B=0)->aH (I-1)/\(¬C=r.length-1->ix B D.length/\x_1<D.length/\ix C D.length/\x_2<D.length/\decide (¬bn (az D x_1) (az D x_2)=0)=fg r x_1 x_2)/\
           (¬(¬C=r.length-1)->false=fg r x_1 x_2)))/\
         (¬(¬C=x_1+1)->false=fg r x_1 x_2))/\
        (∀y_1:Unit,(fg r x_1 x_2=true->false=cg r)/\
         (fg r x_1 x_2=false->aH (C+1)/\C+1=((x_2+1:Nat):Int)/\x_1<x_2+1/\x_2+1<=r.length/\(∀j:Nat,x_1<j->j<x_2+1->fg r x_1 j=false)/\r.length-(x_2+1)<r.length-x_2)))/\
       (¬C<r.length->aH (B+1)/\B+1=(H:Int)/\x_1+1<=r.length/\aO (λi=>∀k:Nat,i<k->k<r.length->fg r i k=false) (x_1+1)/\r.length-(x_1+1)<r.length-x_1)))/\
     (¬B<r.length->true=cg r)))))) (by kernel_rfl) (by
  change r.length<=1000 at hp;have iff:=C8 r;have hf:(cg r=true->False)->false=cg r:=λh=>by grind
  have el:3<=r.length->(aJ r).length=r.length:=λh=>wF r (by omega);have en:near r=true->∀i,i<r.length->bd 1000000000 (aEn r i):=λh i hi=>ma h hi;have ep:3<=r.length->∀i,i<r.length->az (aJ r) i=bL r i:=λh i hi=>wR (by omega) hi;have hE:3<=r.length->r.length<=40->near r=true->0<area r->∀x y:Nat,¬(x:Int)<r.length->¬(y:Int)<r.length->aO (tP r) x->aO (λi=>∀k:Nat,i<k->k<r.length->fg r i k=false) y->true=cg r:=λh1 h2 h3 h4 x y hx hy h5 h6=>
   (iff.2 ⟨h1,h2,h3,h4,λi hi=>h5 i (by omega),λi k hi hk=>h6 i (by omega) k hi hk⟩).symm
  have b0:∀x y:Nat,¬(¬(y:Int)=x+1)->false=fg r x y:=λx y h=>by unfold fg;grind
  have b1:∀x y:Nat,¬(¬(x:Int)=0)->¬(¬(y:Int)=r.length-1)->false=fg r x y:=λx y h1 h2=>by unfold fg;grind
  have b2:∀x y:Nat,3<=r.length->¬(y:Int)=x+1->¬(x:Int)=0->(x:Int)<r.length->(y:Int)<r.length->decide (¬bn (az (aJ r) x) (az (aJ r) y)=0)=fg r x y:=λx y h0 h1 h2 h3 h4=>by unfold fg;grind
  have b3:∀x y:Nat,3<=r.length->¬(y:Int)=x+1->¬(y:Int)=r.length-1->(x:Int)<r.length->(y:Int)<r.length->decide (¬bn (az (aJ r) x) (az (aJ r) y)=0)=fg r x y:=λx y h0 h1 h2 h3 h4=>by unfold fg;grind
  with_reducible ((repeat' first|apply cF|intro);all_goals repeat cases‹_/\_›)
  all_goals first|assumption|rfl|exact trivial|exact nb ‹_› |exact nb' ‹_› |omega|exact ip (by omega)|(unfold ix;omega)|(unfold aH;omega)|exact ii _|exact cP ‹_› ‹_› |(refine cP ‹_› ?_;simp_all;done)|exact en ‹_› _ (by omega)|exact en ‹_› _ (bk _ (by omega))|(rw[el ‹_›];exact dr (by omega))|(rw[el ‹_›];omega)|exact b0 _ _ ‹_› |exact b1 _ _ ‹_› ‹_› |exact b2 _ _ ‹_› ‹_› ‹_› ‹_› ‹_› |exact b3 _ _ ‹_› ‹_› ‹_› ‹_› ‹_› |exact hE ‹_› ‹_› ‹_› ‹_› _ _ ‹_› ‹_› ‹_› ‹_› |(refine hf λh=> ?_;have h:=iff.1 h;first|omega|(have h4:=‹(!near r)=true›;rw[h.2.2.1]at h4;cases h4)|(exact absurd ‹turn _ _ _=0› (h.2.2.2.2.1 _ (by omega)))|grind)|exact cP ‹_› (show tP r _ from‹¬turn _ _ _=0›)|(intro j h1 h2;omega)|exact cP ‹_› (up2 (p:=λi k=>fg r i k=false) ‹_› ‹_›)|grind)
noncomputable def t83:=Qx.adk k83
def X5(n:Nat)(w:World)(h0:0<n)(hn:n<=100000):
  Calls bD 207 #[.slice none 0 0,.int .i64 n] w λe w'=>∃v,e= .returned v/\w'.ownsRow w.heap.size 44 2 v 0 []/\Below w.heap.size w w':=by
 have hinf:(bD.info? 44).map (λi=>(i.zero,i.size,i.bytes))=some (some (.agg #[.int .i64 0,.int .i64 0]),2,16):=by kernel_rfl
 obtain⟨i,hi1,hi2⟩:=lQ.1 hinf;simp only[Prod.mk.injEq]at hi2;obtain⟨i1,i2,i3⟩:=hi2;have hold:(Builtin.firstCells i.size 0 (.slice none 0 0)).run bD w.drew= .ok ([] :List Value).toArray w.drew:=run_firstCells_none w.drew i.size 0 0 0;have hrz:∀ty,(Builtin.append_ #[23,3] ty #[.slice none 0 0,.int .i64 n]).run bD w= .ok (.slice (some ⟨w.heap.size,0,none⟩) n (grownCap w n 0 44))
   (w.drew.alloc (.cells (#[] ++Builtin.zeroCells #[.int .i64 0,.int .i64 0] n++Builtin.zeroCells #[.int .i64 0,.int .i64 0] (grownCap w n 0 44-n)) 44)):=λty=>by
  have h:=Lib.run_append_grow_zeros w 23 3 ty 44 i (.agg #[.int .i64 0,.int .i64 0]) .i64 .i64 Tryz.underlying23 o4 hi1 i1 none 0 0 [] hold n h0 (by omega) (by omega) (by omega) (by grind)
   (by unfold Builtin.nextslicecap;grind)
  rw[jg]at h;exact h
 have hGn:n<=grownCap w n 0 44:=grownCap_ge w _ _ _;have hGm:=grownCap_le_maxLen w n 0 44 (by unfold maxLen;omega);obtain⟨G,hG⟩:∃G,G=grownCap w n 0 44:=⟨_,rfl⟩;rw[<-hG]at hrz hGn hGm;have hG63:G<=9223372036854775807:=by unfold maxLen at hGm;omega
 have hzc:∀m,(Builtin.zeroCells #[.int .i64 0,.int .i64 0] m).size=m*2:=by intro m;unfold Builtin.zeroCells;simp
 obtain⟨cur,hcur⟩:∃cur,cur=(#[] ++Builtin.zeroCells #[.int .i64 0,.int .i64 0] n++Builtin.zeroCells #[.int .i64 0,.int .i64 0] (G-n):Array Value):=⟨_,rfl⟩;have hcs:cur.size=G*2:=by rw[hcur];simp[hzc];omega
 rw[<-hcur]at hrz;have hrow:(w.drew.alloc (.cells cur 44)).ownsRow w.heap.size 44 2 (.slice (some ⟨w.heap.size,0,none⟩) 0 G) 0 [] :=
  ⟨by simp,.inr ⟨w.heap.size,G,cur,rfl,bQ _,Blk.new w.drew 44 cur,by omega,hGm,hcs,by simp⟩⟩
 have hbl:Below w.heap.size w (w.drew.alloc (.cells cur 44)):=((Below.refl _ _).drew).alloc (bQ _) _;clear hold hinf hi1 i1 i2 i3 hcur hcs hzc hG hGm
 go_enter Tryz.func207,Tryz.ntmps207
 go_wp2_with (at_builtin;refine Lib.wpList_append_run _ rfl _ _ _ _ rfl _ _ rfl rfl _ _ (hrz _) ?_)
 all_goals
  go_ret
  exact⟨_,rfl,hrow,hbl⟩
def VZ{n:Nat}(h0:0<n)(hn:n<=100000):Hk bD 207 [.int .i64 n] 44 2 [] 0 [] :=by
 refine⟨by kernel_rfl,by decide,λC w vs hC h=> ?_⟩;unfold af at h;obtain⟨v,r,rfl,h1,h2⟩:=h;unfold aU at h1;unfold af at h2;subst h1 h2;refine(X5 n w h0 hn).mono ?_;rintro e w' ⟨v,rfl,⟨_,h3⟩,hb⟩;rcases h3 with⟨rfl,_⟩|⟨g,cap,cur,rfl,h4,h5,_,h6,h7,_⟩
 .exact⟨_,[],none,0,rfl,hb,by unfold af;rfl,.inl ⟨rfl,rfl,rfl,rfl,rfl⟩⟩
 .exact⟨_,[],some g,cap,rfl,hb,by unfold af;rfl,.inr ⟨g,cur,rfl,rfl,i5 _,h4,h5,h7,i5 _,h6,λi x hi=>by simp at hi⟩⟩
def He:List SV->Option Nat
 |[.nil,.int .i64 (.ofNat n)] =>some n
 |_=>none
def WM{s:List SV}{n:Nat}(h:He s=some n):s=[.nil,.int .i64 (n:Int)] :=by
 unfold He at h;split at h
 .cases h;rfl
 .cases h
def aDf:Con:=⟨Nat,He,λn=>[0<n,n<=100000],.ownN 44 .V (λ_=>[])⟩
def aBQ:aDf.Okz 207:=by intro s n hd hp;rw[WM hd];exact⟨[.int .i64 ((show Nat from n:Nat):Int)],rfl,VZ (hp _ cE) (hp _ (cB _ cE))⟩
def aPt:Ar Pt where
 enc p:= .pro [.int .i64 p.x,.int .i64 p.y,.int .i64 p.den] 0
 dec s:=match s with
  | .pro [.int .i64 x,.int .i64 y,.int .i64 z] 0=>some ⟨x,y,z⟩
  |_=>none
 ok s a h:=by grind
 pl _:=⟨_,rfl⟩
def jPU(key:Nat)(I:List Prop)(u:Frm):Nat×Ann:=(key+10000,.mk Unit (λ_ _=>some ()) [] (λ_=>I) (λ_=>u) (λ_=>[]) (λ_=>0) (λ_=>[]))
def yF(p:Pt)(l:List S):Bool:=l.foldl (λb s=>b !=dY s p) false
def Vq{p:Pt}{l:List S}{k:Nat}(h:k<l.length):yF p (l.take (k+1))=(yF p (l.take k) !=dY (az l k) p):=by unfold yF;rw[rL,eZ h,Cm,jD h];rfl
def LZ{p:Pt}:∀{l:List S} {k:Nat} (ins:Bool),k<l.length->(∀j,j<k->onP (az l j) p=false)->onP (az l k) p=true->dq p l ins=1
 |[],k,ins,h,_,_=>by simp at h
 |s::l,0,ins,h,_,h2=>by
  unfold dq;rw[show onP s p=true from h2];rfl
 |s::l,k+1,ins,h,h1,h2=>by
  unfold dq;rw[show onP s p=false from h1 0 (by omega)];exact LZ (l:=l) (k:=k) _ (by simpa using h) (λj hj=>h1 (j+1) (by omega)) h2
def KD{p:Pt}:∀{l:List S} (ins:Bool),(∀j,j<l.length->onP (az l j) p=false)->dq p l ins=if l.foldl (λb s=>b !=dY s p) ins=true then 2 else 0
 |[],ins,_=>rfl
 |s::l,ins,h1=>by
  unfold dq;rw[show onP s p=false from h1 0 (by simp)];exact KD (l:=l) _ (λj hj=>h1 (j+1) (by grind))
def pb(r:aD)(p:Pt)(k:Nat):Bool:=yF p ((aJ r).take k)
def YF{r:aD}(h:cg r=true){j:Nat}(hj:j<(aJ r).length):bd 2000 (az (aJ r) j).a/\bd 2000 (az (aJ r) j).b:=OA (by rw[<-qP];exact h) hj
def cOK(a b:V):Prop:=(-4000000000000000000<=a.x*b.y/\a.x*b.y<=4000000000000000000)/\(-4000000000000000000<=a.y*b.x/\a.y*b.x<=4000000000000000000)
noncomputable def aBn:Con:=con (ac aV (a1 aV)) (λ(a,b)=>[cOK a b]) (λ(a,b)=> .iqz (cross a b)
 )
def aBb:aBn.Okz 111:=bH t83 (λ(_,_)=>[]) (λ(_,_)=>⟨_,rfl⟩) λ(a,b) hp=>bC (aH (a.x*b.y)/\aH (a.y*b.x)/\aH (a.x*b.y-a.y*b.x)/\a.x*b.y-a.y*b.x=cross a b) (by kernel_rfl) (by change cOK a b at hp;unfold cOK at hp;exact⟨bT (by omega),bT (by omega),bT (by omega),rfl⟩)
noncomputable def PX:=t83.adk aBb
noncomputable def aDm:Con:=con (ac aV (a1 aPt)) (λ(v,p)=>[PtB p,bd 10000 v]) (λ(v,p)=>aV.enc (toV p v)
 )
def aBX:aDm.Okz 186:=bH PX (λ(_,_)=>[]) (λ(_,_)=>⟨_,rfl⟩) λ(v,p) hp=>bC (aH (v.x*p.den)/\aH (p.x-v.x*p.den)/\aH (v.y*p.den)/\aH (p.y-v.y*p.den)/\p.x-v.x*p.den=(toV p v).x/\p.y-v.y*p.den=(toV p v).y) (by kernel_rfl) (by change PtB p/\bd 10000 v at hp;have h:=hp.1.off hp.2;have h2:(-600000000000<=p.x/\p.x<=600000000000)/\(-600000000000<=p.y/\p.y<=600000000000):=hp.1.2;exact⟨bT (by omega),bT (by omega),bT (by omega),bT (by omega),rfl,rfl⟩)
noncomputable def QU:=PX.adk aBX
noncomputable def aDV:Con:=con (ac (aL .V) (a1 aT)) (λ(r,_)=>[r.length<=1000]) (λ(r,p)=> .iqz (bY r p))
def aCv:aDV.Okz 140:=bH QU (λ(r,p)=>[jP 3 [cg r=true,dO p=true],lp 6 25 (aJ r).length (λk=>[aO (λj=>onP (nE r j) p=false) k]) [] (λk=>[(6,.bool (pb r p k))]) bg λk=>[jb 11 77 (onP (nE r k) p),jb 14 91 (dY (nE r k) p),jPU 15 [onP (nE r k) p=false] [(6,.bool (pb r p (k+1)))]]]
  ) (λ(_,_)=>⟨_,rfl⟩) λ(r,p) hp=>bC (aA (aJ r) λD=>aA (!cg r) λG=>aA (!dO p) λH=>(r.length<=1000/\(G=true->0=bY r p)/\
  (G=false->(H=true->0=bY r p)/\
   (H=false->cg r=true/\dO p=true)))/\
 (∀y:Unit,cg r=true/\dO p=true->r.length<=1000/\(0=(0:Int)/\false=pb r p 0/\(0:Nat)<=D.length/\aO (λj=>onP (nE r j) p=false) 0)/\
  (∀x:Nat,aA (x+1) λA=>aA (nE r x) λB=>aA (x:Int) λC=>aA (toV p B.a) λE=>aA (toV p B.b) λF=>aA (aEq B.b B.a) λI=>aA (decide (0<=E.y) !=decide (0<=F.y)) λJ=>x<=D.length/\aO (λj=>onP (nE r j) p=false) x->(C<D.length->(ix C D.length/\x<D.length/\PtB p/\bd 10000 B.a/\PtB p/\bd 10000 B.b/\bd 1000000000 B.b/\bd 1000000000 B.a/\cOK I E/\((cross I E=0->(Min.min E.x F.x<=0->(0<=Max.max E.x F.x->(Min.min E.y F.y<=0->decide (0<=Max.max E.y F.y)=onP B p)/\
         (¬Min.min E.y F.y<=0->false=onP B p))/\
        (¬0<=Max.max E.x F.x->false=onP B p))/\
       (¬Min.min E.x F.x<=0->false=onP B p))/\
      (¬cross I E=0->false=onP B p))/\
     (∀y_1:Unit,(onP B p=true->1=bY r p)/\
      (onP B p=false->((J=true->(decide (0<=E.y)==decide (0<cross I E))=dY B p)/\
        (J=false->false=dY B p))/\
       (∀y_2:Unit,(dY B p=true->(!pb r p x)=pb r p A/\onP B p=false)/\
        (dY B p=false->pb r p x=pb r p A/\onP B p=false)))))/\
    (∀y_1:Unit,onP B p=false->aH (C+1)/\C+1=((x+1:Nat):Int)/\pb r p A=pb r p A/\x+1<=D.length/\aO (λj=>onP (nE r j) p=false) A/\D.length-A<D.length-x))/\
   (¬C<D.length->(pb r p x=true->2=bY r p)/\
    (pb r p x=false->0=bY r p))))) (by kernel_rfl) (by
  change r.length<=1000 at hp;have e0:pb r p 0=false:=rfl;have es:∀k:Nat,(k:Int)<(aJ r).length->pb r p (k+1)=(pb r p k !=dY (nE r k) p):=λk h=>Vq (by omega);have hw0:cg r=false\/dO p=false->0=bY r p:=λh=>by unfold bY;grind
  have hw:cg r=true->dO p=true->bY r p=dq p (aJ r) false:=λh1 h2=>by unfold bY;simp[h1,h2]
  have eb:cg r=true->∀j:Nat,(j:Int)<(aJ r).length->bd 2000 (az (aJ r) j).a/\bd 2000 (az (aJ r) j).b:=λh j hj=>YF h (by omega);have el:(aJ r).length<=1000:=by unfold aJ;split<;>simp<;>omega
  have s1:∀j:Nat,(j:Int)<(aJ r).length->aO (λj=>onP (nE r j) p=false) j->onP (nE r j) p=true->dq p (aJ r) false=1:=λj h1 h2 h3=>LZ false (by omega) h2 h3;have s2:∀k:Nat,¬(k:Int)<(aJ r).length->k<=(aJ r).length->aO (λj=>onP (nE r j) p=false) k->dq p (aJ r) false=if pb r p k=true then 2 else 0:=λk h1 h2 h=>by
   obtain rfl:k=(aJ r).length:=by omega
   rw[KD false h];unfold pb yF;grind
  have gV:cg r=true->dO p=true->∀j:Nat,(j:Int)<(aJ r).length->cOK (aEq (az (aJ r) j).b (az (aJ r) j).a) (toV p (az (aJ r) j).a):=λh1 h2 j hj=>by
   have b1:=iS (eb h1 j hj).2 (eb h1 j hj).1;have hB:=PtB.of h2;have b2:=hB.off (eb h1 j hj).1.mono;have h2:(-600000000000<=p.x/\p.x<=600000000000)/\(-600000000000<=p.y/\p.y<=600000000000):=hB.2;have b3:bd 2000000000000 (toV p (az (aJ r) j).a):=by unfold bd toV;dsimp only;omega
   exact⟨by have:=gS b1.1 b3.2;omega,by have:=gS b1.2 b3.1;omega⟩
  have oN:∀j:Nat,(¬fP (nE r j) p=0\/¬Min.min (toV p (nE r j).a).x (toV p (nE r j).b).x<=0\/¬0<=Max.max (toV p (nE r j).a).x (toV p (nE r j).b).x\/¬Min.min (toV p (nE r j).a).y (toV p (nE r j).b).y<=0)->false=onP (nE r j) p:=λj h=>by symm;unfold onP;grind
  have oY:∀j:Nat,fP (nE r j) p=0->Min.min (toV p (nE r j).a).x (toV p (nE r j).b).x<=0->0<=Max.max (toV p (nE r j).a).x (toV p (nE r j).b).x->Min.min (toV p (nE r j).a).y (toV p (nE r j).b).y<=0->decide (0<=Max.max (toV p (nE r j).a).y (toV p (nE r j).b).y)=onP (nE r j) p:=λj h1 h2 h3 h4=>by unfold onP;grind
  have hN:∀j:Nat,(decide (0<=(toV p (nE r j).a).y) !=decide (0<=(toV p (nE r j).b).y))=false->false=dY (nE r j) p:=λj h=>by unfold dY;rw[h];rfl
  have hY:∀j:Nat,(decide (0<=(toV p (nE r j).a).y) !=decide (0<=(toV p (nE r j).b).y))=true->(decide (0<=(toV p (nE r j).a).y)==decide (0<fP (nE r j) p))=dY (nE r j) p:=λj h=>by unfold dY;rw[h];rfl
  with_reducible ((repeat' first|apply cF|intro);all_goals repeat cases‹_/\_›)
  all_goals first|rfl|with_reducible solve_by_elim|exact PtB.of ‹_› |exact(eb ‹_› _ ‹_›).1.mono|exact(eb ‹_› _ ‹_›).2.mono|exact gV ‹_› ‹_› _ ‹_› |exact oN _ (.inl ‹_›)|exact oN _ (.inr (.inl ‹_›))|exact oN _ (.inr (.inr (.inl ‹_›)))|exact oN _ (.inr (.inr (.inr ‹_›)))|exact hw0 (.inl (nb' ‹_›))|exact hw0 (.inr (nb' ‹_›))|(rw[hw ‹_› ‹_›,s1 _ ‹_› ‹_› ‹_›];done)|(rw[hw ‹_› ‹_›,s2 _ ‹_› ‹_› ‹_›,‹pb _ _ _=_›];rfl)|(rw[es _ ‹_›,‹dY _ _=_›];simp;done)|grind)
noncomputable def Q5:=QU.adk aCv
noncomputable def c65:Con:=con (ac (aL .V) (a1 aV)) (λ(r,_)=>[r.length<=1000]) (λ(r,v)=> .iqz (c6 r v)
 )
def k65:c65.Okz 65:=bH Q5 (λ(_,_)=>[]) (λ(_,_)=>⟨_,rfl⟩) λ(r,v) hp=>bC (aA (!ag v 4000) λA=>(0:Int)<=4000/\(4000:Int)<=9000000000000000000/\(A=true->0=c6 r v)/\
 (A=false->r.length<=1000/\bY r (fT v)=c6 r v)) (by kernel_rfl) (by change r.length<=1000 at hp;have e:c6 r v=if(!ag v 4000)=true then 0 else bY r (fT v):=rfl;grind)
noncomputable def t65:=Q5.adk k65
noncomputable def c89:Con:=con (a1 (aL .V)) (λr=>[r.length<=1000]) (λr=> .iqz (if cg r=true then area r else 0)
 )
def k89:c89.Okz 89:=bH t65 bg (λ_=>⟨_,rfl⟩) λr hp=>bC (aA (!cg r) λA=>r.length<=1000/\(A=true->0=(if cg r=true then area r else 0))/\
 (A=false->near r=true/\r.length<=100000/\area r=(if cg r=true then area r else 0))) (by kernel_rfl) (by change r.length<=1000 at hp;refine⟨hp,λh=>by grind,λh=>⟨?_,by omega,by grind⟩⟩;exact((C8 r).1 (nb h)).2.2.1)
noncomputable def t89:=t65.adk k89
noncomputable def QO:=t89.adk aBQ
noncomputable def aDr:Con:=con (a1 (aL .R)) (λl=>[l.length<=1000,0<l.flatten.length,l.flatten.length<=1000]) (λl=> .lst .V l.flatten)
def aB2:aDr.Okz 181:=uc (oK QO.o) (raw:=λr i=>bB r 1&&bB i 0) (λl=>[lp 3 11 l.length (λ_=>[]) [] (λk=>[(3,.int .i64 (((l.take k).flatten.length:Nat):Int))]) (λ_=>[]),lp 11 27 l.length (λ_=>[]) [7] (λk=>[(6,.own 7 .V ((l.take k).flatten.length))]) (λk=>[(7,.row 44 .V ((l.take k).flatten))])]
  ) (λ_=>⟨_,rfl⟩) λl hp=>bC (aA (0:Nat) λB=>aA (aW 0 l) λG=>aA (fe G) λK=>aA ([] :List V) λN=>(0=(0:Int)/\0=(K.length:Int)/\B<=l.length)/\
 (∀x:Nat,aA (x:Int) λA=>aA (aC l x) λE=>aA (fe (aW x l)) λI=>aA (I.length:Int) λJ=>x<=l.length->(A<l.length->ix A l.length/\aH (J+E.length)/\(J+E.length<0->False)/\
   (¬J+E.length<0->aH (A+1)/\A+1=((x+1:Nat):Int)/\J+E.length=(fe (aW (x+1) l)).length/\x+1<=l.length/\l.length-(x+1)<l.length-x))/\
  (¬A<l.length->B<I.length/\I.length<=100000/\(0=(0:Int)/\N.length=K.length/\N=fe G/\B<=l.length)/\
   (∀x_1:Nat,aA (x_1:Int) λD=>aA (aW (x_1+1) l) λH=>aA (aW x_1 l) λL=>aA (fe L) λM=>x_1<=l.length->(D<l.length->ix D l.length/\M.length=M.length/\M.length+(aC l x_1).length<=1000000/\aH (D+1)/\D+1=((x_1+1:Nat):Int)/\(fe L++aC l x_1).length=(fe H).length/\fe L++aC l x_1=fe H/\x_1+1<=l.length/\l.length-(x_1+1)<l.length-x_1)/\
    (¬D<l.length->M.length=M.length/\fe L=fe l))))) (by kernel_rfl) (by
  change l.length<=1000/\0<l.flatten.length/\l.flatten.length<=1000 at hp;have e1:∀x:Nat,(x:Int)<l.length->(l.take (x+1)).flatten=(l.take x).flatten++aC l x:=λx h=>by rw[kR (by omega),vo,List.flatten_singleton,jM (by omega)]
  have e2:∀x:Nat,(l.take x).flatten.length<=l.flatten.length:=λx=>by
   conv=>rhs;rw[<-List.take_append_drop x l,vo,fw]
   omega
  have e3:∀x:Nat,¬(x:Int)<l.length->aW x l=l:=λx h=>gu (by omega);have e4:∀x:Nat,(x:Int)<l.length->(l.take x).flatten.length+(aC l x).length<=l.flatten.length:=λx h=>by grind
  have e5:∀x:Nat,(x:Int)<l.length->((fe (aW x l)).length:Int)+(aC l x).length=(fe (aW (x+1) l)).length:=λx h=>by grind
  have e6:∀x:Nat,(x:Int)<l.length->aH (((fe (aW x l)).length:Int)+(aC l x).length):=λx h=>bT (by grind)
  repeat' first|with_reducible apply cF|with_reducible intro
  all_goals repeat with_reducible cases‹_/\_›
  all_goals grind)
noncomputable def QZ:=QO.adk aB2
def xT(a b:V):bi a b<0↔bf a b=true:=by unfold bi bf aEr;grind
def Dx(a:V):bf a a=false:=by unfold bf;grind
noncomputable def aDu:Con:=con (ac (aL .V) (a1 (aF 78))) (λ(r,_)=>[0<r.length,r.length<=1000]) (λ(r,_)=>aV.enc (aEn r (dN r)))
def aB5:aDu.Okz 175:=bH QZ (λ(r,_)=>[(5,.mk Nat (λF _=>ms F 6) [] (λk=>[0<k,k<=r.length]) (λk=>[(6,.iqz (k:Int))]) (λk=>[(7,.box 44 [.iqz (aEn r (dp r k)).x,.iqz (aEn r (dp r k)).y])]) (λk=>r.length-k) bg)]
  ) (λ(_,_)=>⟨_,rfl⟩) λ(r,u) hp=>bC (aA (0:Nat) λC=>aA (dN r) λE=>aA (r.length:Int) λF=>aA (dp r 1) λK=>(F<1->False)/\
 (¬F<1->ix 0 r.length/\(1=(1:Int)/\(aEn r 0).x=(aEn r K).x/\(aEn r 0).y=(aEn r K).y/\C<1/\(1:Nat)<=r.length)/\
  (∀x:Nat,aA (x+1) λA=>aA (x:Int) λB=>aA (aEn r x) λD=>aA (aEn r (dp r x)) λH=>aA (aEn r (dp r A)) λJ=>aA ((x+1:Nat):Int) λL=>C<x/\x<=r.length->(B<r.length->ix B r.length/\(bi D H<0->ix B r.length/\aH (B+1)/\B+1=L/\D.x=J.x/\D.y=J.y/\C<x+1/\x+1<=r.length/\r.length-A<r.length-x)/\
    (¬bi D H<0->aH (B+1)/\B+1=L/\H.x=J.x/\H.y=J.y/\C<x+1/\x+1<=r.length/\r.length-A<r.length-x))/\
   (¬B<r.length->H.x=(aEn r E).x/\H.y=(aEn r E).y)))) (by kernel_rfl) (by
  change 0<r.length/\r.length<=1000 at hp;have e0:dp r 1=0:=by unfold dp dp;split<;>rfl
  have e1:∀x:Nat,bi (aEn r x) (aEn r (dp r x))<0->dp r (x+1)=x:=λx h=>if_pos ((xT _ _).1 h);have e2:∀x:Nat,¬bi (aEn r x) (aEn r (dp r x))<0->dp r (x+1)=dp r x:=λx h=>if_neg λh2=>h ((xT _ _).2 h2);have e3:∀x:Nat,¬(x:Int)<r.length->x<=r.length->dp r x=dN r:=λx h1 h2=>by rw[show x=r.length by omega];rfl
  with_reducible ((repeat' first|apply cF|intro);all_goals repeat cases‹_/\_›)
  all_goals grind)
noncomputable def Qc:=QZ.adk aB5
noncomputable def aDv:Con:=con (ac (aL .V) (a1 aV)) (λ(r,_)=>[r.length<=1000]) (λ(r,v)=> .iqz (fI (λx=>decide (v=x)) r))
def aB6:aDv.Okz 174:=bH Qc (λ(r,v)=>[cnt 2 8 r.length (aO λj=>decide (v=aEn r j)=false)]
  ) (λ(_,_)=>⟨_,rfl⟩) λ(r,v) hp=>bC ((0=(0:Int)/\(0:Nat)<=r.length/\aO (λj=>decide (v=aEn r j)=false) 0)/\
 (∀x:Nat,aA (x:Int) λA=>x<=r.length/\aO (λj=>decide (v=aEn r j)=false) x->(A<r.length->ix A r.length/\(v=(aEn r x)->A=fI (λx=>decide (v=x)) r)/\
   (¬v=(aEn r x)->aH (A+1)/\A+1=((x+1:Nat):Int)/\x+1<=r.length/\aO (λj=>decide (v=aEn r j)=false) (x+1)/\r.length-(x+1)<r.length-x))/\
  (¬A<r.length-> -1=fI (λx=>decide (v=x)) r))) (by kernel_rfl) (by
  change r.length<=1000 at hp
  with_reducible ((repeat' first|apply cF|intro);all_goals repeat cases‹_/\_›)
  all_goals first|rfl|exact pm (t:= .V) (by omega) (decide_eq_true ‹_›) ‹_› |(obtain rfl:_=r.length:=tG ‹_› (by omega);exact sJ (t:= .V) ‹_›)|grind)
noncomputable def Qd:=Qc.adk aB6
noncomputable def aD6:Con:=con (a1 (aL .V)) (λr=>[r.length<=1000]) (λr=> .lst .V (db r)
 )
def aCH:aD6.Okz 126:=bH Qd bg (λ_=>⟨_,rfl⟩) λr hp=>bC (aA (aEn r (dN r)) λB=>aA (!cg r) λC=>r.length<=1000/\(C=true->db r=([] :List V))/\
 (C=false->(0:Nat)<r.length/\r.length<=1000/\r.length<=1000/\(0<=fI (λx=>decide (B=x)) r/\fI (λx=>decide (B=x)) r<=r.length)/\(0<=fI (λx=>decide (B=x)) r/\fI (λx=>decide (B=x)) r<=r.length)/\[gi (fI (λx=>decide (B=x)) r).toNat r,aW (fI (λx=>decide (B=x)) r).toNat r].length<=1000/\(0:Nat)<(fe [gi (fI (λx=>decide (B=x)) r).toNat r,aW (fI (λx=>decide (B=x)) r).toNat r]).length/\(fe [gi (fI (λx=>decide (B=x)) r).toNat r,aW (fI (λx=>decide (B=x)) r).toNat r]).length<=1000/\fe [gi (fI (λx=>decide (B=x)) r).toNat r,aW (fI (λx=>decide (B=x)) r).toNat r] =db r)) (by kernel_rfl) (by
  change r.length<=1000 at hp;have h0:(!cg r)=false->0<r.length:=λh=>by have:=((C8 r).1 (nb h)).1;omega
  have hf:0<r.length->fI (λx=>decide (aEn r (dN r)=x)) r=(dN r:Int):=λh=>by
   have hl:=qJ h;symm;exact pm (t:= .V) hl (decide_eq_true rfl) λj hj=>decide_eq_false λe=>by have:=Cw r r.length j hj;rw[show dp r r.length=dN r from rfl,e]at this;exact absurd ((Dx (aEn r j)).symm.trans this) (by decide)
  refine⟨hp,λh=>by unfold db;grind,λh=> ?_⟩;have h1:=h0 h;have hl:=qJ h1;rw[hf h1];have hc:[gi ((dN r:Nat):Int).toNat r,aW ((dN r:Nat):Int).toNat r].flatten=db r:=by unfold db;rw[nb h];simp[co]
  grind)
noncomputable def RF:=Qd.adk aCH
def aPR:Ar aD where
 enc r:= .pro [.lst .V r] 0
 dec s:=match s with
  | .pro [x] 0=>oS .V x
  |_=>none
 ok s a h:=by
  split at h
  .have e:=qZ h;show(match bG (avs [_])with|some q=>AV.p (.pro q 0)|none=> .any)=_;rw[avs,avs,e];rfl
  .cases h
 pl _:=⟨_,rfl⟩
def aPi:Ar Int where
 enc n:= .pro [.int .i64 n] 0
 dec s:=match s with
  | .pro [.int .i64 n] 0=>some n
  |_=>none
 ok s a h:=by grind
 pl _:=⟨_,rfl⟩
def aCl(f:Nat){α:Type}(A:Arl α):Ar α where
 enc a:= .fnp f [] (A.enc a)
 dec s:=match s with
  | .fnp g [] b=>(match bB g f with|true=>A.dec b|false=>none)
  |_=>none
 ok s a h:=by
  split at h
  .split at h
   .rename_i b e;have:=A.ok _ _ h;simp only[SV.av,this];simp_all
   .cases h
  .cases h
 pl a:=by obtain⟨q,h⟩:=A.pl a;exact⟨.fn (.func f) [] q,by simp only[SV.av,h,avs,dR];rfl⟩
def P2:Ar (aD×Int×Unit):=aCl 180 (ac aPR (ac aPi a0))
def BR{t:LT}{l:List t.ty}{q:t.ty->Bool}{j:Nat}(hj:j<l.length)(h:q (t.nth l j)=false):l.all q=false:=
 yk.2 ⟨_,List.getElem_mem hj,by rw[<-t.nth_eq l hj,h];simp⟩
def Av{t:LT}{l:List t.ty}{q:t.ty->Bool}(h:aO (λj=>q (t.nth l j)=true) l.length):l.all q=true:=
 bZ.2 λx hx=>by obtain⟨j,hj,rfl⟩:=jf hx;have:=h j hj;dsimp only at this;rwa[t.nth_eq l hj]at this
noncomputable def aDs:Con:=con (ac aV (ac aPR (a1 aPi))) (λ(_,r,_)=>[r.length<=1000]) (λ(v,r,p)=> .bool (decide (¬c6 r v=p))
 )
def aB3:aDs.Okz 180:=bH RF (λ(_,_,_)=>[]) (λ(_,_,_)=>⟨_,rfl⟩) λ(v,r,p) hp=>bC (r.length<=1000/\decide (¬c6 r v=p)=decide (¬c6 r v=p)) (by kernel_rfl) (by change r.length<=1000 at hp;grind)
noncomputable def Qa:=RF.adk aB3
noncomputable def aDJ:Con:=con (ac (aL .V) (a1 P2)) (λ(l,c)=>[l.length<=1000000,c.1.length<=1000]) (λ(l,c)=> .iqz (fI (λv=>decide (¬c6 c.1 v=c.2.1)) l))
def aCj:aDJ.Okz 157:=bH Qa (λ(l,c)=>[cnt 2 8 l.length (aO λj=>decide (¬c6 c.1 (aEn l j)=c.2.1)=false)]
  ) (λ(_,_)=>⟨_,rfl⟩) λ(l,c) hp=>bC ((0=(0:Int)/\(0:Nat)<=l.length/\aO (λj=>decide (¬c6 c.1 (aEn l j)=c.2.1)=false) 0)/\
 (∀x:Nat,aA (x:Int) λA=>x<=l.length/\aO (λj=>decide (¬c6 c.1 (aEn l j)=c.2.1)=false) x->(A<l.length->ix A l.length/\c.1.length<=1000/\(decide (¬c6 c.1 (aEn l x)=c.2.1)=true->A=fI (λv=>decide (¬c6 c.1 v=c.2.1)) l)/\
   (decide (¬c6 c.1 (aEn l x)=c.2.1)=false->aH (A+1)/\A+1=((x+1:Nat):Int)/\x+1<=l.length/\aO (λj=>decide (¬c6 c.1 (aEn l j)=c.2.1)=false) (x+1)/\l.length-(x+1)<l.length-x))/\
  (¬A<l.length-> -1=fI (λv=>decide (¬c6 c.1 v=c.2.1)) l))) (by kernel_rfl) (by
  change l.length<=1000000/\c.1.length<=1000 at hp
  with_reducible ((repeat' first|apply cF|intro);all_goals repeat cases‹_/\_›)
  all_goals first|rfl|exact pm (t:= .V) (by omega) ‹_› ‹_› |(obtain rfl:_=l.length:=tG ‹_› (by omega);exact sJ (t:= .V) ‹_›)|grind)
noncomputable def Qr:=Qa.adk aCj
noncomputable def c84:Con:=con (ac (aL .V) (a1 P2)) (λ(l,c)=>[l.length<=1000000,c.1.length<=1000]) (λ(l,c)=> .bool (l.any λv=>decide (¬c6 c.1 v=c.2.1))
 )
def k84:c84.Okz 84:=bH Qr (λ(_,_)=>[]) (λ(_,_)=>⟨_,rfl⟩) λ(l,c) hp=>bC (l.length<=1000000/\c.fst.length<=1000/\decide (0<=fI (λv=>decide (¬c6 c.fst v=c.2.1)) l)=fc l (λv=>decide (¬c6 c.1 v=c.2.1))) (by kernel_rfl) (by change l.length<=1000000/\c.1.length<=1000 at hp;exact⟨hp.1,hp.2,uX _ _⟩)
noncomputable def t84:=Qr.adk k84
noncomputable def Rx:Con:=con (ac (aL .V) (ac (aL .V) (a1 aI))) (λ(r,q,_)=>[r.length<=1000,q.length<=1000]) (λ(r,q,p)=> .bool (aEu r q p)
 )
def Rl:Rx.Okz 123:=bH t84 (λ(_,_,_)=>[]) (λ(_,_,_)=>⟨_,rfl⟩) λ(r,q,p) hp=>bC (r.length<=1000000/\q.length<=1000/\(!fc r (λv=>decide (¬c6 q v=p)))=aEu r q p) (by kernel_rfl) (by change r.length<=1000/\q.length<=1000 at hp;refine⟨by omega,hp.2,?_⟩;unfold aEu;grind)
noncomputable def RH:=t84.adk Rl
noncomputable def Rv:Con:=con (ac (aL .V) (a1 (aL .V))) (λ(a,b)=>[a.length<=1000,b.length<=1000]) (λ(a,b)=> .bool (dV a b))
def Rk:Rv.Okz 124:=bH RH (λ(a,b)=>[cnt 2 12 (aJ a).length (aO λi=>((aJ b).all λy=>bn (az (aJ a) i) y==0)=true) λi=>[cnt 5 19 (aJ b).length (aO λk=>(bn (az (aJ a) i) (az (aJ b) k)==0)=true)]]
  ) (λ(_,_)=>⟨_,rfl⟩) λ(a,b) hp=>bC (aA (aJ a) λC=>aA (aJ b) λE=>a.length<=1000/\(0=(0:Int)/\(0:Nat)<=C.length/\aO (λi=>tH E (λy=>bn (az C i) y==0)=true) 0)/\
 (∀x:Nat,aA (x:Int) λA=>aA (az C x) λD=>x<=C.length/\aO (λi=>tH E (λy=>bn (az C i) y==0)=true) x->(A<C.length->ix A C.length/\x<C.length/\b.length<=1000/\(0=(0:Int)/\(0:Nat)<=E.length/\aO (λk=>(bn D (az E k)==0)=true) 0)/\
   (∀x_1:Nat,aA (x_1:Int) λB=>x_1<=E.length/\aO (λk=>(bn D (az E k)==0)=true) x_1->(B<E.length->ix B E.length/\x_1<E.length/\(¬bn D (az E x_1)=0->false=dV a b)/\
     (¬(¬bn D (az E x_1)=0)->aH (B+1)/\B+1=((x_1+1:Nat):Int)/\x_1+1<=E.length/\aO (λk=>(bn D (az E k)==0)=true) (x_1+1)/\E.length-(x_1+1)<E.length-x_1))/\
    (¬B<E.length->aH (A+1)/\A+1=((x+1:Nat):Int)/\x+1<=C.length/\aO (λi=>tH E (λy=>bn (az C i) y==0)=true) (x+1)/\C.length-(x+1)<C.length-x)))/\
  (¬A<C.length->true=dV a b))) (by kernel_rfl) (by
  change a.length<=1000/\b.length<=1000 at hp;have el:∀r:aD,r.length<=1000->(aJ r).length<=1000:=λr h=>by unfold aJ;grind
  have ea:=el a hp.1;have eb:=el b hp.2;have h1:∀x y:Nat,(x:Int)<(aJ a).length->(y:Int)<(aJ b).length->¬bn (az (aJ a) x) (az (aJ b) y)=0->false=dV a b:=λx y hx hy h=>
   (BR (t:= .S) (l:=aJ a) (j:=x) (by omega) (BR (t:= .S) (l:=aJ b) (q:=λy=>bn (az (aJ a) x) y==0) (j:=y) (by omega) (beq_eq_false_iff_ne.2 h))).symm
  have h2:∀x:Nat,¬(x:Int)<(aJ a).length->x<=(aJ a).length->aO (λi=>((aJ b).all λy=>bn (az (aJ a) i) y==0)=true) x->true=dV a b:=λx hx hx2 h=>by
   obtain rfl:x=(aJ a).length:=by omega
   exact(Av (t:= .S) h).symm
  have h3:∀x y:Nat,¬(y:Int)<(aJ b).length->y<=(aJ b).length->aO (λk=>(bn (az (aJ a) x) (az (aJ b) k)==0)=true) y->((aJ b).all λz=>bn (az (aJ a) x) z==0)=true:=λx y hy hy2 h=>by
   obtain rfl:y=(aJ b).length:=by omega
   exact Av (t:= .S) h
  with_reducible ((repeat' first|apply cF|intro);all_goals repeat cases‹_/\_›)
  all_goals first|rfl|with_reducible solve_by_elim|exact cP ‹_› (h3 _ _ ‹_› ‹_› ‹_›)|exact cP ‹_› (beq_iff_eq.2 (nM ‹¬¬_›))|grind)
noncomputable def Bx:=RH.adk Rk
def Yv{r n:Nat}{P:Program}{row:String}{args:Array Value}{w:World}{R:Value->World->Prop}(h:Rows P row args w R):RowsIn (Fence.wide.inRound r) n P row args w R:=
 λc cs _=>let⟨v,w',hr,s⟩:=h c cs;⟨v,w',hr,stepsIn_wide.2 s⟩
def qO{r n:Nat}{P:Program}{ops:Array Oper}{Q:Exit->Act->World->Prop}(hd:∀(i:Nat) (o:Oper),ops[i]? =some o->∀c,o.op≠ .defer c)(hno:¬LetsOut Q):
  ∀(l:List Nat) (a:Act) (w:World),wpOps P ops Q l a w->wpOpsIn (Fence.wide.inRound r) n P ops Q l a w
 |[],_,_,h=>h
 |i::rest,a,w,h=>by
  unfold wpOps at h;unfold wpOpsIn;cases ho:ops[i]? with
  |none=>rw[ho]at h;exact qO hd hno rest a w h
  |some o=>
   rw[ho]at h;simp only[]at h|-;by_cases hw:iK o (yielded ops a.tmps)=true
   .rw[if_pos hw]at h|-;rcases h with h|⟨_,h⟩
    .refine⟨λ_ _=>trivial,?_⟩;show o.uponIn _ n P a _ Q ((Oper.semAt (some r) a.eval o).run P w);rw[ym r a.eval o (hd i o ho)];unfold Oper.wp at h;generalize (execOp a.eval o).run P w=res at h|-;cases res with
     |ok x w'=>
      cases x with
      |value v=>exact qO hd hno rest _ _ h
      |skip=>exact qO hd hno rest _ _ h
      |defer d=>exact qO hd hno rest _ _ h
      |enter f args=>
       refine⟨λh=>by simp[Fence.wide]at h,CallsIn.inRound r (callsIn_wide.2 (Calls.mono h ?_))⟩;intro e w'' he;cases e with
       |returned v=>exact qO hd hno rest _ _ he
       |panicked c=>exact he
       |outgrown=>exact he
      |row row args=>
       refine⟨λh=>by simp[Fence.wide]at h,Yv (Rows.mono h ?_)⟩;intro v w'' he;exact qO hd hno rest _ _ he
      |_=>exact h.elim
     |halt x w'=>cases x<;>first|exact h|exact h.elim
    grind
   .rw[if_neg hw]at h|-;exact⟨λ_ _=>trivial,qO hd hno rest _ _ h⟩
def Pc(Q:Exit->Act->World->Prop):Exit->Act->World->Prop:=λe a w=>e= .normal/\Q .normal a w
def Xc(Q:Exit->Act->World->Prop):¬LetsOut (Pc Q):=λh=>by obtain⟨a,w,e,_⟩:=h;cases e
def Xb{F:Fence}{n:Nat}{P:Program}{c:Code}{Q:Exit->Act->World->Prop}{a:Act}{w:World}(h:c.wpIn F n P (Pc Q) a w):c.wpIn F n P Q a w:=
 wpIn_mono h λe a w he=>by obtain⟨rfl,he⟩:=he;exact he
def Se{P:Program}{ops:Array Oper}{Q:Exit->Act->World->Prop}{a0:Act}{w0:World}
  (hac:∀(i:Nat) (o:Oper),ops[i]? =some o->∀e∈o.after.toList,gg .any e=true->e.on<i)
  (Inv:(Nat->Bool)->Act->World->Prop) (h0:Inv (λ_=>false) a0 w0.drew)
  (hstep:∀(i:Nat) (o:Oper) (D:Nat->Bool) (a:Act) (w:World),ops[i]? =some o->Inv D a w->D i=false->(∀e∈o.after.toList,gg .any e=true->D e.on=true)->
    wpOp P ops Q i (λa' w'=>Inv (λj=>if j=i then true else D j) a' w') a w)
  (hend:∀(D:Nat->Bool) (a:Act) (w:World),Inv D a w->(∀i,i<ops.size->D i=true)->Q .normal a w):
  wpAny P .any ops Q ops.size (nI ops.size false) a0 w0.drew:=by
 refine(J3 hac Inv hstep hend _ _ _ _ (by simp) ?_ ?_)
 .simp
 .have e:(λj=>(nI ops.size false).getD j false)=(λ_=>false):=by
   funext j
   rw[fx,Array.getElem?_replicate];split<;>rfl
  grind
def S8{P:Program}{ops:Array Oper}{Q:Exit->Act->World->Prop}{a0:Act}{w0:World}
  (dsts:List Nat)
  (hok:((bP ops.size).all λi=>((ops[i]?).map λo=>(o.after.toList.all λe=> !gg .any e||decide (e.on<i))&&(match o.dst with|some d=>dsts.contains d|none=>true)).getD true)=true)
  (hds:∀s∈dsts,s<a0.tmps.size)
  (F:(Nat->Bool)->(Nat->Value)->World->Prop) (h0:F (λ_=>false) (λs=>a0.tmps.getD s undef) w0.drew)
  (hstep:∀(i:Nat) (o:Oper) (D:Nat->Bool) (V:Nat->Value) (w:World),ops[i]? =some o->F D V w->D i=false->(∀e∈o.after.toList,gg .any e=true->D e.on=true)->
    (∀s,s∉dsts->V s=a0.tmps.getD s undef)->
    if iK o (gdV ops V)=true then
     cI P o V w (λv w'=>F (λj=>if j=i then true else D j) (match o.dst with|some d=>λs=>if s=d then v else V s|none=>V) w')
    else F (λj=>if j=i then true else D j) (match o.dst with|some d=>λs=>if s=d then undef else V s|none=>V) w)
  (hend:∀(D:Nat->Bool) (V:Nat->Value) (w:World),F D V w->(∀i,i<ops.size->D i=true)->Q .normal (gq a0 dsts V) w):
  wpAny P .any ops Q ops.size (nI ops.size false) a0 w0.drew:=by
 have hops:∀(i:Nat) (o:Oper),ops[i]? =some o->(∀e∈o.after.toList,gg .any e=true->e.on<i)/\(∀d,o.dst=some d->d∈dsts):=by
  intro i o ho;have hi:i<ops.size:=by grind
  rw[bZ]at hok;have:=hok i (bz.2 hi);rw[ho]at this;simp only[eI,kj,bm]at this;obtain⟨g2,g3⟩:=this;refine⟨?_,?_⟩
  .grind
  .grind
 refine Se (by grind) (λD a w=>a.defers=a0.defers/\a.tmps.size=a0.tmps.size/\(∀s,s∉dsts->a.tmps.getD s undef=a0.tmps.getD s undef)/\F D (λs=>a.tmps.getD s undef) w) (by grind) ?_ ?_
 .intro i o D a w ho ⟨i1,i2,i3,i4⟩ hD hpre;obtain⟨_,hdst⟩:=hops i o ho;have hrun:=hstep i o D (λs=>a.tmps.getD s undef) w ho i4 hD hpre i3;have hput:∀(v:Value) (w':World),F (λj=>if j=i then true else D j) (match o.dst with|some d=>λs=>if s=d then v else a.tmps.getD s undef|none=>λs=>a.tmps.getD s undef) w'->
    (a.put o.dst v).defers=a0.defers/\(a.put o.dst v).tmps.size=a0.tmps.size/\(∀s,s∉dsts->(a.put o.dst v).tmps.getD s undef=a0.tmps.getD s undef)/\F (λj=>if j=i then true else D j) (λs=>(a.put o.dst v).tmps.getD s undef) w':=by
   intro v w' hF;cases hd:o.dst with
   |none=>rw[hd]at hF;exact⟨i1,i2,i3,hF⟩
   |some d=>
    have hdm:=hdst d hd;have hget:∀s,(a.put (some d) v).tmps.getD s undef=if s=d then v else a.tmps.getD s undef:=by
     intro s;simp only[mL,fx,Array.getElem?_setIfInBounds];by_cases e:d=s
     .grind
     .grind
    refine⟨i1,by simpa[mL]using i2,?_,?_⟩
    .intro s hs;rw[hget,if_neg (by grind)];exact i3 s hs
    .have e:(λs=>(a.put (some d) v).tmps.getD s undef)=(λs=>if s=d then v else a.tmps.getD s undef):=funext hget;grind
  unfold wpOp;rw[ho];simp only[];rw[C6];by_cases hw:iK o (gdV ops λs=>a.tmps.getD s undef)=true
  .rw[if_pos hw]at hrun|-;refine .inl ?_;unfold Oper.wp;rw[Act.eval_evalV];unfold cI at hrun;cases hr:(execOp (bI λs=>a.tmps.getD s undef) o).run P w with
   |halt x w'=>grind
   |ok n w'=>
    rw[hr]at hrun;cases n<;>simp only[]at hrun<;>first|exact hrun.elim|skip
    .exact hput _ _ hrun
    .exact hput _ _ hrun
    .rename_i f args;refine hrun.mono ?_;rintro e w'' ⟨v,rfl,hK⟩;exact hput _ _ hK
  .rw[if_neg hw]at hrun|-;exact hput _ _ hrun
 .intro D a w ⟨i1,i2,i3,i4⟩ hall;obtain⟨p1,p2,p3⟩:=yz (λs=>a.tmps.getD s undef) dsts a0 hds;have e:gq a0 dsts (λs=>a.tmps.getD s undef)=a:=by
   obtain⟨t,df⟩:=a;have ht:(gq a0 dsts (λs=>t.getD s undef)).tmps=t:=by
    apply Array.ext
    .rw[p2];exact i2.symm
    .intro s h1 h2;have h3:=p3 s (by grind);rw[fx,Array.getElem?_eq_getElem h1,kj]at h3;rw[h3];by_cases hm:s∈dsts
     .rw[if_pos hm];simp[fx,h2]
     .rw[if_neg hm,<-i3 s hm];simp[fx,h2]
   have hdf:(gq a0 dsts (λs=>t.getD s undef)).defers=df:=p1.trans i1.symm;show gq a0 dsts (λs=>t.getD s undef)={tmps:=t,defers:=df};cases hp:gq a0 dsts (λs=>t.getD s undef)with
   |mk t' df'=>
    grind
  grind
def S9{P:Program}{l:List Oper}{Q:Exit->Act->World->Prop}{a0:Act}{w0:World}
  (dsts:List Nat) (anc:List (List Nat)) (hok:okF l anc=true) (hdst:((bP l.length).all λi=>dc l i==1000000||dsts.contains (dc l i))=true) (hds:∀s∈dsts,s<a0.tmps.size)
  (WR:(Nat->Bool)->World->Prop) (fact:Nat->Value->World->Prop) (h0:WR (λ_=>false) w0.drew)
  (hmono:∀j v w w',fact j v w->Below w.heap.size w w'->fact j v w')
  (hstep:AY (PY P l anc a0 WR fact) l 0)
  (hend:∀(D:Nat->Bool) (V:Nat->Value) (w:World),(∀i,i<l.length->D i=true)->(∀i,i<l.length->fact i (lC l V i) w)->WR D w->Q .normal (gq a0 dsts V) w):
  wpAny P .any l.toArray Q l.toArray.size (nI l.toArray.size false) a0 w0.drew:=by
 unfold okF at hok;rw[bZ]at hok;have hget:∀i o,l[i]? =some o->i<l.length:=by grind
 have hop:∀i o,l[i]? =some o->(∀e∈o.after.toList,gg .any e=true->e.on<i/\(fk anc i).contains e.on=true)/\o.guard=none/\
   (∀j,(fk anc i).contains j=true->j<i/\∃e∈o.after.toList,gg .any e=true/\(e.on=j\/(fk anc e.on).contains j=true))/\(∀d,o.dst=some d->dc l i=d/\d≠1000000)/\(o.dst=none->dc l i=1000000):=by
  intro i o ho;have h1:=hok i (bz.2 (hget i o ho));simp only[bm]at h1;obtain⟨⟨h2,h3⟩,_⟩:=h1;rw[ho]at h2;simp only[eI,kj,bm,Option.isNone_iff_eq_none,bne_iff_ne,ne_eq]at h2;refine⟨?_,h2.1.2,?_,?_,?_⟩
  .grind
  .intro j hj;rw[bZ]at h3;have:=h3 j (by grind);simp only[bm,decide_eq_true_eq]at this;obtain⟨h4,h5⟩:=this;refine⟨h4,?_⟩;rw[ho]at h5;simp only[eI,kj,lO,bm,je,beq_iff_eq]at h5;exact h5
  .intro d hd;refine⟨by unfold dc;grind,?_⟩;grind
  .unfold dc;grind
 have huniq:∀i j,i<l.length->j<l.length->j≠i->dc l j=dc l i->dc l i=1000000:=by
  intro i j hi hj hne he;have h1:=hok i (bz.2 hi);simp only[bm]at h1;obtain⟨_,h3⟩:=h1;rw[bZ]at h3;have:=h3 j (bz.2 hj);simp only[je,beq_iff_eq,bne_iff_ne,ne_eq]at this;rcases this with(h|h)|h
  .omega
  .omega
  .exact h
 let G:(Nat->Bool)->(Nat->Value)->World->Prop:=λD V w=>
  (∀i j,D i=true->(fk anc i).contains j=true->D j=true)/\(∀i,i<l.length->D i=true->fact i (lC l V i) w)/\
  (∀s,(∀j,j<l.length->dc l j=s->D j=false)->V s=a0.tmps.getD s undef)/\WR D w
 refine S8 dsts ?_ hds G ?_ ?_ ?_
 .rw[bZ];intro i hi;have hi':=bz.1 hi;have ho:l[i]? =some l[i] :=eZ hi';simp only[List.getElem?_toArray,ho,eI,kj,bm];refine⟨?_,?_⟩
  .grind
  .cases hd:l[i].dst with
   |none=>rfl
   |some d=>
    grind
 .grind
 .intro i o D V w ho ⟨g1,g2,g3,g4⟩ hD hpre hV;have ho':l[i]? =some o:=by simpa using ho
  obtain⟨q1,q2,q3,q4,q5⟩:=hop i o ho';have hi:=hget i o ho';have hanc:∀j,(fk anc i).contains j=true->D j=true:=by
   intro j hj;obtain⟨_,e,he,hb,h⟩:=q3 j hj;have:=hpre e he hb;rcases h with rfl|h
   .exact this
   .grind
  have hdesc:∀j,(fk anc j).contains i=true->D j=false:=by
   intro j hj;cases hx:D j with
   |false=>rfl
   |true=>grind
  have hs:=Iq l 0 hstep i o ho';rw[jg]at hs;have hrun:=hs D V w hD (λj hj=>⟨hanc j hj,g2 j (Nat.lt_trans (q3 j hj).1 hi) (hanc j hj)⟩) hdesc (λs hsl=>g3 s (λj hj hjs=>by unfold O2 at hsl;grind)) g4
  rw[if_pos (by unfold iK;rw[q2])];have hmono':∀(K K':Value->World->Prop),(∀v w,K v w->K' v w)->cI P o V w K->cI P o V w K':=by
   intro K K' hk h;unfold cI at h|-;split at h
   .grind
   .grind
   .exact h.mono λe w'' ⟨v,he,hv⟩=>⟨v,he,hk _ _ hv⟩
   .exact h.elim
  have key:∀(U:Nat->Value) (v:Value) (w':World),(∀s,s≠dc l i->U s=V s)->(dc l i≠1000000->U (dc l i)=v)->
    (fact i (if dc l i=1000000 then undef else v) w'/\WR (gF D i) w'/\(w'=w\/Below w.heap.size w w'\/∀j,D j=true->fact j (lC l V j) w->fact j (lC l V j) w'))->G (gF D i) U w':=by
   rintro U v w' hVd hVv ⟨k1,k2,k3⟩;refine⟨?_,?_,?_,k2⟩
   .intro i' j h1 h2;by_cases e:j=i
    .simp[gF,e]
    .by_cases e':i'=i
     .simp only[gF,e,if_false];grind
     .simp only[gF,e',if_false]at h1;simp only[gF,e,if_false];grind
   .intro i' hi' h1;by_cases e:i'=i
    .subst e;have:lC l U i'=if dc l i'=1000000 then undef else v:=by
      unfold lC;by_cases h6:dc l i'=1000000
      .grind
      .grind
     grind
    .simp only[gF,e,if_false]at h1;have:lC l U i'=lC l V i':=by
      unfold lC;by_cases h6:dc l i'=1000000
      .grind
      .grind
     rw[this];have h8:=g2 i' hi' h1;rcases k3 with rfl|k3|k3
     .exact h8
     .grind
     grind
   .intro s hs;have hne:s≠dc l i:=by intro h;have:=hs i hi h.symm;simp[gF]at this
    rw[hVd s hne];refine g3 s (λj hj hjs=> ?_);have:=hs j hj hjs;by_cases e:j=i
    .grind
    .simpa[gF,e]using this
  refine hmono' _ _ ?_ hrun;intro v w' hk;show G (gF D i) _ w';cases hd:o.dst with
  |none=>
   have e1:=q5 hd;refine key _ v w' ?_ (λh=>absurd e1 h) hk;grind
  |some d=>
   refine key _ v w' ?_ ?_ hk
   .grind
   grind
 grind
def Cv{r n:Nat}{P:Program}{id:Nat}{l:List Oper}{Q:Exit->Act->World->Prop}{a0:Act}{w0:World}(hm:P.follows .mixedOrders=true)
  (hdf:(l.all λo=>match o.op with| .defer _=>false|_=>true)=true)
  (dsts:List Nat) (anc:List (List Nat)) (hok:okF l anc=true) (hdst:((bP l.length).all λi=>dc l i==1000000||dsts.contains (dc l i))=true) (hds:∀s∈dsts,s<a0.tmps.size)
  (WR:(Nat->Bool)->World->Prop) (fact:Nat->Value->World->Prop) (h0:WR (λ_=>false) w0.drew)
  (hmono:∀j v w w',fact j v w->Below w.heap.size w w'->fact j v w')
  (hstep:AY (PY P l anc a0 WR fact) l 0)
  (hend:∀(D:Nat->Bool) (V:Nat->Value) (w:World),(∀i,i<l.length->D i=true)->(∀i,i<l.length->fact i (lC l V i) w)->WR D w->Q .normal (gq a0 dsts V) w):
  (Code.region id l.toArray true).wpIn (Fence.wide.inRound r) n P Q a0 w0:=by
 refine Xb (wpIn_region_draw λt=> ?_);simp only[Region.schedule,hm,Bool.true_or,if_true];refine qO ?_ (Xc Q) _ _ _ (wpAny_sound _ t _ _ _ (S9 dsts anc hok hdst hds WR fact h0 hmono hstep λD V w h1 h2 h3=>⟨rfl,by grind⟩));grind
def RdV(w:World)(a:Option Addr)(xs:List V):Prop:=
 ∀i,i<xs.length->∃b off,a=some ⟨b,off,none⟩/\b<w.heap.size/\w.cell? ⟨b,off+i*2,none⟩=some (.int .i64 (aEn xs i).x)/\w.cell? ⟨b,off+i*2+1,none⟩=some (.int .i64 (aEn xs i).y)
def RdV.below{w w':World}{a:Option Addr}{xs:List V}(h:RdV w a xs)(hb:Below w.heap.size w w'):RdV w' a xs:=by intro i hi;obtain⟨b,off,ha,hlt,h1,h2⟩:=h i hi;exact⟨b,off,ha,vU hlt hb.size,(hb.cell (p:=⟨b,_,none⟩) hlt).trans h1,(hb.cell (p:=⟨b,_,none⟩) hlt).trans h2⟩
def iT(xs:List S):List Value:=xs.flatMap λs=>[.int .i64 s.a.x,.int .i64 s.a.y,.int .i64 s.b.x,.int .i64 s.b.y]
def Io(xs:List S):(iT xs).length=xs.length*4:=by
 induction xs with
 |nil=>rfl
 |cons s l ih=>unfold iT at*;simp only[fX,fw,ih,gY,mH];omega
def TJ(xs ys:List S):iT (xs++ys)=iT xs++iT ys:=by unfold iT;grind
def Rd.Nd{w:World}{base:Nat}{e:TypeId}{size:Nat}{v:Value}{n:Nat}{cs:List Value}(h:w.ownsRow base e size v n cs):∃a c,v= .slice a n c/\Rd w a cs/\jG base a/\(a=none->c=0)/\n<=c:=by
 obtain⟨a,c,hv,h1,h2,h3⟩:=Rd.GI h;refine⟨a,c,hv,h1,h2,h3,?_⟩;rcases h.2 with⟨h4,h5⟩|⟨g,cap,cur,h4,_,_,h5,_⟩
 .omega
 grind
def Ij{w:World}{base base':Nat}{e:TypeId}{size:Nat}{v:Value}{n:Nat}{xs:List Value}(h:w.ownsRow base e size v n xs)(hb:base'<=base):w.ownsRow base' e size v n xs:=
 ⟨h.1,h.2.imp id λ⟨g,cap,cur,h1,h2,h3⟩=>⟨g,cap,cur,h1,cR hb h2,h3⟩⟩
def js(xs:List V):List Value:=xs.flatMap λv=>[.int .i64 v.x,.int .i64 v.y]
def C4(xs:List V):(js xs).length=xs.length*2:=by
 induction xs with
 |nil=>rfl
 |cons s l ih=>unfold js at*;grind
def D9(xs:List V):∀(i:Nat),i<xs.length->(js xs)[i*2]? =some (.int .i64 (aEn xs i).x)/\(js xs)[i*2+1]? =some (.int .i64 (aEn xs i).y):=by
 induction xs with
 |nil=>grind
 |cons s l ih=>
  intro i hi;have e:js (s::l)=[.int .i64 s.x,.int .i64 s.y] ++js l:=by unfold js;rw[fX]
  rw[e];cases i with
  |zero=>simp[aEn]
  |succ i=>
   have h:=ih i (by grind);have e0:(i+1)*2=2+i*2:=by omega
   rw[e0,kM (by simp),kM (by simp;omega)];simpa[rG,Nat.add_sub_cancel_left,aEn]using h
def RdV.aA1{w:World}{a:Option Addr}{xs:List V}(h:Rd w a (js xs)):RdV w a xs:=by intro i hi;obtain⟨g0,g1⟩:=D9 xs i hi;obtain⟨b,off,ha,hlt,h0⟩:=h _ _ g0;obtain⟨b',off',he,_,h1⟩:=h _ _ g1;grind
def RdV.rd{w:World}{a:Option Addr}{xs:List V}(h:RdV w a xs):Rd w a (js xs):=by intro i u hi;have hlt:i<(js xs).length:=(rK.1 hi).1;rw[C4]at hlt;obtain⟨g0,g1⟩:=D9 xs (i/2) (by omega);obtain⟨b,off,ha,hb,h0,h1⟩:=h (i/2) (by omega);refine⟨b,off,ha,hb,?_⟩;grind
structure RV where
 a:Option Addr
 c:Nat
 r:aD
instance:Inhabited RV:=⟨⟨none,0,[]⟩⟩
def RV.enc(x:RV):Value:= .slice x.a x.r.length x.c
def Len(x:RV):Prop:=x.r.length<=1000/\x.r.length<=x.c/\(x.a=none->x.c=0)
def l9(w:World):bF:=λb o v=>w.cell? ⟨b,o,none⟩=some v
def o9{w:World}{a:Option Addr}{c:Nat}{r:List V}(h:RdV w a r)(hl:Len ⟨a,c,r⟩):aU (l9 w) (.sl r.length (fU r)) (.slice a r.length c):=by
 obtain⟨_,h2,h3⟩:=hl;dsimp only at h2 h3;unfold aU;refine⟨a,c,rfl,h2,λha=>⟨h3 ha,?_⟩,?_⟩
 .cases r with
  |nil=>rfl
  |cons v r=>grind
 .rintro ad rfl;refine⟨λh0=> ?_,cK.of _ _ _ λi x hi=> ?_⟩
  .obtain⟨b,off,hb,_⟩:=h 0 h0;cases hb;rfl
  .have hlt:i<(fU r).length:=(rK.1 hi).1;rw[ue.length]at hlt;obtain⟨b,off,hb,_,h0,h1⟩:=h (i/2) (by omega);cases hb;have h4:=Zc (v:=r) (i:=i/2) (by omega);have g:∀j,j<2->(fU r)[i/2*2+j]? =([.int .i64 (aEn r (i/2)).x,.int .i64 (aEn r (i/2)).y] :List PV)[j]? :=λj hj=>by grind
   rcases Nat.mod_two_eq_zero_or_one i with hm|hm
   .have:=g 0 (by decide);rw[show i/2*2+0=i by omega,hi]at this;cases this;exact⟨_,by show w.cell? _=_;rw[show off+i=off+i/2*2 by omega];exact h0,rfl,by unfold aU;rfl⟩
   .have:=g 1 (by decide);rw[show i/2*2+1=i by omega,hi]at this;cases this;exact⟨_,by show w.cell? _=_;rw[show off+i=off+i/2*2+1 by omega];exact h1,rfl,by unfold aU;rfl⟩
def af.one{C:bF}{x:PV}{v:Value}(h:aU C x v):af C [x] [v] :=by unfold af;exact⟨_,_,rfl,h,by unfold af;rfl⟩
def af.Bp{C:bF}{x:PV}{v:Value}{l:List PV}{vs:List Value}(h:aU C x v)(h2:af C l vs):af C (x::l) (v::vs):=by unfold af;grind
def xH{f:FuncId}{xs:List SV}{r:SV}{B:List PV}{q:PV}{vs:List Value}{u:Value}{w:World}(h:∃A q,avs xs=A.map .p/\r.av= .p q/\Sat bD false f A q)(hB:avs xs=B.map .p)(hq:r.av= .p q)
  (hu:∀C v,aU C q v->v=u) (hr:af (l9 w) B vs):Calls bD f vs.toArray w λe w'=>e= .returned u/\Below w.heap.size w w':=by
 obtain⟨A,q',h1,h2,h3⟩:=h;rw[hq]at h2;cases h2;rw[hB]at h1;have:B=A:=by have:=congrArg bG h1;rw[dR,dR]at this;cases this;rfl
 subst this;refine(h3.2 (l9 w) w vs (λ_ _ _ h=>h) hr).mono ?_;grind
def Sy(a:Option Addr)(c:Nat)(xs:List V)(w:World)(h:RdV w a xs)(hl:Len ⟨a,c,xs⟩):
  Calls bD 83 #[.slice a xs.length c] w λe w'=>e= .returned (.bool (cg xs))/\Below w.heap.size w w':=
 xH (k83 [.lst .V xs] xs rfl ((jK (l:=c83.pre xs)).1 hl.1)) (B:=[.sl xs.length (fU xs)]) rfl rfl (λC v h=>by unfold aU at h;exact h) (af.one (o9 h hl))
def K6(a:Option Addr)(c:Nat)(xs:List V)(w:World)(h:RdV w a xs)(hl:Len ⟨a,c,xs⟩):
  Calls bD 89 #[.slice a xs.length c] w λe w'=>e= .returned (.int .i64 (if cg xs then area xs else 0))/\Below w.heap.size w w':=
 xH (k89 [.lst .V xs] xs rfl ((jK (l:=c89.pre xs)).1 hl.1)) (B:=[.sl xs.length (fU xs)]) rfl rfl (λC v h=>by unfold aU at h;exact h) (af.one (o9 h hl))
def mc(a:Option Addr)(c:Nat)(xs:List V)(a':Option Addr)(c':Nat)(ys:List V)(p:Int)(w:World)(h':RdV w a' ys)(hl':Len ⟨a',c',ys⟩)(h:RdV w a xs)(hl:Len ⟨a,c,xs⟩):
  Calls bD 123 #[.slice a xs.length c,.slice a' ys.length c',.int .i64 p] w λe w'=>e= .returned (.bool (aEu xs ys p))/\Below w.heap.size w w':=
 xH (Rl [.lst .V xs,.lst .V ys,.int .i64 p] (xs,ys,p) rfl ((jK (l:=Rx.pre (xs,ys,p))).1 ⟨hl.1,hl'.1⟩)) (B:=[.sl xs.length (fU xs),.sl ys.length (fU ys),.int .i64 p]) rfl rfl (λC v h=>by unfold aU at h;exact h)
  ((af.one (by unfold aU;rfl)).Bp (o9 h' hl')|>.Bp (o9 h hl))
def z6(a:Option Addr)(c:Nat)(xs:List V)(a':Option Addr)(c':Nat)(ys:List V)(w:World)(h:RdV w a xs)(h':RdV w a' ys)(hl:Len ⟨a,c,xs⟩)(hl':Len ⟨a',c',ys⟩):
  Calls bD 124 #[.slice a xs.length c,.slice a' ys.length c'] w λe w'=>e= .returned (.bool (dV xs ys))/\Below w.heap.size w w':=
 xH (Rk [.lst .V xs,.lst .V ys] (xs,ys) rfl ((jK (l:=Rv.pre (xs,ys))).1 ⟨hl.1,hl'.1⟩)) (B:=[.sl xs.length (fU xs),.sl ys.length (fU ys)]) rfl rfl (λC v h=>by unfold aU at h;exact h)
  ((af.one (o9 h' hl')).Bp (o9 h hl))
def NW{f:FuncId}{t:LT}{ty:Nat}{l:List t.ty}{n:List Int}(he:t.enc l=n.map (PV.int .i64)){a:Option Addr}{c:Nat}{xs:List V}{w:World}(h:RdV w a xs)(hl:Len ⟨a,c,xs⟩)
  (hk:∃A Y,avs [SV.lst .V xs] =A.map .p/\avs [] =Y.map .p/\vF bD f A ty t.w (t.enc l) l.length Y):
  Calls bD f #[.slice a xs.length c] w λe w'=>∃a' c',e= .returned (.slice a' l.length c')/\Rd w' a' (n.map (cV .i64))/\jG w.heap.size a'/\(a'=none->c'=0)/\l.length<=c'/\Below w.heap.size w w':=by
 obtain⟨A,Y,h1,h2,h3⟩:=hk;cases Y with
 |cons y Y=>simp[avs]at h2
 |nil=>
 have hA:A=[.sl xs.length (fU xs)] :=by have h1:[AV.p (.sl xs.length (fU xs))] =A.map .p:=h1;have:=congrArg bG h1;rw[dR]at this;cases this;rfl
 subst hA;refine(h3.2.2 (l9 w) w [_] (λ_ _ _ h=>h) (af.one (o9 h hl))).mono ?_;rintro e w' ⟨v,us,q,c',rfl,hb,hys,hrow⟩;unfold af at hys;subst hys;rw[he]at hrow;rcases hrow with⟨_,rfl,hm,hn,_⟩|⟨b,arr,_,rfl,h4,h5,h6,_,h7,_,h8⟩
 .refine⟨none,0,by rw[hm];rfl,(λi u hi=>by simp_all),(λb hb=>by cases hb),(λ_=>rfl),by omega,hb⟩
 .refine⟨some ⟨b,0,none⟩,c',rfl,λi u hi=> ?_,λb' hb'=>by grind,(λe=>by cases e),h4,hb⟩;rw[fy,lQ]at hi;obtain⟨n,hn,rfl⟩:=hi;obtain⟨u,g1,_,g2⟩:=h8 i (.int .i64 n) (by grind);unfold aU at g2;subst g2;exact⟨b,0,rfl,(vq.1 h6).1,by rw[jg,cell_of_row w' b i arr ty (0,0) h6];exact g1⟩
def WK(a:Option Addr)(c:Nat)(xs:List V)(w:World)(h:RdV w a xs)(hl:Len ⟨a,c,xs⟩):
  Calls bD 155 #[.slice a xs.length c] w λe w'=>∃a' c',e= .returned (.slice a' (aJ xs).length c')/\Rd w' a' (iT (aJ xs))/\jG w.heap.size a'/\(a'=none->c'=0)/\Below w.heap.size w w':=by
 have e1:iT (aJ xs)=((aJ xs).flatMap λs=>[s.a.x,s.a.y,s.b.x,s.b.y]).map (cV .i64):=by unfold iT;rw[CO];rfl
 rw[e1];refine(NW (t:= .S) (l:=aJ xs) (n:=(aJ xs).flatMap λs=>[s.a.x,s.a.y,s.b.x,s.b.y]) (by unfold LT.enc;rw[CO];rfl) h hl (Rh [.lst .V xs] xs rfl ((jK (l:=Rq.pre xs)).1 hl.1))).mono ?_;rintro e w' ⟨a',c',h1,h2,h3,h4,_,h5⟩;exact⟨a',c',h1,h2,h3,h4,h5⟩
section
open Go.RowKit Go.Shelf
attribute [local go_sem] ym
def RdH(n0:Nat)(w:World)(ah:Option Addr)(hs:List RV):Prop:=∀i,i<hs.length->∃b off,ah=some ⟨b,off,none⟩/\b<n0/\w.cell? ⟨b,off+i,none⟩=some (RV.enc (hs.getD i default))
def RdH.below{n0:Nat}{w w':World}{ah:Option Addr}{hs:List RV}(h:RdH n0 w ah hs)(hb:Below n0 w w'):RdH n0 w' ah hs:=by intro i hi;obtain⟨b,off,ha,hlt,h1⟩:=h i hi;exact⟨b,off,ha,hlt,(hb.cell (p:=⟨b,_,none⟩) hlt).trans h1⟩
def RdH.mono{n0 n1:Nat}{w:World}{ah:Option Addr}{hs:List RV}(h:RdH n0 w ah hs)(hn:n0<=n1):RdH n1 w ah hs:=by intro i hi;obtain⟨b,off,ha,hlt,h1⟩:=h i hi;grind
def Kp2(n0 b:Nat)(W W':World):Prop:=Below n0 W W'/\W'.heap[b]? =W.heap[b]?
def Kp2.trans{n0 b:Nat}{A B C:World}(h:Kp2 n0 b A B)(k:Kp2 n0 b B C):Kp2 n0 b A C:=⟨h.1.trans k.1,k.2.trans h.2⟩
def Kp2.blk{n0 b:Nat}{W W':World}{t:TypeId}{cs:Array Value}(h:Kp2 n0 b W W')(hb:Blk W b t cs):Blk W' b t cs:=h.2.trans hb
def Vg(F:Fence)(n:Nat)(h179:F.fn 179)(hro:F.round=none)(hn:1<=n)(l b n0:Nat)(o:RV)(ah:Option Addr)(ch:Nat)(hs:List RV)(hhs:hs.length<=1000)(J Jx:List RV->World->Prop)
  (hY:∀pre x W,x∈o::hs->J pre W->pre.length<hs.length+1->YieldAt F (n-1) bD l #[RV.enc x] W λe W'=>
    (e= .returned (.bool true)/\J (pre++[x]) W'/\Kp2 n0 b W W')\/(e= .returned (.bool false)/\Jx (pre++[x]) W'))
  (W:World) (hB:Blk W b 26 #[RV.enc o,.slice ah hs.length ch]) (hH:RdH n0 W ah hs) (h0:J [] W):
  CallsIn F n bD 179 #[.func (.yield l) #[] #[],.pointer (some ⟨b,0,none⟩)] W λe W'=>(∃v,e= .returned v)/\
   ((∃ys,ys=o::hs/\J ys W')\/(∃pre,pre<+:o::hs/\Jx pre W')):=by
 obtain⟨fn,tmps,assign,body,hy,hR⟩:=hY [] o W cE h0 (by simp);dsimp only[RV.enc]at hy;have c0:=hB.cell 0;have c1:=hB.cell 1;simp[RV.enc]at c0 c1;refine callsIn_of_wp Cn rfl h179 ?_ hro;simp only[Tryz.ntmps179,rJ,gY,mH,vu,vw,vz,v6,v7,v8,rM,j7]
 gi_wp2
 refine hR.mono ?_;rintro e W1 (⟨rfl,hJ1,hk1⟩|⟨rfl,hJx1⟩)
 .have hB1:=hk1.blk hB;have hH1:=hH.below hk1.1;clear c0 c1 hR hy;have c0:=hB1.cell 0;have c1:=hB1.cell 1;simp[RV.enc]at c0 c1
  gi_wp2
  gi_loopw [4,13] (λ_ i wr=>∃k:Nat,k<=hs.length/\i= .int .i64 k/\J (o::hs.take k) wr/\Kp2 n0 b W1 wr) (λ_ i _=>hs.length-(intOf i).toNat)
  case atStart=>exact⟨0,by omega,rfl,by grind,Below.refl _ _,rfl⟩
  case round=>
   obtain⟨k,hk,rfl,hJr,hkr⟩:=hrel;by_cases hlt:k<hs.length
   .obtain⟨bb,off,rfl,hbb,p0⟩:=hH1.below hkr.1 k hlt;have hblt:bb<wr.heap.size:=by
     rcases nF bb wr.heap.size with h|h
     .exact h
     .simp[World.cell?,Array.getElem?_eq_none h]at p0
    have htk:o::hs.take (k+1)=(o::hs.take k)++[hs.getD k default] :=by rw[rL,List.getD_eq_getElem?_getD,eZ hlt];simp
    obtain⟨fn,tmps,assign,body,hy,hR⟩:=hY (o::hs.take k) (hs.getD k default) wr (cB _ (by grind)) hJr (by simp;omega);rw[<-htk]at hR;dsimp only[RV.enc]at hy;unfold RV.enc at p0;clear htk;generalize hs.getD k default=z at hy p0
    gi_wp2
    refine hR.mono ?_;rintro e W3 (⟨rfl,hJ3,hk3⟩|⟨rfl,hJx3⟩)
    .gi_wp2
     go_roundw
     case rel=>exact⟨k+1,by omega,by go_num,hJ3,hkr.trans hk3⟩
     case measure=>simp[intOf];omega
    .gi_wp2
     refine bodyPost_ret (results_none rfl _ _ _) rfl ?_;grind
   .have hk2:k=hs.length:=by omega
    subst hk2;rw[vl]at hJr
    gi_wp2
    go_end0
    grind
 .gi_wp2
  refine bodyPost_ret (results_none rfl _ _ _) rfl ?_;grind
def yy(F:Fence)(n:Nat)(h179:F.fn 179)(hro:F.round=none)(hn:1<=n)(b n0:Nat)(o:RV)(ah:Option Addr)(ch:Nat)(hs:List RV)(hhs:hs.length<=1000)(w:World)(hn0:n0<=w.heap.size)(hB:Blk w b 26 #[RV.enc o,.slice ah hs.length ch])(hH:RdH n0 w ah hs):
  SeqStopsK F n bD 179 #[.pointer (some ⟨b,0,none⟩)] (λx:{x:RV//x∈o::hs}=> #[RV.enc x.1]) (Kp2 n0 b) (λys=>ys.map (·.1)=o::hs) (λpre=>pre.map (·.1)<+:o::hs) (hs.length+1) w:=λl J Jx W hW _ _ hY h0=>by
 refine(Vg F n h179 hro hn l b n0 o ah ch hs hhs (λpre W=>∃p:List {x:RV//x∈o::hs},p.map (·.1)=pre/\J p W) (λpre W=>∃p:List {x:RV//x∈o::hs},p.map (·.1)=pre/\Jx p W) ?_ W (hB.then_ hW) (hH.below (hW.mono hn0)) ⟨[],rfl,h0⟩).mono ?_
 .rintro pre x W' hx ⟨p,rfl,hJ⟩ hl;obtain⟨fn,tmps,assign,body,hy,hR⟩:=hY p ⟨x,hx⟩ W' hJ (by grind);refine⟨fn,tmps,assign,body,hy,hR.mono ?_⟩;grind
 grind
def Bm{n0 b:Nat}{w:World}(hn:n0<=w.heap.size)(hb:b<w.heap.size)(W:World)(l:Nat)(o o':Obj)(hl:w.heap.size<=l)(h:W.heap[l]? =some o)(h1:o.isCells=false)(h2:o.isWalk=false):Kp2 n0 b W (W.putObj l o'):=
 ⟨belowK_b hn W l o o' hl h h1 h2,World.putObj_heap_other (by omega)⟩
def zY(o:RV)(ah:Option Addr)(nh ch:Nat)(w:World):
  Calls bD 122 #[.agg #[RV.enc o,.slice ah nh ch]] w λe w'=>e= .returned (.func (.func 179) #[] #[.pointer (some ⟨w.heap.size,0,none⟩)])/\w'=w.alloc (.cells #[RV.enc o,.slice ah nh ch] 26):=by
 unfold RV.enc
 go_enter Tryz.func122,Tryz.ntmps122
 go_wp2
 go_ret
 simp_all
end
section
open Go.RowKit Go.Shelf
attribute [local go_sem] ym
structure RdSh(w:World)(o:RV)(ah:Option Addr)(hs:List RV):Prop where
 h:RdH w.heap.size w ah hs
 v:∀x∈o::hs,RdV w x.a x.r/\Len x
 n:hs.length<=1000
def RdSh.below{w w':World}{o:RV}{ah:Option Addr}{hs:List RV}(H:RdSh w o ah hs)(hb:Below w.heap.size w w'):RdSh w' o ah hs:=
 ⟨(H.h.below hb).mono hb.size,λx hx=>⟨(H.v x hx).1.below hb,(H.v x hx).2⟩,H.n⟩
def du(o:RV)(hs:List RV):Shape:=⟨o.r,hs.map RV.r⟩
section
variable {F:Fence} {n:Nat} {P:Program} {fn:Func} {R:Ending->World->Prop} {a:Act} {w:World} {v:Value}
def JR(hr:(results fn a.tmps).run P w= .ok v w)(hd:a.defers=[])(hR:R (.returned v) w):bodyPostM F n P fn R .ret a w:=by show LeavesInM F n P fn a.tmps R a.defers .returning w;rw[hd];exact⟨v,hr,hR⟩
def JQ{D:Nat}(hd:a.defers=[{target:= .collected D,args:= #[]}])(hK:w.heap[D]? =some (.deferred (some [])))(hr:(results fn a.tmps).run P (w.putObj D (.deferred none))= .ok v (w.putObj D (.deferred none)))
  (hR:R (.returned v) (w.putObj D (.deferred none))):bodyPostM F n P fn R .ret a w:=by
 show LeavesInM F n P fn a.tmps R a.defers .returning w;rw[hd];exact⟨by simp,.inl ⟨_,_,rfl,run_takeDeferred hK,v,hr,hR⟩⟩
end
def mS{n0 D:Nat}{W:World}(hD:n0<=D)(hK:W.heap[D]? =some (.deferred (some []))):Below n0 W (W.putObj D (.deferred none)):=
 (Below.refl n0 W).grown (grownBy_putObj' W D _) (by grind) (λk e=>by grind)
def zC{W W':World}(h:Below W.heap.size W W'):KeepsOthers W W':=
 ⟨h.size,λk _o hk _=>(h.block k (vq.1 hk).1).trans hk⟩
def mb{β:Type}{B g:Nat}{t:TypeId}{cs:β->Array Value}:OwnFrom B (λ(s:β) W=>Blk W g t (cs s)):=λs W W' row h hg hr=>by have h':W.heap[g]? =some (.cells (cs s) t (0,0)):=h;show W'.heap[g]? =some (.cells (cs s) t (0,0));refine(hg.block g (vq.1 h').1 ?_).trans h';intro e;obtain⟨_,o,ho,hc⟩:=hr g e.symm;rw[h']at ho;cases ho;cases hc
def ql{β:Type}{B:Nat}{p:β->Prop}:OwnFrom B (λ(s:β) (_:World)=>p s):=λ_ _ _ _ h _ _=>h
def YQ{W:World}{D g:Nat}{t:TypeId}{cs:Array Value}(h:Blk W g t cs)(hK:W.heap[D]? =some (.deferred (some [])))(o':Obj):Blk (W.putObj D o') g t cs:=by have h':W.heap[g]? =some (.cells cs t (0,0)):=h;refine(World.putObj_heap_other ?_).trans h';grind
def qi{F:Fence}{n:Nat}{R:Ending->World->Prop}{W:World}{D s:Nat}{T:Array Value}{v:Bool}(hT:T.getD 2 undef= .pointer (some ⟨s,0,none⟩))(b2:Blk W s 4 #[.bool v])(hK:W.heap[D]? =some (.deferred (some [])))
  (hR:R (.returned (.bool v)) (W.putObj D (.deferred none))):bodyPostM F n bD Tryz.f55 R .ret {tmps:=T,defers:=[{target:= .collected D,args:= #[]}]} W:=by
 refine JQ (v:= .bool v) rfl hK ?_ hR;have c2:=(YQ b2 hK (.deferred none)).cell 0;simp at c2;rw[fx]at hT;simp[results,Tryz.f55,go_sem,hT,c2]
def TW{s:Shape}(h:6<s.holes.length):bJ s=false:=by unfold bJ;grind
def k8(o:aD)(L:List aD)(i:Nat):Bool:=aEu (aC L i) o 2&&dV (aC L i) o&&
 ((bP i).all λk=>dV (aC L i) (aC L k)&&aEu (aC L i) (aC L k) 0&&aEu (aC L k) (aC L i) 0)
def sT(L:List aD)(i k:Nat):Bool:=dV (aC L i) (aC L k)&&aEu (aC L i) (aC L k) 0&&aEu (aC L k) (aC L i) 0
def wH(s:Shape):bJ s=(decide (s.holes.length<=6)&&(aE s).all cg&&decide (fN s<=80)&&((bP s.holes.length).all (k8 s.outer s.holes))):=rfl
def TX{s:Shape}{i:Nat}(hi:i<s.holes.length)(h:k8 s.outer s.holes i=false):bJ s=false:=by rw[wH];grind
def Sf{s:Shape}(h:80<fN s):bJ s=false:=by rw[wH,decide_eq_false (show¬fN s<=80 by omega)];simp
def TV{s:Shape}{r:aD}(hr:r∈aE s)(h:cg r=false):bJ s=false:=by rw[wH];grind
def UE{s:Shape}(h1:¬6<s.holes.length)(h2:∀r∈aE s,cg r=true)(h3:¬80<fN s)(h4:∀i,i<s.holes.length->k8 s.outer s.holes i=true):bJ s=true:=by rw[wH,decide_eq_true (show s.holes.length<=6 by omega),decide_eq_true (show fN s<=80 by omega),bZ.2 h2];grind
def WA{o:aD}{L:List aD}{i:Nat}(h1:aEu (aC L i) o 2=true)(h2:dV (aC L i) o=true)(h3:∀k,k<i->sT L i k=true):k8 o L i=true:=by unfold k8;rw[h1,h2];simp only[Bool.true_and,bZ,bz];exact h3
def Un{o:aD}{L:List aD}{i:Nat}(h1:aEu (aC L i) o 2=false):k8 o L i=false:=by unfold k8;rw[h1];simp
def Um{o:aD}{L:List aD}{i:Nat}(h1:dV (aC L i) o=false):k8 o L i=false:=by unfold k8;rw[h1];simp
def Ul{o:aD}{L:List aD}{i k:Nat}(hk:k<i)(h1:sT L i k=false):k8 o L i=false:=by unfold k8;have:((bP i).all λk=>dV (aC L i) (aC L k)&&aEu (aC L i) (aC L k) 0&&aEu (aC L k) (aC L i) 0)=false:=yk.2 ⟨k,bz.2 hk,by simpa[sT]using h1⟩;grind
def Xe(hs:List RV){k:Nat}(hk:k<hs.length):aC (hs.map RV.r) k=(hs.getD k default).r:=by unfold aC;grind
def MK(hs:List RV){k:Nat}(hk:k<hs.length):hs.getD k default∈hs:=by grind
def Ct(o:RV)(ah:Option Addr)(ch:Nat)(hs:List RV)(w:World)(H:RdSh w o ah hs)(hch:hs.length<=ch):
  Calls bD 55 #[.agg #[RV.enc o,.slice ah hs.length ch]] w λe w'=>e= .returned (.bool (bJ (du o hs)))/\Below w.heap.size w w':=by
 have hN:=H.n;by_cases c1:6<hs.length
 .have HV:Hid (bJ (du o hs)=false):=Lib.hid (TW (by unfold du;grind));have d1:decide ((6:Int)<hs.length)=true:=decide_eq_true (by omega);refine(callsIn_wide (n:=9)).1 (callsIn_of_wp_marks Tryz.func55 rfl trivial ((wpIn_wide (n:=9)).2 ?_) rfl);simp only[Tryz.ntmps55,rJ,gY,mH,vu,vw,vz,v6,v7,v8,rM,j7];dsimp only[RV.enc]
  go_wp2_with fail
  have hBW:Below w.heap.size w (((w.alloc (.cells #[.slice o.a o.r.length o.c,.slice ah hs.length ch] 26)).alloc (.cells #[.bool false] 4))):=((Below.refl _ _).alloc (bQ _) _).alloc (by simp) _;refine JR (v:= .bool false) ?_ rfl ?_
  .simp[results,Tryz.f55,go_sem]
  .exact⟨by rw[HV.out],hBW⟩
 .have d1:decide ((6:Int)<hs.length)=false:=decide_eq_false (by omega);refine(callsIn_wide (n:=9)).1 (callsIn_of_wp_marks Tryz.func55 rfl trivial ((wpIn_wide (n:=9)).2 ?_) rfl);simp only[Tryz.ntmps55,rJ,gY,mH,vu,vw,vz,v6,v7,v8,rM,j7];dsimp only[RV.enc]
  go_wp2_with fail
  refine(zY o ah hs.length ch _).mono ?_;rintro e w1 ⟨rfl,rfl⟩
  go_wp2_with fail
  have B1:=(((Blk.new w 26 #[.slice o.a o.r.length o.c,.slice ah hs.length ch]).alloc (.cells #[.bool false] 4)).alloc (.cells #[.int .i64 0] 3)).alloc (.cells #[RV.enc o,.slice ah hs.length ch] 26);have B2:=((Blk.new (w.alloc (.cells #[.slice o.a o.r.length o.c,.slice ah hs.length ch] 26)) 4 #[.bool false]).alloc (.cells #[.int .i64 0] 3)).alloc (.cells #[RV.enc o,.slice ah hs.length ch] 26);have B3:=(Blk.new ((w.alloc (.cells #[.slice o.a o.r.length o.c,.slice ah hs.length ch] 26)).alloc (.cells #[.bool false] 4)) 3 #[.int .i64 0]).alloc (.cells #[RV.enc o,.slice ah hs.length ch] 26);have B4:=Blk.new (((w.alloc (.cells #[.slice o.a o.r.length o.c,.slice ah hs.length ch] 26)).alloc (.cells #[.bool false] 4)).alloc (.cells #[.int .i64 0] 3)) 26 #[RV.enc o,.slice ah hs.length ch];have hBW:Below w.heap.size w ((((w.alloc (.cells #[.slice o.a o.r.length o.c,.slice ah hs.length ch] 26)).alloc (.cells #[.bool false] 4)).alloc (.cells #[.int .i64 0] 3)).alloc (.cells #[RV.enc o,.slice ah hs.length ch] 26)):=((((Below.refl _ _).alloc (bQ _) _).alloc (by simp) _).alloc (by simp;omega) _).alloc (by simp;omega) _;have hs0:w.heap.size+4=((((w.alloc (.cells #[.slice o.a o.r.length o.c,.slice ah hs.length ch] 26)).alloc (.cells #[.bool false] 4)).alloc (.cells #[.int .i64 0] 3)).alloc (.cells #[RV.enc o,.slice ah hs.length ch] 26)).heap.size:=by simp
  simp only[World.size_alloc]at B1 B2 B3 B4;generalize (((w.alloc (.cells #[.slice o.a o.r.length o.c,.slice ah hs.length ch] 26)).alloc (.cells #[.bool false] 4)).alloc (.cells #[.int .i64 0] 3)).alloc (.cells #[RV.enc o,.slice ah hs.length ch] 26)=W0 at B1 B2 B3 B4 hBW hs0|-;refine(wpIn_wide (n:=9)).1 ?_
  refine' wpIn_rangeFunc_ownF (F:=Fence.wide) (n:=9) rfl (by omega) (gf:=179) (lb:= #[.pointer (some ⟨w.heap.size+1+1+1,0,none⟩)]) rfl trivial (enters_of Cn (by kernel_rfl) rfl)
   (yy Fence.wide 8 trivial rfl (by omega) (w.heap.size+1+1+1) w.heap.size o ah ch hs H.n W0 (by omega) B4 (H.h.below hBW)) Kp2.trans (Bm (by omega) (by omega)) (Below.refl _ _) (λ_=>rfl)
   (λpre W=>((Blk W w.heap.size 26 #[.slice o.a o.r.length o.c,.slice ah hs.length ch]/\(Blk W (w.heap.size+1) 4 #[.bool false]/\Blk W (w.heap.size+1+1+1) 26 #[RV.enc o,.slice ah hs.length ch]))/\Blk W (w.heap.size+1+1) 3 #[.int .i64 ((pre.map λx=>x.1.r.length).sum:Nat)])/\(((pre.map λx=>x.1.r.length).sum<=1000*pre.length/\∀x∈pre,cg x.1.r=true)/\Below w.heap.size w W))
   (λc pre W=>Blk W (w.heap.size+1) 4 #[.bool false]/\((c= .ret/\∃x∈pre,cg x.1.r=false)/\Below w.heap.size w W))
   (OwnFrom.and (OwnFrom.and (OwnFrom.and mb (OwnFrom.and mb mb)) mb) (OwnFrom.and ql (ownFrom_below (bQ _) (by omega))))
   (λc=>OwnFrom.and mb (OwnFrom.and ql (ownFrom_below (bQ _) (by omega))))
   ⟨⟨⟨B1,B2,B4⟩,B3⟩,⟨by simp,by simp⟩,hBW⟩ _ ?assign ?body ?done ?stop
  case assign=>
   intro l x W K hK;dsimp only[RV.enc]
   gi_wp2
   exact hK
  case body=>
   rintro l pre ⟨⟨xa,xc,xr⟩,hxm⟩ W ⟨⟨⟨b1,b2,b4⟩,b3⟩,⟨hsum,hval⟩,hb⟩ hlen;obtain⟨hxr,hxl⟩:=H.v _ hxm;dsimp only at hxr hxl;have hxn:xr.length<=1000:=hxl.1;have HS:Hid (((pre++[(⟨⟨xa,xc,xr⟩,hxm⟩:{x:RV//x∈o::hs})]).map λx:{x:RV//x∈o::hs}=>x.1.r.length).sum=(pre.map λx=>x.1.r.length).sum+xr.length):=Lib.hid (by simp);obtain⟨S,hS⟩:∃S,S=(List.map (λx:{x:RV//x∈o::hs}=>fW x.1.r) pre).sum:=⟨_,rfl⟩;rw[<-hS]at b3 hsum HS;clear hS;have hSb:S<=1001000:=by have:=H.n;omega
   have c2:=b2.cell 0;have c3:=b3.cell 0;have f2:=b2.frozen 0;have f3:=b3.frozen 0;simp at c2 c3;dsimp only[RV.enc];clear H d1 hN hBW B1 B2 B3 B4 hs0
   gi_wp2_with fail
   refine⟨trivial,(CallsIn.inRound l (callsIn_wide.2 (Sy xa xc xr _ (hxr.below (hb.setCell (p:=⟨w.heap.size+1+1,0,none⟩) (by simp;omega) _)) hxl))).mono ?_⟩;rintro e w1 ⟨rfl,hb1⟩;have hk:KeepsOthers W w1:=(KeepsOthers.setCell W _ _).trans (zC hb1);have q2:=(b2.far (p:=⟨w.heap.size+1+1,0,none⟩) (by simp) (.int .i64 ((S:Int)+xr.length))).then_ hb1;have q1:=(b1.far (p:=⟨w.heap.size+1+1,0,none⟩) (by simp;omega) (.int .i64 ((S:Int)+xr.length))).then_ hb1;have q4:=(b4.far (p:=⟨w.heap.size+1+1,0,none⟩) (by simp) (.int .i64 ((S:Int)+xr.length))).then_ hb1;have q3:=(b3.iV 0 (.int .i64 ((S:Int)+xr.length))).then_ hb1;have hB1:Below w.heap.size W w1:=((Below.refl _ W).setCell (p:=⟨w.heap.size+1+1,0,none⟩) (by simp;omega) _).trans (hb1.mono (by have:=hb.size;simp_all));have hK:Kp2 w.heap.size (w.heap.size+1+1+1) W w1:=⟨hB1,Eq.trans q4 (Eq.symm b4)⟩;clear hb1 c2 c3 f2 f3 b1 b2 b3 b4;cases hv:cg xr with
   |true=>
    gi_wp2
    refine⟨hk,hK,⟨⟨q1,q2,q4⟩,?_⟩,⟨?_,?_⟩,hb.trans hB1⟩
    .rw[HS.out];grind
    .rw[HS.out];simp;omega
    grind
   |false=>
    have c2:=q2.cell 0;have f2:=q2.frozen 0;simp at c2
    gi_wp2
    refine⟨hk.trans (KeepsOthers.setCell _ _ _),by simpa using q2.iV 0 (.bool false),⟨rfl,⟨_,bq.2 (.inr cE),hv⟩⟩,(hb.trans hB1).setCell (p:=⟨w.heap.size+1,0,none⟩) (by simp) _⟩
  case stop=>
   rintro D c pre W hD hpre ⟨b2,⟨rfl,x,hx,hv⟩,hb⟩ hK;have HV:Hid (bJ (du o hs)=false):=Lib.hid (TV (r:=x.1.r) (by have:=x.2;unfold du aE;grind) hv)
   gi_wp2
   exact qi rfl b2 hK ⟨by rw[HV.out],hb.trans (mS (by omega) hK)⟩
  case done=>
   rintro D xs W hD hxs ⟨⟨⟨b1,b2,b4⟩,b3⟩,⟨hsum,hval⟩,hb⟩ hK;have hN7:xs.length<=7:=by have:=congrArg fW hxs;simp at this;omega
   have HC:(xs.map λx=>x.1.r.length).sum=fN (du o hs):=by
    have e:(xs.map λx=>x.1.r.length)=(xs.map (·.1)).map λx=>x.r.length:=by rw[cv];rfl
    rw[e,hxs];unfold fN aE du;simp[Function.comp_def]
   have HA:Hid (∀r∈aE (du o hs),cg r=true):=Lib.hid (by
    intro r hr;have hr2:r∈(o::hs).map RV.r:=by unfold aE du at hr;simpa using hr
    grind)
   rw[HC]at b3 hsum;clear HC hval hxs b4 B1 B2 B3 B4;have c80':=Lib.hid (λh:80<fN (du o hs)=>Sf h);have HVA:=Lib.hid (λ(h:¬80<fN (du o hs)) h4=>UE (s:=du o hs) (by unfold du;grind) HA.out h h4);generalize fN (du o hs)=N at b3 hsum c80' HVA;have hNb:N<=7000:=by omega
   clear HA hsum hN7 xs;have c3:=b3.cell 0;have f2:=b2.frozen 0;have c2:=b2.cell 0;have d0:=b1.cell 0;have d1':=b1.cell 1;simp at c2 c3 d0 d1';have hne:D≠w.heap.size+1:=by omega
   have hKs:∀v,(W.setCell ⟨w.heap.size+1,0,none⟩ v).heap[D]? =some (.deferred (some [])):=λv=>(Below.heap_setCell W ⟨w.heap.size+1,0,none⟩ v D (by omega)).trans hK;by_cases c80:80<N
   .have d80:decide ((80:Int)<N)=true:=decide_eq_true (by omega);have HV:=Lib.hid (c80'.out c80);clear c80' HVA hNb c80
    go_wp2
    exact qi rfl (by simpa using b2.iV 0 (.bool false)) (hKs _) ⟨by rw[HV.out],(hb.setCell (p:=⟨w.heap.size+1,0,none⟩) (by simp) _).trans (mS (by omega) (hKs _))⟩
   .have d80:decide ((80:Int)<N)=false:=decide_eq_false (by omega);replace HVA:=Lib.hid (HVA.out c80);clear c80' c80 hNb b3
    go_wp2_with fail
    have hDl:D<W.heap.size:=(vq.1 hK).1;have hKX:∀wx,Below W.heap.size W wx->(wx.setCell ⟨w.heap.size+1,0,none⟩ (.bool false)).heap[D]? =some (.deferred (some [])):=λwx h=>(Below.heap_setCell wx ⟨w.heap.size+1,0,none⟩ _ D (by omega)).trans ((h.block D hDl).trans hK);have hKT:∀wx,Below W.heap.size W wx->(wx.setCell ⟨w.heap.size+1,0,none⟩ (.bool true)).heap[D]? =some (.deferred (some [])):=λwx h=>(Below.heap_setCell wx ⟨w.heap.size+1,0,none⟩ _ D (by omega)).trans ((h.block D hDl).trans hK);have ho:=H.v o cE;have hol:(du o hs).outer=o.r:=rfl;have hhl:(du o hs).holes=hs.map RV.r:=rfl;have hlen:(du o hs).holes.length=hs.length:=by rw[hhl,cL]
    have HNO:=Lib.hid (λi (hi:i<hs.length) h=>TX (s:=du o hs) (i:=i) (by omega) h);rw[hol,hhl]at HNO;rw[hol,hhl,cL]at HVA;have HM:=Lib.hid (λk (hk:k<hs.length)=>Xe hs hk);clear hol hhl hlen hKs f2 c2 c3 d0 d1' hBW;have HC:=Lib.hid (λ(wx:World) (h:Below W.heap.size W wx)=>(show wx.cell? ⟨w.heap.size,0,none⟩=some (.slice o.a o.r.length o.c)/\wx.cell? ⟨w.heap.size,1,none⟩=some (.slice ah hs.length ch)/\wx.cell? ⟨w.heap.size+1,0,none⟩=some (.bool false)/\wx.frozen? ⟨w.heap.size+1,0,none⟩=false from
     ⟨by simpa using(b1.then_ h).cell 0,by simpa using(b1.then_ h).cell 1,by simpa using(b2.then_ h).cell 0,(b2.then_ h).frozen 0⟩))
    go_loopw [5,6,8,28] (λ_ _ _ i wr=>∃k:Nat,k<=hs.length/\i= .int .i64 k/\Hid (∀i,i<k->k8 o.r (hs.map RV.r) i=true)/\Below W.heap.size W wr) (λ_ _ _ i _=>hs.length-(intOf i).toNat)
    case atStart=>exact⟨0,by omega,rfl,Lib.hid (λi hi=>by omega),Below.refl _ _⟩
    case round=>
     obtain⟨k,hk,rfl,HT,hbr⟩:=hrel;by_cases hlt:k<hs.length
     .obtain⟨bb,off,rfl,hbb,p0⟩:=H.h k hlt;have hbw:=hb.trans (hbr.mono hb.size);replace p0:=(hbw.cell (p:=⟨bb,_,none⟩) hbb).trans p0;have hx:=H.v _ (cB _ (MK hs hlt));have HMk:=HM.out k hlt;obtain⟨d0,d1',e1,e2⟩:=HC.out _ hbr;have hbbr:bb<wr.heap.size:=vU hbb hbw.size;obtain⟨⟨xa,xc,xr⟩,hz⟩:∃z,z=hs.getD k default:=⟨_,rfl⟩;rw[<-hz]at p0 hx HMk;dsimp only[RV.enc]at p0 hx HMk;clear hz;have HNK:=Lib.hid (HNO.out k hlt);cases h1:aEu xr o.r 2 with
      |false=>
       have HV:=Lib.hid (HNK.out (Un (by grind)));clear HNK HMk
       go_wp2_with fail
       refine(mc xa xc xr o.a o.c o.r 2 _ (ho.1.below hbw) ho.2 (hx.1.below hbw) hx.2).mono ?_;rintro e w1 ⟨rfl,hb1⟩;rw[h1];have hbX:=hbr.trans (hb1.mono hbr.size);clear d0 d1' e1 e2 p0 hb1;obtain⟨d0,d1',e1,e2⟩:=HC.out _ hbX
       go_wp2
       exact qi rfl (by simpa using(b2.then_ hbX).iV 0 (.bool false)) (hKX _ hbX) ⟨by rw[HV.out],((hb.trans (hbX.mono hb.size)).setCell (p:=⟨w.heap.size+1,0,none⟩) (by simp) _).trans (mS (by omega) (hKX _ hbX))⟩
      |true=>
       go_wp2_with fail
       refine(mc xa xc xr o.a o.c o.r 2 _ (ho.1.below hbw) ho.2 (hx.1.below hbw) hx.2).mono ?_;rintro e w1 ⟨rfl,hb1⟩;rw[h1];have hbY:=hbr.trans (hb1.mono hbr.size);have hbv:=hbw.trans (hb1.mono hbw.size);clear d0 d1' e1 e2 hb1 p0 hbr hbw;obtain⟨d0,d1',e1,e2⟩:=HC.out _ hbY;cases h2:dV xr o.r with
       |false=>
        have HV:=Lib.hid (HNK.out (Um (by simp_all)));clear HNK HMk
        go_wp2_with fail
        refine(z6 xa xc xr o.a o.c o.r _ (hx.1.below hbv) (ho.1.below hbv) hx.2 ho.2).mono ?_;rintro e w2 ⟨rfl,hb2⟩;rw[h2];have hbX:=hbY.trans (hb2.mono hbY.size);clear d0 d1' e1 e2 hb2;obtain⟨d0,d1',e1,e2⟩:=HC.out _ hbX
        go_wp2
        exact qi rfl (by simpa using(b2.then_ hbX).iV 0 (.bool false)) (hKX _ hbX) ⟨by rw[HV.out],((hb.trans (hbX.mono hb.size)).setCell (p:=⟨w.heap.size+1,0,none⟩) (by simp) _).trans (mS (by omega) (hKX _ hbX))⟩
       |true=>
        go_wp2_with fail
        refine(z6 xa xc xr o.a o.c o.r _ (hx.1.below hbv) (ho.1.below hbv) hx.2 ho.2).mono ?_;rintro e w2 ⟨rfl,hb2⟩;rw[h2];have hbX:=hbY.trans (hb2.mono hbY.size);clear d0 d1' e1 e2 hb2 hbY hbv hbbr;obtain⟨d0,d1',e1,e2⟩:=HC.out _ hbX;have hkc:k<=ch:=by omega
        go_wp2_with fail
        clear d0 d1' e1 e2 HNO;have hbv2:=hb.trans (hbX.mono hb.size)
        go_loopw [8,50] (λ_ i wr=>∃q:Nat,q<=k/\i= .int .i64 q/\Hid (∀i,i<q->sT (hs.map RV.r) k i=true)/\Below W.heap.size W wr) (λ_ i _=>k-(intOf i).toNat)
        case atStart=>exact⟨0,by omega,rfl,Lib.hid (λi hi=>by omega),hbX⟩
        case round=>
         obtain⟨q,hq,rfl,HQ,hbq⟩:=hrel;by_cases hlq:q<k
         .have hqs:q<hs.length:=by omega
          obtain⟨bb',off',he,hbb',p0⟩:=H.h q hqs;simp only[Option.some.injEq,Addr.mk.injEq,and_true]at he;obtain⟨rfl,rfl⟩:=he;have hbw:=hb.trans (hbq.mono hb.size);replace p0:=(hbw.cell (p:=⟨bb,_,none⟩) hbb).trans p0;have hy:=H.v _ (cB _ (MK hs hqs));have HMq:=HM.out q hqs;have hbbr:bb<wr.heap.size:=vU hbb hbw.size;obtain⟨⟨ya,yc,yr⟩,hz⟩:∃z,z=hs.getD q default:=⟨_,rfl⟩;rw[<-hz]at p0 hy HMq;dsimp only[RV.enc]at p0 hy HMq;clear hz hbb';have HNQ:=Lib.hid (λh=>HNK.out (Ul hlq h));have HP:Hid (sT (hs.map RV.r) k q=(dV xr yr&&aEu xr yr 0&&aEu yr xr 0)):=Lib.hid (by unfold sT;rw[HMk,HMq]);cases h3:dV xr yr with
          |false=>
           have HV:=Lib.hid (HNQ.out (by rw[HP.out,h3];rfl))
           go_wp2_with fail
           refine(z6 xa xc xr ya yc yr _ (hx.1.below hbw) (hy.1.below hbw) hx.2 hy.2).mono ?_;rintro e w3 ⟨rfl,hbw3⟩;rw[h3];have hbz:=hbq.trans (hbw3.mono hbq.size);have hbv3:=hbw.trans (hbw3.mono hbw.size);clear hbw3;obtain⟨d0,d1',e1,e2⟩:=HC.out _ hbz
           go_wp2
           exact qi rfl (by simpa using(b2.then_ hbz).iV 0 (.bool false)) (hKX _ hbz) ⟨by rw[HV.out],((hb.trans (hbz.mono hb.size)).setCell (p:=⟨w.heap.size+1,0,none⟩) (by simp) _).trans (mS (by omega) (hKX _ hbz))⟩
          |true=>
           go_wp2_with fail
           refine(z6 xa xc xr ya yc yr _ (hx.1.below hbw) (hy.1.below hbw) hx.2 hy.2).mono ?_;rintro e w3 ⟨rfl,hbw3⟩;rw[h3];have hbz:=hbq.trans (hbw3.mono hbq.size);have hbv3:=hbw.trans (hbw3.mono hbw.size);clear hbw3;clear p0 hbw;cases h4:aEu xr yr 0 with
           |false=>
            have HV:=Lib.hid (HNQ.out (by rw[HP.out,h3,h4];rfl))
            go_wp2_with fail
            refine(mc xa xc xr ya yc yr 0 _ (hy.1.below hbv3) hy.2 (hx.1.below hbv3) hx.2).mono ?_;rintro e w4 ⟨rfl,hbw4⟩;rw[h4];have hbz4:=hbz.trans (hbw4.mono hbz.size);have hbv4:=hbv3.trans (hbw4.mono hbv3.size);clear hbw4;obtain⟨d0,d1',e1,e2⟩:=HC.out _ hbz4
            go_wp2
            exact qi rfl (by simpa using(b2.then_ hbz4).iV 0 (.bool false)) (hKX _ hbz4) ⟨by rw[HV.out],((hb.trans (hbz4.mono hb.size)).setCell (p:=⟨w.heap.size+1,0,none⟩) (by simp) _).trans (mS (by omega) (hKX _ hbz4))⟩
           |true=>
            go_wp2_with fail
            refine(mc xa xc xr ya yc yr 0 _ (hy.1.below hbv3) hy.2 (hx.1.below hbv3) hx.2).mono ?_;rintro e w4 ⟨rfl,hbw4⟩;rw[h4];have hbz4:=hbz.trans (hbw4.mono hbz.size);have hbv4:=hbv3.trans (hbw4.mono hbv3.size);clear hbw4;clear hbv3;cases h5:aEu yr xr 0 with
            |false=>
             have HV:=Lib.hid (HNQ.out (by rw[HP.out,h3,h4,h5];rfl))
             go_wp2_with fail
             refine(mc ya yc yr xa xc xr 0 _ (hx.1.below hbv4) hx.2 (hy.1.below hbv4) hy.2).mono ?_;rintro e w5 ⟨rfl,hbw5⟩;rw[h5];have hbz5:=hbz4.trans (hbw5.mono hbz4.size);have hbv5:=hbv4.trans (hbw5.mono hbv4.size);clear hbw5;obtain⟨d0,d1',e1,e2⟩:=HC.out _ hbz5
             go_wp2
             exact qi rfl (by simpa using(b2.then_ hbz5).iV 0 (.bool false)) (hKX _ hbz5) ⟨by rw[HV.out],((hb.trans (hbz5.mono hb.size)).setCell (p:=⟨w.heap.size+1,0,none⟩) (by simp) _).trans (mS (by omega) (hKX _ hbz5))⟩
            |true=>
             have HQ2:Hid (∀i,i<q+1->sT (hs.map RV.r) k i=true):=Lib.hid (λi hi=>by
              by_cases e:i=q
              .subst e;rw[HP.out,h3,h4,h5];rfl
              .exact HQ.out i (by omega))
             go_wp2_with fail
             refine(mc ya yc yr xa xc xr 0 _ (hx.1.below hbv4) hx.2 (hy.1.below hbv4) hy.2).mono ?_;rintro e w5 ⟨rfl,hbw5⟩;rw[h5];have hbz5:=hbz4.trans (hbw5.mono hbz4.size);have hbv5:=hbv4.trans (hbw5.mono hbv4.size);clear hbw5
             go_wp2
             go_roundw
             case rel=>exact⟨q+1,by omega,by go_num,HQ2,hbz5⟩
             case measure=>simp[intOf];omega
         .have HT2:Hid (∀i,i<k+1->k8 o.r (hs.map RV.r) i=true):=Lib.hid (λi hi=>by
           by_cases e:i=k
           .subst e;exact WA (by simp_all) (by simp_all) (λj hj=>HQ.out j (by omega))
           .exact HT.out i (by omega))
          go_wp2
          go_roundw
          case rel=>exact⟨k+1,by omega,by go_num,HT2,hbq⟩
          case measure=>simp[intOf];omega
     .have HV:=Lib.hid (HVA.out (λi hi=>HT.out i (by omega)));obtain⟨d0,d1',e1,e2⟩:=HC.out _ hbr
      go_wp2
      exact qi rfl (by simpa using(b2.then_ hbr).iV 0 (.bool true)) (hKT _ hbr) ⟨by rw[HV.out],((hb.trans (hbr.mono hb.size)).setCell (p:=⟨w.heap.size+1,0,none⟩) (by simp) _).trans (mS (by omega) (hKT _ hbr))⟩
end
section
open Go.RowKit Go.Shelf
attribute [local go_sem] ym
def DB{W W':World}{base:Nat}{e:TypeId}{size:Nat}{v:Value}{n:Nat}{xs:List Value}{row:Option Nat}(h:W.ownsRow base e size v n xs)(hg:W.grownBy W' row)(hr:∀r,row=some r->∃o:Obj,W.heap[r]? =some o/\o.isCells=false):W'.ownsRow base e size v n xs:=
 ⟨h.1,h.2.imp id λ⟨g,cap,cur,h1,h2,h3,h4⟩=>⟨g,cap,cur,h1,h2,(hg.block g (by grind) (λe=>by obtain⟨o,ho,hc⟩:=hr g e.symm;rw[h3]at ho;cases ho;cases hc)).trans h3,h4⟩⟩
def Yw{β:Type}{B bx base:Nat}{t:TypeId}{e:TypeId}{size:Nat}{n:β->Nat}{xs:β->List Value}:OwnFrom B (λ(s:β) W=>∃v,Blk W bx t #[v]/\W.ownsRow base e size v (n s) (xs s)):=λs W W' row ⟨v,h1,h2⟩ hg hr=>
 ⟨v,mb (cs:=λ_:β=> #[v]) s W W' row h1 hg hr,DB h2 hg (by grind)⟩
def Ii{W:World}{D base:Nat}{e:TypeId}{size:Nat}{v:Value}{n:Nat}{xs:List Value}(h:W.ownsRow base e size v n xs)(hK:W.heap[D]? =some (.deferred (some [])))(o':Obj):(W.putObj D o').ownsRow base e size v n xs:=
 DB h (grownBy_putObj' W D o') (λr e=>by cases e;exact⟨_,hK,rfl⟩)
def K7{W W':World}{base:Nat}{e:TypeId}{size:Nat}{v:Value}{n:Nat}{xs:List Value}(h:W.ownsRow base e size v n xs)(hg:W.grownBy W' v.ownBlock):KeepsOthers W W':=
 KeepsOthers.of_grownBy hg (λj o hj ho=>by
  rcases h.2 with⟨h1,h2⟩|⟨g,cap,cur,h1,h2,h3,h4⟩
  .rw[h1]at hj;simp[Cb]at hj
  .rw[h1]at hj;simp[Cb]at hj;subst hj;rw[h3]at ho;cases ho;rfl)
def Dm{F:Fence}{n:Nat}{P:Program}{fn:Func}{R:Ending->World->Prop}{W:World}{D:Nat}{T:Array Value}{t:Tmp}{v:Value}(hf:fn.results= #[.tmp t])(hT:T.getD t undef=v)(hK:W.heap[D]? =some (.deferred (some [])))
  (hR:R (.returned v) (W.putObj D (.deferred none))):bodyPostM F n P fn R .ret {tmps:=T,defers:=[{target:= .collected D,args:= #[]}]} W:=by
 refine JQ (v:=v) rfl hK ?_ hR;rw[<-hT];simp[results,hf]
def WD(xs:List S):∀u∈iT xs,u.oneCell'=true:=by intro u hu;obtain⟨v,_,hv⟩:=List.mem_flatMap.1 hu;simp only[bO,List.not_mem_nil,or_false]at hv;rcases hv with rfl|rfl|rfl|rfl<;>rfl
def Rd.grown{w w':World}{a:Option Addr}{cs:List Value}{row:Option Nat}{m:Nat}(h:Rd w a cs)(hF:jG m a)(hr:∀k,row=some k->k<m)(hg:w.grownBy w' row):Rd w' a cs:=by intro i u hi;obtain⟨b,off,rfl,hb,hc⟩:=h i u hi;have hm:m<=b:=hF _ rfl;refine⟨b,off,rfl,vU hb hg.size,(i6 (a:=⟨b,off+i,none⟩) (hg.block b hb ?_)).trans hc⟩;grind
def Rd.iV{w:World}{a:Option Addr}{cs:List Value}{m:Nat}{p:Addr}{u:Value}(h:Rd w a cs)(hF:jG m a)(hp:p.block<m):Rd (w.setCell p u) a cs:=by intro i v hi;obtain⟨b,off,rfl,hb,hc⟩:=h i v hi;have hm:m<=b:=hF _ rfl;exact⟨b,off,rfl,by simp_all,(i6 (a:=⟨b,off+i,none⟩) (Below.heap_setCell w p u b (by omega))).trans hc⟩
def zA{W:World}{base:Nat}{e:TypeId}{size:Nat}{v:Value}{n:Nat}{xs:List Value}{p:Addr}{u:Value}(h:W.ownsRow base e size v n xs)(hp:p.block<base):(W.setCell p u).ownsRow base e size v n xs:=
 ⟨h.1,h.2.imp id λ⟨g,cap,cur,h1,h2,h3,h4⟩=>⟨g,cap,cur,h1,h2,(Below.heap_setCell W p u g (by omega)).trans h3,h4⟩⟩
abbrev Mem(o:RV)(hs:List RV):={x:RV//x∈o::hs}
def kA{o:RV}{hs:List RV}(pre:List (Mem o hs)):List S:=pre.flatMap λx=>aJ x.1.r
def TK{o:RV}{hs:List RV}(pre:List (Mem o hs))(x:Mem o hs):kA (pre++[x])=kA pre++aJ x.1.r:=by unfold kA;simp
def U1{o:RV}{hs:List RV}(h:∀x∈o::hs,x.r.length<=1000)(pre:List (Mem o hs)):(kA pre).length<=1000*pre.length:=by
 induction pre with
 |nil=>simp[kA]
 |cons x l ih=>
  have h2:=AM x.1.r;unfold kA at*;grind
def Ty{o:RV}{hs:List RV}{xs:List (Mem o hs)}(h:xs.map (·.1)=o::hs):kA xs=bW (du o hs):=by
 have e:kA xs=(xs.map (·.1)).flatMap λx=>aJ x.r:=by unfold kA;rw[Hv]
 rw[e,h];unfold bW aE du;simp[fX,Hv]
def Si(o:RV)(ah:Option Addr)(ch:Nat)(hs:List RV)(w:World)(H:RdSh w o ah hs)(hn:hs.length<=900):
  Calls bD 131 #[.agg #[RV.enc o,.slice ah hs.length ch]] w λe w'=>∃v,e= .returned v/\w'.ownsRow w.heap.size 46 4 v (bW (du o hs)).length (iT (bW (du o hs)))/\Below w.heap.size w w':=by
 refine(callsIn_wide (n:=9)).1 (callsIn_of_wp_marks Tryz.func131 rfl trivial ((wpIn_wide (n:=9)).2 ?_) rfl);simp only[Tryz.ntmps131,rJ,gY,mH,vu,vw,vz,v6,v7,v8,rM,j7];dsimp only[RV.enc]
 go_wp2_with fail
 refine(zY o ah hs.length ch _).mono ?_;rintro e w1 ⟨rfl,rfl⟩
 go_wp2_with fail
 have B3:=(Blk.new (w.alloc (.cells #[.slice o.a o.r.length o.c,.slice ah hs.length ch] 26)) 32 #[.slice none 0 0]).alloc (.cells #[RV.enc o,.slice ah hs.length ch] 26);have B4:=Blk.new ((w.alloc (.cells #[.slice o.a o.r.length o.c,.slice ah hs.length ch] 26)).alloc (.cells #[.slice none 0 0] 32)) 26 #[RV.enc o,.slice ah hs.length ch];have hBW:Below w.heap.size w ((((w.alloc (.cells #[.slice o.a o.r.length o.c,.slice ah hs.length ch] 26)).alloc (.cells #[.slice none 0 0] 32))).alloc (.cells #[RV.enc o,.slice ah hs.length ch] 26)):=(((Below.refl _ _).alloc (bQ _) _).alloc (by simp) _).alloc (by simp;omega) _;have hs0:w.heap.size+3=((((w.alloc (.cells #[.slice o.a o.r.length o.c,.slice ah hs.length ch] 26)).alloc (.cells #[.slice none 0 0] 32))).alloc (.cells #[RV.enc o,.slice ah hs.length ch] 26)).heap.size:=by simp
 simp only[World.size_alloc]at B3 B4;generalize (((w.alloc (.cells #[.slice o.a o.r.length o.c,.slice ah hs.length ch] 26)).alloc (.cells #[.slice none 0 0] 32))).alloc (.cells #[RV.enc o,.slice ah hs.length ch] 26)=W0 at B3 B4 hBW hs0|-;refine(wpIn_wide (n:=9)).1 ?_
 refine' wpIn_rangeFunc_ownF (F:=Fence.wide) (n:=9) rfl (by omega) (gf:=179) (lb:= #[.pointer (some ⟨w.heap.size+1+1,0,none⟩)]) rfl trivial (enters_of Cn (by kernel_rfl) rfl)
  (yy Fence.wide 8 trivial rfl (by omega) (w.heap.size+1+1) w.heap.size o ah ch hs H.n W0 (by omega) B4 (H.h.below hBW)) Kp2.trans (Bm (by omega) (by omega)) (Below.refl _ _) (λ_=>rfl)
  (λpre W=>(Blk W (w.heap.size+1+1) 26 #[RV.enc o,.slice ah hs.length ch]/\∃v,Blk W (w.heap.size+1) 32 #[v]/\W.ownsRow (w.heap.size+3) 46 4 v (kA pre).length (iT (kA pre)))/\(w.heap.size+3<=W.heap.size/\Below w.heap.size w W))
  (λc pre W=>False/\False)
  (OwnFrom.and (OwnFrom.and mb Yw) (OwnFrom.and (λs A B row h hg _=>cR h hg.size) (ownFrom_below (bQ _) (by omega))))
  (λc=>OwnFrom.and ql ql)
  ⟨⟨B4,_,B3,IC _ _ _ _⟩,by omega,hBW⟩ _ ?assign ?body ?done ?stop
 case assign=>
  intro l x W K hK
  gi_wp2
  exact hK
 case stop=>
  grind
 case done=>
  rintro D xs W hD hxs ⟨⟨b4,v,b3,hrow⟩,_,hb⟩ hK;have c3:=b3.cell 0;have hD2:w.heap.size<=D:=by omega
  rw[Ty hxs]at hrow
  go_wp2
  exact Dm (v:=v) rfl rfl hK ⟨v,rfl,Ij (Ii hrow hK _) (by omega),hb.trans (mS hD2 hK)⟩
 case body=>
  rintro l pre ⟨⟨xa,xc,xr⟩,hxm⟩ W ⟨⟨b4,u3,b3,hrow⟩,hsz,hb⟩ hlen;obtain⟨hxr,hxl⟩:=H.v _ hxm;dsimp only at hxr hxl;have hxn:xr.length<=1000:=hxl.1;have HE:Hid (kA (pre++[(⟨⟨xa,xc,xr⟩,hxm⟩:Mem o hs)])=kA pre++aJ xr):=Lib.hid (TK _ _);have hle:=U1 (λx hx=>(H.v x hx).2.1) pre;have hle2:=AM xr;have hsz2:(kA pre).length+(aJ xr).length<=1000000:=by omega
  rw[show(w.heap.size+3)=w.heap.size+3 from rfl]at hrow;generalize kA pre=E at HE hrow hsz2;clear hle hle2 B3 B4 hBW hs0;refine wpIn_block ?_;dsimp only[RV.enc];refine Cv (by kernel_rfl) (by kernel_rfl) [8,9,10,11] [[],[],[1],[0,1,2],[0,1,2,3]] (by kernel_rfl) (by kernel_rfl) (by simp_all)
   (WR3 3 4 (λwx=>Below W.heap.size W wx) (λwx=>Blk wx (w.heap.size+1) 32 #[u3]/\Blk wx (w.heap.size+1+1) 26 #[RV.enc o,.slice ah hs.length ch]/\Below w.heap.size w wx/\KeepsOthers W wx/\Below w.heap.size W wx/\w.heap.size+3<=wx.heap.size) (λwx=>∃v,Blk wx (w.heap.size+1) 32 #[v]/\wx.ownsRow (w.heap.size+3) 46 4 v (E.length+(aJ xr).length) (iT (E++aJ xr))/\Blk wx (w.heap.size+1+1) 26 #[RV.enc o,.slice ah hs.length ch]/\Below w.heap.size w wx/\KeepsOthers W wx/\Below w.heap.size W wx/\w.heap.size+3<=wx.heap.size))
   (λi v wx=>match i with
     |0=>v=u3
     |1=>v= .slice xa xr.length xc
     |2=>∃a c,v= .slice a (aJ xr).length c/\Rd wx a (iT (aJ xr))/\(a=none->c=0)/\jG W.heap.size a
     |3=>wx.ownsRow (w.heap.size+3) 46 4 v (E.length+(aJ xr).length) (iT (E++aJ xr))
     |4=>True
     |_=>True)
   (WR3.start (Below.refl _ _).drew) ?_ ?_ ?_
  .intro j v wx wy hf hxy;match j with
   |0=>exact hf
   |1=>exact hf
   |2=>obtain⟨a,c,h1,h2,h3⟩:=hf;exact⟨a,c,h1,h2.below hxy,h3⟩
   |3=>exact tI hf hxy
   |4=>exact hf
   |_+5=>exact trivial
  .refine⟨?_,?_,?_,?_,?_,trivial⟩
   .intro D V wx hD hanc hdesc hin hWR;have hA:=hWR.lo (hdesc 3 (by kernel_rfl)) (hdesc 4 (by kernel_rfl));have e3:=hin 3 (by kernel_rfl);have q0:=(Blk.then_ b3 hA).cell 0;refine opK ?_;intro K hK;simp[cI,execOp,bI,e3,q0,go_sem];exact hK _ _ ⟨rfl,(hWR.keep (by decide) (by decide)),.inl rfl⟩
   .intro D V wx hD hanc hdesc hin hWR;have e4:=hin 4 (by kernel_rfl);refine opK ?_;intro K hK;simp[cI,execOp,bI,e4,go_sem];exact hK _ _ ⟨rfl,(hWR.keep (by decide) (by decide)),.inl rfl⟩
   .intro D V wx hD hanc hdesc hin hWR;have hA:=hWR.lo (hdesc 3 (by kernel_rfl)) (hdesc 4 (by kernel_rfl));have e9:V 9= .slice xa xr.length xc:=(hanc 1 (by kernel_rfl)).2;refine opK ?_;intro K hK;simp[cI,execOp,bI,e9,go_sem];refine(WK xa xc xr _ (hxr.below (hb.trans (hA.mono hb.size))) hxl).mono ?_;rintro e w1 ⟨a,c,rfl,hR,hF,hN,hc⟩;exact⟨_,rfl,hK _ _ ⟨⟨a,c,rfl,hR,hN,hF.mono hA.size⟩,(.mkLo (hdesc 3 (by kernel_rfl)) (hdesc 4 (by kernel_rfl)) (by decide) (by decide) (Below.then_ hA hc)),.inr (.inl hc)⟩⟩
   .intro D V wx hD hanc hdesc hin hWR;have hA:=hWR.lo hD (hdesc 4 (by kernel_rfl));have e8:V 8=u3:=(hanc 0 (by kernel_rfl)).2;have e10:=(hanc 2 (by kernel_rfl)).2;refine opK ?_;intro K hK;obtain⟨a,c,e10,hR,hN,hF⟩:=e10;refine Dq (.tmp 8) (.tmp 10) 32 rfl (w.heap.size+3) 46 (.agg #[.int .i64 0,.int .i64 0,.int .i64 0,.int .i64 0]) 4 32 Tryz.underlying32 (by kernel_rfl) rfl (by decide) u3 _ _ e8 (tI hrow hA) _ _ _ (iT (aJ xr)) e10 (Io _) hR hN (WD _) (by omega) (by omega) (by have:=hA.size;omega) ?_;intro v' w' h1 h2 h3 h4;have hbx:=(Blk.then_ b3 hA);have hbr:=(Blk.then_ b4 hA);have hro:=tI hrow hA;refine hK _ _ ⟨by rw[TJ];exact h1,.mkMid (hdesc 4 (by kernel_rfl)) (by decide) ⟨wL h3 hbx (AC hro (by omega)),wL h3 hbr (AC hro (by omega)),(hb.trans (hA.mono hb.size)).trans (h2.mono (by omega)),(zC hA).trans (K7 hro h3),((Below.refl w.heap.size W).trans (hA.mono hb.size)).trans (h2.mono (by omega)),by have:=hA.size;have:=h2.size;omega⟩,.inr (.inr ?_)⟩;intro j hj hf;match j with
    |0=>exact hf
    |1=>exact hf
    |2=>obtain⟨a,c,g1,g2,g3,g4⟩:=hf;exact⟨a,c,g1,g2.grown g4 (λk hk=>(qF hrow k hk).2) h3,g3,g4⟩
    |3=>grind
    |4=>omega
    |_+5=>exact trivial
   .intro D V wx hD hanc hdesc hin hWR;have hB:=hWR.mid (hanc 3 (by kernel_rfl)).1 hD;have e3:=hin 3 (by kernel_rfl);have e11:=(hanc 3 (by kernel_rfl)).2;refine opK ?_;intro K hK;have q0:=hB.1.cell 0;have f0:=hB.1.frozen 0;have e11:wx.ownsRow (w.heap.size+3) 46 4 (V 11) (E.length+(aJ xr).length) (iT (E++aJ xr)):=e11;obtain⟨ra,rc,hv11,_,_,_⟩:=Rd.GI e11;rw[hv11]at e11;simp[cI,execOp,bI,e3,hv11,q0,f0,go_sem];refine hK _ _ ⟨trivial,.mkHi ⟨_,by simpa using hB.1.iV 0 (.slice ra (E.length+(aJ xr).length) rc),zA e11 (by grind),hB.2.1.far (by simp) _,hB.2.2.1.setCell (p:=⟨w.heap.size+1,0,none⟩) (by simp) _,hB.2.2.2.1.trans (KeepsOthers.setCell _ _ _),hB.2.2.2.2.1.setCell (p:=⟨w.heap.size+1,0,none⟩) (by simp) _,by simpa using hB.2.2.2.2.2⟩,.inr (.inr ?_)⟩;intro j hj hf;match j with
    |0=>exact hf
    |1=>exact hf
    |2=>obtain⟨a,c,g1,g2,g3,g4⟩:=hf;exact⟨a,c,g1,g2.iV g4 b3.lt,g3,g4⟩
    |3=>exact zA hf (by grind)
    |4=>omega
    |_+5=>exact trivial
  intro D V wx hall hf hWR;replace hWR:=hWR.hi (by grind);have f0:V 8=u3:=hf 0 (by decide);have f1:V 9= .slice xa xr.length xc:=hf 1 (by decide);simp only[gq,vH,List.foldl_nil,f0,f1];obtain⟨v',k1,k2,k3,k4,k5,k6,k7⟩:=hWR;refine⟨k5,⟨k6,Eq.trans k3 (Eq.symm b4)⟩,⟨k3,v',k1,?_⟩,k7,k4⟩;rw[HE.out,fw];exact k2
end
noncomputable def Rs:Con:=Hi (a1 (aL .V)) (λl=>[0<l.length,l.length<=1000]) 44 .V (λl=>l) (λ_=>[])
def Rj:Rs.Okz 125:=OF (oK Bx.o) (raw:=uj) bg (λ_=>⟨[],rfl⟩) λl hp=>bC (aA ([] :List V) λA=>aA (A++l).length λB=>(0:Nat)<l.length/\A.length+l.length<=1000000/\A++l=l/\B=B) (by kernel_rfl) (by change 0<l.length/\l.length<=1000 at hp;exact⟨hp.1,by simp;omega,rfl,rfl⟩)
section
open Go.RowKit Go.Shelf
attribute [local go_sem] ym
def WZ(a:Option Addr)(c:Nat)(xs:List aEo)(w:World)(h:RdV w a xs)(h0:0<xs.length)(hl:Len ⟨a,c,xs⟩):
  Calls bD 125 #[.slice a xs.length c] w λe w'=>∃a' c',e= .returned (.slice a' xs.length c')/\Rd w' a' (js xs)/\jG w.heap.size a'/\(a'=none->c'=0)/\xs.length<=c'/\Below w.heap.size w w':=by
 have e1:js xs=(xs.flatMap λv=>[v.x,v.y]).map (cV .i64):=by unfold js;rw[CO];rfl
 rw[e1];exact NW (t:= .V) (l:=xs) (n:=xs.flatMap λv=>[v.x,v.y]) (by unfold LT.enc;rw[CO];rfl) h hl (Rj [.lst .V xs] xs rfl ((jK (l:=Rs.pre xs)).1 ⟨h0,hl.1⟩))
def RdV.grown{w w':World}{a:Option Addr}{xs:List aEo}{row:Option Nat}(h:RdV w a xs)(hr:0<xs.length->∀b,a=some b->row≠some b.block)(hg:w.grownBy w' row):RdV w' a xs:=by intro i hi;obtain⟨b,off,rfl,hb,h0,h1⟩:=h i hi;have e:=hg.block b hb (λe=>hr (by omega) _ rfl e.symm);exact⟨b,off,rfl,vU hb hg.size,(i6 (a:=⟨b,_,none⟩) e).trans h0,(i6 (a:=⟨b,_,none⟩) e).trans h1⟩
def RdV.iV{w:World}{a:Option Addr}{xs:List aEo}{p:Addr}{u:Value}(h:RdV w a xs)(hp:0<xs.length->∀b,a=some b->p.block≠b.block):RdV (w.setCell p u) a xs:=by intro i hi;obtain⟨b,off,rfl,hb,h0,h1⟩:=h i hi;have e:=Below.heap_setCell w p u b (λe=>hp (by omega) _ rfl (by grind));exact⟨b,off,rfl,by grind,(i6 (a:=⟨b,_,none⟩) e).trans h0,(i6 (a:=⟨b,_,none⟩) e).trans h1⟩
def RdV.own{W W':World}{a:Option Addr}{xs:List aEo}{row:Option Nat}(h:RdV W a xs)(hg:W.grownBy W' row)(hr:∀r,row=some r->∃o:Obj,W.heap[r]? =some o/\o.isCells=false):RdV W' a xs:=by intro i hi;obtain⟨b,off,rfl,hb,h0,h1⟩:=h i hi;exact⟨b,off,rfl,vU hb hg.size,cell_kept h0 hg hr,cell_kept h1 hg hr⟩
def RdV.lt{w:World}{a:Option Addr}{xs:List aEo}(h:RdV w a xs)(h0:0<xs.length):∀b,a=some b->b.block<w.heap.size:=by intro b e;obtain⟨b',off,he,hb,_⟩:=h 0 h0;grind
structure RingOk(base:Nat)(w:World)(v:Value)(x:RV):Prop where
 rd:RdV w x.a x.r
 fresh:jG base x.a
 cap:x.r.length<=x.c
 len:x.r.length<=1000
 sep:0<x.r.length->∀b,x.a=some b->v.ownBlock≠some b.block
structure Rings(base bx:Nat)(w:World)(v:Value)(rs:List RV):Prop where
 box:Blk w bx 24 #[v]
 row:w.ownsRow base 23 1 v rs.length (rs.map RV.enc)
 ok:∀x∈rs,RingOk base w v x
def Vf{β:Type}{B base bx:Nat}{p:β->List RV->Prop}:OwnFrom B (λ(s:β) W=>∃v rs,Rings base bx W v rs/\p s rs):=λs W W' row ⟨v,rs,h,hp⟩ hg hr=>
 ⟨v,rs,⟨mb (cs:=λ_:β=> #[v]) s W W' row h.box hg hr,DB h.row hg (λr e=>(hr r e).2),λx hx=>⟨(h.ok x hx).rd.own hg (λr e=>(hr r e).2),(h.ok x hx).fresh,(h.ok x hx).cap,(h.ok x hx).len,(h.ok x hx).sep⟩⟩,hp⟩
def Sh(o:RV)(ah:Option Addr)(ch:Nat)(hs:List RV)(w:World)(H:RdSh w o ah hs)(hp0:∀x∈o::hs,0<x.r.length):
  Calls bD 56 #[.agg #[RV.enc o,.slice ah hs.length ch]] w λe w'=>∃(v:Value) (rs:List RV),e= .returned v/\rs.map RV.r=aE (du o hs)/\w'.ownsRow w.heap.size 23 1 v rs.length (rs.map RV.enc)/\(∀x∈rs,RingOk w.heap.size w' v x)/\Below w.heap.size w w':=by
 refine(callsIn_wide (n:=9)).1 (callsIn_of_wp_marks Tryz.func56 rfl trivial ((wpIn_wide (n:=9)).2 ?_) rfl);simp only[Tryz.ntmps56,rJ,gY,mH,vu,vw,vz,v6,v7,v8,rM,j7];dsimp only[RV.enc]
 go_wp2_with fail
 refine(zY o ah hs.length ch _).mono ?_;rintro e w1 ⟨rfl,rfl⟩
 go_wp2_with fail
 have B3:=(Blk.new (w.alloc (.cells #[.slice o.a o.r.length o.c,.slice ah hs.length ch] 26)) 24 #[.slice none 0 0]).alloc (.cells #[RV.enc o,.slice ah hs.length ch] 26);have B4:=Blk.new ((w.alloc (.cells #[.slice o.a o.r.length o.c,.slice ah hs.length ch] 26)).alloc (.cells #[.slice none 0 0] 24)) 26 #[RV.enc o,.slice ah hs.length ch];have hBW:Below w.heap.size w ((((w.alloc (.cells #[.slice o.a o.r.length o.c,.slice ah hs.length ch] 26)).alloc (.cells #[.slice none 0 0] 24))).alloc (.cells #[RV.enc o,.slice ah hs.length ch] 26)):=(((Below.refl _ _).alloc (bQ _) _).alloc (by simp) _).alloc (by simp;omega) _;have hs0:w.heap.size+3=((((w.alloc (.cells #[.slice o.a o.r.length o.c,.slice ah hs.length ch] 26)).alloc (.cells #[.slice none 0 0] 24))).alloc (.cells #[RV.enc o,.slice ah hs.length ch] 26)).heap.size:=by simp
 simp only[World.size_alloc]at B3 B4;generalize (((w.alloc (.cells #[.slice o.a o.r.length o.c,.slice ah hs.length ch] 26)).alloc (.cells #[.slice none 0 0] 24))).alloc (.cells #[RV.enc o,.slice ah hs.length ch] 26)=W0 at B3 B4 hBW hs0|-;refine(wpIn_wide (n:=9)).1 ?_
 refine' wpIn_rangeFunc_ownF (F:=Fence.wide) (n:=9) rfl (by omega) (gf:=179) (lb:= #[.pointer (some ⟨w.heap.size+1+1,0,none⟩)]) rfl trivial (enters_of Cn (by kernel_rfl) rfl)
  (yy Fence.wide 8 trivial rfl (by omega) (w.heap.size+1+1) w.heap.size o ah ch hs H.n W0 (by omega) B4 (H.h.below hBW)) Kp2.trans (Bm (by omega) (by omega)) (Below.refl _ _) (λ_=>rfl)
  (λpre W=>(Blk W (w.heap.size+1+1) 26 #[RV.enc o,.slice ah hs.length ch]/\∃v rs,Rings (w.heap.size+3) (w.heap.size+1) W v rs/\rs.map RV.r=pre.map λx=>x.1.r)/\(w.heap.size+3<=W.heap.size/\Below w.heap.size w W))
  (λc pre W=>False/\False)
  (OwnFrom.and (OwnFrom.and mb Vf) (OwnFrom.and (λs A B row h hg _=>cR h hg.size) (ownFrom_below (bQ _) (by omega))))
  (λc=>OwnFrom.and ql ql)
  ⟨⟨B4,_,[],⟨B3,IC _ _ _ _,λx hx=>by cases hx⟩,rfl⟩,by omega,hBW⟩ _ ?assign ?body ?done ?stop
 case assign=>
  intro l x W K hK;dsimp only[RV.enc]
  gi_wp2
  exact hK
 case stop=>
  grind
 case done=>
  rintro D xs W hD hxs ⟨⟨b4,v,rs,hR,hm⟩,_,hb⟩ hK;have c3:=hR.box.cell 0;simp at c3;have hD2:w.heap.size<=D:=by omega
  have hm2:rs.map RV.r=aE (du o hs):=by
   have e:(xs.map λx=>x.1.r)=(xs.map (·.1)).map RV.r:=by rw[cv];rfl
   rw[hm,e,hxs];rfl
  clear hxs b4 B3 B4 hBW hs0 hD hm;have hmk:∀x∈rs,RingOk w.heap.size (W.putObj D (.deferred none)) v x:=λx hx=>⟨(hR.ok x hx).rd.own (grownBy_putObj' W D _) (λr e=>by cases e;exact⟨_,hK,rfl⟩),(hR.ok x hx).fresh.mono (by omega),(hR.ok x hx).cap,(hR.ok x hx).len,(hR.ok x hx).sep⟩;have hrow:=hR.row;clear hR
  go_wp2
  exact Dm (v:=v) rfl rfl hK ⟨v,rs,rfl,hm2,Ij (Ii hrow hK _) (by omega),hmk,hb.trans (mS hD2 hK)⟩
 case body=>
  rintro l pre ⟨⟨xa,xc,xr⟩,hxm⟩ W ⟨⟨b4,u3,rs,hR,hm⟩,hsz,hb⟩ hlen;obtain⟨hxr,hxl⟩:=H.v _ hxm;dsimp only at hxr hxl;have hxn:xr.length<=1000:=hxl.1;have hrl:rs.length<=1001:=by have h1:=congrArg fW hm;have h2:=H.n;simp at h1;omega
  have HE:Hid (∀rs':List RV,rs'.map RV.r=rs.map RV.r++[xr]->rs'.map RV.r=(pre++[(⟨⟨xa,xc,xr⟩,hxm⟩:Mem o hs)]).map λx=>x.1.r):=Lib.hid (λrs' h=>by grind);have b3:=hR.box;have hrow:=hR.row;clear hm B3 B4 hBW hs0;refine wpIn_block ?_;dsimp only[RV.enc];refine Cv (by kernel_rfl) (by kernel_rfl) [8,9,10,11,12] [[],[],[1],[1,2],[0,1,2,3],[0,1,2,3,4]] (by kernel_rfl) (by kernel_rfl) (by simp_all)
   (WR3 4 5 (λwx=>Below W.heap.size W wx) (λwx=>(∀x∈rs,RdV wx x.a x.r)/\Blk wx (w.heap.size+1) 24 #[u3]/\Blk wx (w.heap.size+1+1) 26 #[RV.enc o,.slice ah hs.length ch]/\Below w.heap.size w wx/\KeepsOthers W wx/\Below w.heap.size W wx/\w.heap.size+3<=wx.heap.size) (λwx=>∃v rs',Rings (w.heap.size+3) (w.heap.size+1) wx v rs'/\rs'.map RV.r=rs.map RV.r++[xr]/\Blk wx (w.heap.size+1+1) 26 #[RV.enc o,.slice ah hs.length ch]/\Below w.heap.size w wx/\KeepsOthers W wx/\Below w.heap.size W wx/\w.heap.size+3<=wx.heap.size))
   (λi v wx=>match i with
     |0=>v=u3
     |1=>v= .slice xa xr.length xc
     |2=>∃a c,v= .slice a xr.length c/\RdV wx a xr/\jG W.heap.size a/\xr.length<=c
     |3=>∃a c g,v= .slice (some ⟨g,0,none⟩) 1 1/\Blk wx g 23 #[.slice a xr.length c]/\W.heap.size<=g/\RdV wx a xr/\jG W.heap.size a/\xr.length<=c
     |4=>∃a c,wx.ownsRow (w.heap.size+3) 23 1 v (rs.length+1) (rs.map RV.enc++[.slice a xr.length c])/\RdV wx a xr/\jG W.heap.size a/\xr.length<=c/\(∀k,v.ownBlock=some k->u3.ownBlock=some k\/W.heap.size<=k)/\(0<xr.length->∀b,a=some b->v.ownBlock≠some b.block)
     |5=>True
     |_=>True)
   (WR3.start (Below.refl _ _).drew) ?_ ?_ ?_
  .intro j v wx wy hf hxy;match j with
   |0=>exact hf
   |1=>exact hf
   |2=>obtain⟨a,c,h1,h2,h3⟩:=hf;exact⟨a,c,h1,h2.below hxy,h3⟩
   |3=>obtain⟨a,c,g,h1,h2,h3,h4,h5⟩:=hf;exact⟨a,c,g,h1,h2.then_ hxy,h3,h4.below hxy,h5⟩
   |4=>obtain⟨a,c,h1,h2,h3⟩:=hf;exact⟨a,c,tI h1 hxy,h2.below hxy,h3⟩
   |5=>exact hf
   |_+6=>exact trivial
  .refine⟨?_,?_,?_,?_,?_,?_,trivial⟩
   .intro D V wx hD hanc hdesc hin hWR;have hA:=hWR.lo (hdesc 4 (by kernel_rfl)) (hdesc 5 (by kernel_rfl));have e3:=hin 3 (by kernel_rfl);simp at e3;have q0:=(Blk.then_ b3 hA).cell 0;simp at q0;refine opK ?_;intro K hK;simp[cI,execOp,bI,e3,q0,go_sem];exact hK _ _ ⟨rfl,(hWR.keep (by decide) (by decide)),.inl rfl⟩
   .intro D V wx hD hanc hdesc hin hWR;have hA:=hWR.lo (hdesc 4 (by kernel_rfl)) (hdesc 5 (by kernel_rfl));have e4:=hin 4 (by kernel_rfl);simp at e4;refine opK ?_;intro K hK;simp[cI,execOp,bI,e4,go_sem];exact hK _ _ ⟨rfl,(hWR.keep (by decide) (by decide)),.inl rfl⟩
   .intro D V wx hD hanc hdesc hin hWR;have hA:=hWR.lo (hdesc 4 (by kernel_rfl)) (hdesc 5 (by kernel_rfl));have e9:V 9= .slice xa xr.length xc:=(hanc 1 (by kernel_rfl)).2;refine opK ?_;intro K hK;simp[cI,execOp,bI,e9,go_sem];refine(WZ xa xc xr _ (hxr.below (hb.trans (hA.mono hb.size))) (hp0 _ hxm) hxl).mono ?_;rintro e w1 ⟨a,c,rfl,hR',hF,hN,hC,hc⟩;exact⟨_,rfl,hK _ _ ⟨⟨a,c,rfl,RdV.aA1 hR',hF.mono hA.size,hC⟩,(.mkLo (hdesc 4 (by kernel_rfl)) (hdesc 5 (by kernel_rfl)) (by decide) (by decide) (Below.then_ hA hc)),.inr (.inl hc)⟩⟩
   .intro D V wx hD hanc hdesc hin hWR;have hA:=hWR.lo (hdesc 4 (by kernel_rfl)) (hdesc 5 (by kernel_rfl));have e10:=(hanc 2 (by kernel_rfl)).2;refine opK ?_;intro K hK;obtain⟨a,c,e10,r1,r2,r3⟩:=e10;have e10:V 10=_:=e10;simp[cI,execOp,bI,e10,go_sem];refine hK _ _ ⟨⟨a,c,_,rfl,Blk.new _ _ _,hA.size,r1.below ((Below.refl _ _).alloc (bQ _) _),r2,r3⟩,(.mkLo (hdesc 4 (by kernel_rfl)) (hdesc 5 (by kernel_rfl)) (by decide) (by decide) (hA.alloc hA.size _)),.inr (.inl ((Below.refl _ _).alloc (bQ _) _))⟩
   .intro D V wx hD hanc hdesc hin hWR;have hA:=hWR.lo hD (hdesc 5 (by kernel_rfl));have e8:V 8=u3:=(hanc 0 (by kernel_rfl)).2;have e11:=(hanc 3 (by kernel_rfl)).2;refine opK ?_;intro K hK;obtain⟨a,c,g,e11,k1,k2,k3,k4,k5⟩:=e11;have e11:V 11=_:=e11;refine Dq (.tmp 8) (.tmp 11) 24 rfl (w.heap.size+3) 23 (.slice none 0 0) 1 24 Tryz.underlying24 (by kernel_rfl) rfl (by decide) u3 _ _ e8 (tI hrow hA) _ _ _ [.slice a xr.length c] e11 rfl (Rd.aAo k1) (λh=>by cases h) (by intro u hu;simp at hu;subst hu;rfl) (by omega) (by omega) (by have:=hA.size;omega) ?_;intro v' w' h1 h2 h3 h4;have hbx:=(Blk.then_ b3 hA);have hbr:=(Blk.then_ b4 hA);have hro:=tI hrow hA;have hlt:=k3.lt;refine hK _ _ ⟨⟨a,c,h1,k3.grown (λ_ b hb e=>by have:=k4 b hb;have:=(qF hrow _ e).2;omega) h3,k4,k5,(λk hk=>(h4 k hk).imp id (λh=>cR hA.size h)),(λh0 b hb e=>by have:=hlt h0 b hb;have:=k4 b hb;rcases h4 _ e with h|h<;>first|omega|(have:=(qF hrow _ h).2;omega))⟩,.mkMid (hdesc 5 (by kernel_rfl)) (by decide) ⟨(λx hx=>((hR.ok x hx).rd.below hA).grown (hR.ok x hx).sep h3),wL h3 hbx (AC hro (by omega)),wL h3 hbr (AC hro (by omega)),(hb.trans (hA.mono hb.size)).trans (h2.mono (by omega)),(zC hA).trans (K7 hro h3),((Below.refl w.heap.size W).trans (hA.mono hb.size)).trans (h2.mono (by omega)),by have:=hA.size;have:=h2.size;omega⟩,.inr (.inr ?_)⟩;intro j hj hf;match j with
    |0=>exact hf
    |1=>exact hf
    |2=>obtain⟨a,c,g1,g2,g3,g4⟩:=hf;exact⟨a,c,g1,g2.grown (λ_ b hb e=>by have:=g3 b hb;have:=(qF hrow _ e).2;omega) h3,g3,g4⟩
    |3=>obtain⟨a,c,g,g1,g2,g5,g6,g3,g4⟩:=hf;exact⟨a,c,g,g1,wL h3 g2 (λe=>by have:=(qF hrow _ e).2;omega),g5,g6.grown (λ_ b hb e=>by have:=g3 b hb;have:=(qF hrow _ e).2;omega) h3,g3,g4⟩
    |4=>grind
    |5=>omega
    |_+6=>exact trivial
   .intro D V wx hD hanc hdesc hin hWR;have hB:=hWR.mid (hanc 4 (by kernel_rfl)).1 hD;have e3:=hin 3 (by kernel_rfl);simp at e3;have e12:=(hanc 4 (by kernel_rfl)).2;refine opK ?_;intro K hK;have q0:=hB.2.1.cell 0;have f0:=hB.2.1.frozen 0;simp at q0;obtain⟨a,c,e12,k2,k3,k4,k5,k6⟩:=e12;have e12:wx.ownsRow (w.heap.size+3) 23 1 (V 12) (rs.length+1) (rs.map RV.enc++[.slice a xr.length c]):=e12;have e3:V 3=_:=e3;have k5:∀k,(V 12).ownBlock=some k->_:=k5;have k6:0<xr.length->∀b,a=some b->(V 12).ownBlock≠some b.block:=k6;obtain⟨ra,rc,hv,_,_,_⟩:=Rd.GI e12;rw[hv]at e12 k5 k6;simp[cI,execOp,bI,e3,hv,q0,f0,go_sem];have HRK:∀x∈rs++[(⟨a,c,xr⟩:RV)],RingOk (w.heap.size+3) (wx.setCell ⟨w.heap.size+1,0,none⟩ (.slice ra (rs.length+1) rc)) (.slice ra (rs.length+1) rc) x:=by
     intro x hx;rcases bq.1 hx with h|h
     .have ok:=hR.ok x h;refine⟨(hB.1 x h).iV (λ_ b hb=>by have:=ok.fresh b hb;grind),ok.fresh,ok.cap,ok.len,λh0 b hb e=> ?_⟩;rcases k5 _ e with e2|e2
      .exact ok.sep h0 b hb e2
      .have:=ok.rd.lt h0 b hb;omega
     .simp at h;subst h;exact⟨k2.iV (λ_ b hb=>by have:=k3 b hb;grind),k3.mono hsz,k4,hxn,k6⟩
    refine hK _ _ ⟨trivial,.mkHi ⟨_,rs++[⟨a,c,xr⟩],⟨by simpa using hB.2.1.iV 0 (.slice ra (rs.length+1) rc),by simpa[RV.enc]using zA e12 (by grind),HRK⟩,by simp,hB.2.2.1.far (by simp) _,hB.2.2.2.1.setCell (p:=⟨w.heap.size+1,0,none⟩) (by simp) _,hB.2.2.2.2.1.trans (KeepsOthers.setCell _ _ _),hB.2.2.2.2.2.1.setCell (p:=⟨w.heap.size+1,0,none⟩) (by simp) _,by simpa using hB.2.2.2.2.2.2⟩,.inr (.inr ?_)⟩;intro j hj hf;match j with
    |0=>exact hf
    |1=>exact hf
    |2=>obtain⟨a,c,g1,g2,g3,g4⟩:=hf;exact⟨a,c,g1,g2.iV (λ_ b hb=>by have:=g3 b hb;grind),g3,g4⟩
    |3=>obtain⟨a,c,g,g1,g2,g5,g6,g3,g4⟩:=hf;exact⟨a,c,g,g1,g2.far (by grind) _,g5,g6.iV (λ_ b hb=>by have:=g3 b hb;grind),g3,g4⟩
    |4=>obtain⟨a,c,g1,g2,g3,g4,g5,g6⟩:=hf;exact⟨a,c,zA g1 (by grind),g2.iV (λ_ b hb=>by have:=g3 b hb;grind),g3,g4,g5,g6⟩
    |5=>omega
    |_+6=>exact trivial
  intro D V wx hall hf hWR;replace hWR:=hWR.hi (hall 5 (by decide));have f0:V 8=u3:=hf 0 (by decide);have f1:V 9= .slice xa xr.length xc:=hf 1 (by decide);have f2:=hf 2 (by decide);have f3:=hf 3 (by decide);have f4:=hf 4 (by decide);clear hf hall;simp only[gq,vH,List.foldl_nil,f0,f1];simp only[mL,List.setIfInBounds_toArray,List.set_cons_succ,List.set_cons_zero];clear f0 f1;obtain⟨v',rs',k1,k2,k3,k4,k5,k6,k7⟩:=hWR;exact⟨k5,⟨k6,Eq.trans k3 (Eq.symm b4)⟩,⟨k3,v',rs',k1,HE.out _ k2⟩,k7,k4⟩
end
end Go.Proofs.YtdaeofhdgabhjaaGreat
